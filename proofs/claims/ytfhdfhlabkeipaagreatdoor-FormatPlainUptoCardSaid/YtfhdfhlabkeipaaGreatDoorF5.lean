/- Format: a name's value, of the innermost scope that has one. Format: a text, step by step. No program in sight. -/
import Derived.Test.YtfhdfhlabkeipaaGreatDoorC9
import Derived.Test.YtfhdfhlabkeipaaGreatDoorF4
namespace Go.Proofs.YtfhdfhlabkeipaaGreatDoor
open Go.RowKit
set_option linter.unusedSimpArgs false
set_option linter.unusedVariables false

theorem valueL_none {scs : List (Option Sc)} {d : Nat} (h : scs.length ≤ d) (name : B) : valueL (scs.drop d) name = some none := by
  rw [List.drop_eq_nil_of_le h]; rfl
theorem valueL_at {scs : List (Option Sc)} {d : Nat} {o : Option Sc} (h : scs[d]? = some o) (name : B) : valueL (scs.drop d) name = match o with
    | none => none
    | some sc => match inL sc.vars name with
      | some v => some (some v)
      | none => valueL (scs.drop (d + 1)) name := by
  obtain ⟨h1, h2⟩ := List.getElem?_eq_some_iff.1 h
  rw [List.drop_eq_getElem_cons h1, h2]
  cases o <;> rfl
theorem own_rd {w : World} {base size n : Nat} {e : TypeId} {ab c : Nat} {xs : List Value} (h : w.ownsRow base e size (.slice (some ⟨ab, 0, none⟩) n c) n xs) : Rd w (some ⟨ab, 0, none⟩) xs := by
  obtain ⟨A, c', h1, h2, _⟩ := Rd.of_own h
  injection h1 with h1
  rw [h1]; exact h2

set_option maxHeartbeats 1000000 in
set_option maxRecDepth 100000 in
theorem value_any (base mb ab cap deep steps : Nat) (scs : List (Option Sc)) (name : B) (w : World) (hM : Mk base mb w ab cap scs deep steps) (hB : base ≤ w.heap.size) (hl : scs.length ≤ 1000) (v : Option B) (hv : valueL scs name = some v) :
    Calls Tryz.prog 40 #[.pointer (some ⟨mb, 0, none⟩), .string (st name)] w fun e w' => e = .returned (inV v) ∧ w.grownBy w' none := by
  have c0 := hM.c0
  obtain ⟨n, hn⟩ : ∃ n, n = scs.length := ⟨_, rfl⟩
  rw [← hn] at c0 hl
  have hw0 : IntKind.i64.wrap ((n : Int) - 1) = (n : Int) - 1 := by rw [IntKind.wrap_i64]; omega
  obtain ⟨cs, hO, hcs⟩ := hM.sc
  have hRow := own_rd hO
  replace hM := Lib.hid hM; replace hn := Lib.hid hn; replace hv := Lib.hid hv; replace hO := Lib.hid hO; replace hcs := Lib.hid hcs; replace hRow := Lib.hid hRow; replace hB := Lib.hid hB
  have hc0 := Lib.hid c0
  go_enter Tryz.func40, Tryz.ntmps40
  go_wp2_with fail
  clear c0
  go_loopw [6] (fun iv wr => ∃ (k : Nat) (x : Int), iv = .int .i64 x ∧ k ≤ n ∧ Hid (x = (k : Int) - 1 ∧ w.grownBy wr none ∧ some v = valueL (scs.drop (n - k)) name)) (fun iv _ => ((intOf iv) + 1).toNat)
  case atStart => exact ⟨n, (n : Int) - 1, rfl, Nat.le_refl _, Lib.hid ⟨rfl, World.grownBy.refl _ _, by rw [Nat.sub_self, List.drop_zero, hv.out]⟩⟩
  case round =>
    obtain ⟨k, x, rfl, hk, hI⟩ := hrel
    obtain ⟨hx, hG, hV⟩ := hI.out
    have c0 := hG.cell hc0.out (by simp)
    rcases k with _ | i
    · have hx1 : x = -1 := by omega
      subst hx1
      clear hx
      rw [Nat.sub_zero, valueL_none (by rw [hn.out]; exact Nat.le_refl _)] at hV
      obtain rfl : v = none := by injection hV
      replace hG := Lib.hid hG; replace hV := Lib.hid hV; replace hI := Lib.hid hI
      go_wp2_with fail
      go_ret2
      exact ⟨rfl, hG.out⟩
    · have hx1 : x = (i : Int) := by omega
      subst hx1
      clear hx
      obtain ⟨o, ho⟩ : ∃ o, scs[n - (i + 1)]? = some o := ⟨scs[n - (i + 1)]'(by have := hn.out; omega), List.getElem?_eq_getElem _⟩
      have hor : scs.reverse[i]? = some o := by
        rw [List.getElem?_reverse (by rw [← hn.out]; omega), ← hn.out, ← ho]
        congr 1
        omega
      obtain ⟨v1, v2, q1, q2, q3, q4, q5⟩ := hcs.out i o hor
      rw [valueL_at ho] at hV
      cases o with
      | none => cases hV
      | some sc =>
        obtain ⟨hS1, hS2⟩ := (q5 sc rfl).below (w' := wr) ⟨hG.os, hG.tape, hG.output, hG.size, fun k hk => hG.block k (Nat.lt_of_lt_of_le hk hB.out) (by simp)⟩
        obtain ⟨Av, nv, cv, rfl, hnv, hv63, hRv, hbv⟩ := hS1
        obtain ⟨Al, nl, cl, rfl, hx2⟩ := hS2
        clear hx2
        dsimp only at hV
        have CI := Lib.hid (fun W (g : wr.grownBy W none) => in_any Av Al nv cv nl cl sc.vars name W hnv hv63 (hRv.grown g (.inl rfl)))
        obtain ⟨b', f', e', hb', k0⟩ := (hRow.out.grown hG (.inl rfl)).at_ q1
        cases e'
        obtain ⟨b', f', e', hb'', k1⟩ := (hRow.out.grown hG (.inl rfl)).at_ q2
        cases e'
        rw [Nat.zero_add] at k0 k1
        have hin : (i : Int) < (n : Int) := by omega
        have hw1 : IntKind.i64.wrap ((i : Int) - 1) = (i : Int) - 1 := by rw [IntKind.wrap_i64]; omega
        have hi0 : (0 : Int) ≤ (i : Int) := by omega
        replace hnv := Lib.hid hnv; replace hRv := Lib.hid hRv; replace hG := Lib.hid hG; replace hI := Lib.hid hI; replace ho := Lib.hid ho; replace hor := Lib.hid hor; replace q1 := Lib.hid q1; replace q2 := Lib.hid q2; replace hV := Lib.hid hV; replace q5 := Lib.hid q5
        clear hbv hv63 hb' hb'' q3 q4
        cases hi : inL sc.vars name with
        | some u =>
          rw [hi] at CI
          have hvu : v = some u := by have := hV.out; rw [hi] at this; injection this
          subst hvu
          replace hi := Lib.hid hi
          unfold inV at CI
          dsimp only [Option.getD_some, Option.isSome_some] at CI
          go_wp2_with fail
          refine (CI.out wr (World.grownBy.refl _ _)).mono ?_
          rintro e w1 ⟨rfl, G1⟩
          have hGG := hG.out.trans G1
          replace hGG := Lib.hid hGG; replace G1 := Lib.hid G1
          go_wp2_with fail
          go_ret2
          exact ⟨rfl, hGG.out⟩
        | none =>
          rw [hi] at CI
          have hV2 := hV.out
          rw [hi] at hV2
          dsimp only at hV2
          replace hV2 := Lib.hid hV2
          replace hi := Lib.hid hi
          unfold inV at CI
          dsimp only [Option.getD_none, Option.isSome_none] at CI
          go_wp2_with fail
          refine (CI.out wr (World.grownBy.refl _ _)).mono ?_
          rintro e w1 ⟨rfl, G1⟩
          have hGG := hG.out.trans G1
          replace hGG := Lib.hid hGG; replace G1 := Lib.hid G1
          go_wp2_with fail
          exact ⟨⟨i, (i : Int) - 1, by first | rfl | rw [hw1], by omega, Lib.hid ⟨rfl, hGG.out, by rw [show n - i = n - (i + 1) + 1 by omega]; exact hV2.out⟩⟩, by simp [intOf]⟩
end Go.Proofs.YtfhdfhlabkeipaaGreatDoor
namespace Go.Proofs.YtfhdfhlabkeipaaGreatDoor
set_option linter.unusedSimpArgs false
set_option linter.unusedVariables false

section
variable {ex : B → Nat → Rs} {scs : List (Option Sc)}
def chk (acc : B) (r : Rs) : Rs := if acc.length ≤ 8192 then r else .bad 2
theorem textF_cons (f : Nat) (c0 : UInt8) (r acc : B) (n : Nat) : textF ex scs (f + 1) (c0 :: r) acc n =
    (let c : UInt8 := if c0 = 35 then r.headD 0 else 0
    if c = 35 ∨ c = 44 ∨ c = 125 then chk (acc ++ [c]) (textF ex scs f r.tail (acc ++ [c]) n)
    else if c = 123 then
      match closeL r.tail 1 0 with
      | none => .bad 4
      | some k => (ex (r.tail.take k) n).bind fun v n' => chk (acc ++ v) (textF ex scs f (r.tail.drop (k + 1)) (acc ++ v) n')
    else if namedL c ≠ [] then
      match valueL scs (namedL c) with
      | none => .no
      | some v => if (v.getD []).length ≤ 1000000 then chk (acc ++ v.getD []) (textF ex scs f r.tail (acc ++ v.getD []) n) else .no
    else chk (acc ++ [c0]) (textF ex scs f r (acc ++ [c0]) n)) := rfl
theorem textF_fuel : ∀ (f g : Nat) (r acc : B) (n : Nat), r.length ≤ f → r.length ≤ g → textF ex scs f r acc n = textF ex scs g r acc n
  | 0, 0, _, _, _, _, _ => rfl
  | 0, g + 1, r, acc, n, h, _ => by
    have := List.eq_nil_of_length_eq_zero (Nat.le_zero.1 h)
    subst this
    rfl
  | f + 1, 0, r, acc, n, _, h => by
    have := List.eq_nil_of_length_eq_zero (Nat.le_zero.1 h)
    subst this
    rfl
  | f + 1, g + 1, r, acc, n, hf, hg => by
    cases r with
    | nil => rfl
    | cons c0 r =>
      simp only [List.length_cons] at hf hg
      have ht : ∀ acc n, textF ex scs f r.tail acc n = textF ex scs g r.tail acc n := fun acc n => textF_fuel f g _ _ _ (by rw [List.length_tail]; omega) (by rw [List.length_tail]; omega)
      have hd : ∀ k acc n, textF ex scs f (r.tail.drop k) acc n = textF ex scs g (r.tail.drop k) acc n := fun k acc n => textF_fuel f g _ _ _ (by rw [List.length_drop, List.length_tail]; omega) (by rw [List.length_drop, List.length_tail]; omega)
      have h0 : ∀ acc n, textF ex scs f r acc n = textF ex scs g r acc n := fun acc n => textF_fuel f g _ _ _ (by omega) (by omega)
      rw [textF_cons, textF_cons]
      simp only [ht, hd, h0]
def textG (ex : B → Nat → Rs) (scs : List (Option Sc)) (r acc : B) (n : Nat) : Rs := textF ex scs r.length r acc n
theorem textL_G (s : B) (n : Nat) : textL ex scs s n = textG ex scs s [] n := rfl
theorem textG_F {f : Nat} {r acc : B} {n : Nat} (h : r.length ≤ f) : textF ex scs f r acc n = textG ex scs r acc n := textF_fuel _ _ _ _ _ h (Nat.le_refl _)
theorem textG_cons (c0 : UInt8) (r acc : B) (n : Nat) : textG ex scs (c0 :: r) acc n =
    (let c : UInt8 := if c0 = 35 then r.headD 0 else 0
    if c = 35 ∨ c = 44 ∨ c = 125 then chk (acc ++ [c]) (textG ex scs r.tail (acc ++ [c]) n)
    else if c = 123 then
      match closeL r.tail 1 0 with
      | none => .bad 4
      | some k => (ex (r.tail.take k) n).bind fun v n' => chk (acc ++ v) (textG ex scs (r.tail.drop (k + 1)) (acc ++ v) n')
    else if namedL c ≠ [] then
      match valueL scs (namedL c) with
      | none => .no
      | some v => if (v.getD []).length ≤ 1000000 then chk (acc ++ v.getD []) (textG ex scs r.tail (acc ++ v.getD []) n) else .no
    else chk (acc ++ [c0]) (textG ex scs r (acc ++ [c0]) n)) := by
  have ht : ∀ acc n, textF ex scs r.length r.tail acc n = textG ex scs r.tail acc n := fun acc n => textG_F (by rw [List.length_tail]; omega)
  have hd : ∀ k acc n, textF ex scs r.length (r.tail.drop k) acc n = textG ex scs (r.tail.drop k) acc n := fun k acc n => textG_F (by rw [List.length_drop, List.length_tail]; omega)
  have h0 : ∀ acc n, textF ex scs r.length r acc n = textG ex scs r acc n := fun acc n => rfl
  conv => lhs; unfold textG
  rw [List.length_cons, textF_cons]
  simp only [ht, hd, h0]
variable {s acc : B} {i n : Nat} {c e : UInt8}
theorem tail_at {l : B} {k : Nat} : (l.drop (k + 1)).tail = l.drop (k + 2) := by rw [List.tail_drop]
theorem tg_end (h : s.length ≤ i) : textG ex scs (s.drop i) acc n = .ok acc n := by rw [List.drop_eq_nil_of_le h]; rfl
theorem tg_self (h0 : s[i]? = some c) (hc : c = 35) (h1 : s[i + 1]? = some e) (he : e = 35 ∨ e = 44 ∨ e = 125) : textG ex scs (s.drop i) acc n = chk (acc ++ [e]) (textG ex scs (s.drop (i + 2)) (acc ++ [e]) n) := by
  rw [drop_at h0, textG_cons, if_pos hc, head_at h1, tail_at]
  dsimp only
  rw [if_pos he]
theorem tg_open_none (h0 : s[i]? = some c) (hc : c = 35) (h1 : s[i + 1]? = some e) (he : e = 123) (hk : closeL (s.drop (i + 2)) 1 0 = none) : textG ex scs (s.drop i) acc n = .bad 4 := by
  rw [drop_at h0, textG_cons, if_pos hc, head_at h1, tail_at]
  dsimp only
  rw [if_neg (by rw [he]; decide), if_pos he, hk]
theorem tg_open {k : Nat} (h0 : s[i]? = some c) (hc : c = 35) (h1 : s[i + 1]? = some e) (he : e = 123) (hk : closeL (s.drop (i + 2)) 1 0 = some k) :
    textG ex scs (s.drop i) acc n = (ex ((s.drop (i + 2)).take k) n).bind fun v n' => chk (acc ++ v) (textG ex scs (s.drop (i + 2 + k + 1)) (acc ++ v) n') := by
  rw [drop_at h0, textG_cons, if_pos hc, head_at h1, tail_at]
  dsimp only
  rw [if_neg (by rw [he]; decide), if_pos he, hk]
  dsimp only
  rw [List.drop_drop, show i + 2 + (k + 1) = i + 2 + k + 1 by omega]
theorem tg_named (h0 : s[i]? = some c) (hc : c = 35) (h1 : s[i + 1]? = some e) (he : ¬ (e = 35 ∨ e = 44 ∨ e = 125)) (he2 : e ≠ 123) (hn : namedL e ≠ []) :
    textG ex scs (s.drop i) acc n = match valueL scs (namedL e) with
      | none => .no
      | some v => if (v.getD []).length ≤ 1000000 then chk (acc ++ v.getD []) (textG ex scs (s.drop (i + 2)) (acc ++ v.getD []) n) else .no := by
  rw [drop_at h0, textG_cons, if_pos hc, head_at h1, tail_at]
  dsimp only
  rw [if_neg he, if_neg he2, if_pos hn]
theorem tg_plain (h0 : s[i]? = some c) (h : c ≠ 35 ∨ s.length ≤ i + 1 ∨ ∃ e, s[i + 1]? = some e ∧ ¬ (e = 35 ∨ e = 44 ∨ e = 125) ∧ e ≠ 123 ∧ namedL e = []) : textG ex scs (s.drop i) acc n = chk (acc ++ [c]) (textG ex scs (s.drop (i + 1)) (acc ++ [c]) n) := by
  rw [drop_at h0, textG_cons]
  dsimp only
  rcases h with h | h | ⟨e, h1, h2, h3, h4⟩
  · rw [if_neg h, if_neg (by decide), if_neg (by decide), if_neg (by decide)]
  · rw [List.drop_eq_nil_of_le h]
    by_cases hc : c = 35
    · rw [if_pos hc]
      rw [List.headD_nil, if_neg (by decide), if_neg (by decide), if_neg (by decide)]
    · rw [if_neg hc, if_neg (by decide), if_neg (by decide), if_neg (by decide)]
  · by_cases hc : c = 35
    · rw [if_pos hc, head_at h1, if_neg h2, if_neg h3, if_neg (by rw [h4]; simp)]
    · rw [if_neg hc, if_neg (by decide), if_neg (by decide), if_neg (by decide)]
end
/-- Counting from further on. -/
theorem closeL_shift : ∀ (m : Nat) (l : B) (d k j : Nat), l.length ≤ m → closeL l d (k + j) = (closeL l d k).map (· + j) := by
  intro m
  induction m with
  | zero => intro l d k j h; have := List.eq_nil_of_length_eq_zero (Nat.le_zero.1 h); subst this; rfl
  | succ m ih =>
    intro l d k j h
    cases l with
    | nil => rfl
    | cons c r =>
      simp only [List.length_cons] at h
      have e1 : k + j + 1 = (k + 1) + j := by omega
      have e2 : k + j + 2 = (k + 2) + j := by omega
      rw [closeL_cons, closeL_cons, e1, e2]
      split
      · split
        · rfl
        · exact ih r _ _ _ (by omega)
      · split
        · cases r with
          | nil => rfl
          | cons e r' =>
            simp only [List.length_cons] at h
            dsimp only
            split
            · exact ih r' _ _ _ (by omega)
            · split
              · exact ih r' _ _ _ (by omega)
              · exact ih (e :: r') _ _ _ (by simp only [List.length_cons]; omega)
        · exact ih r _ _ _ (by omega)
theorem closeL_at (l : B) (i : Nat) : closeL l 1 i = (closeL l 1 0).map (· + i) := by
  have := closeL_shift l.length l 1 0 i (Nat.le_refl _)
  rwa [Nat.zero_add] at this
theorem closeL_lt : ∀ (m : Nat) (l : B) (d k j : Nat), l.length ≤ m → closeL l d k = some j → k ≤ j ∧ j < k + l.length := by
  intro m
  induction m with
  | zero => intro l d k j h hk; have := List.eq_nil_of_length_eq_zero (Nat.le_zero.1 h); subst this; cases hk
  | succ m ih =>
    intro l d k j h hk
    cases l with
    | nil => cases hk
    | cons c r =>
      rw [closeL_cons] at hk
      simp only [List.length_cons] at h ⊢
      split at hk
      · split at hk
        · injection hk with hk; omega
        · have := ih r _ _ _ (by omega) hk; omega
      · split at hk
        · cases r with
          | nil => cases hk
          | cons e r' =>
            simp only [List.length_cons] at h ⊢
            dsimp only at hk
            split at hk
            · have := ih r' _ _ _ (by omega) hk; omega
            · split at hk
              · have := ih r' _ _ _ (by omega) hk; omega
              · have := ih (e :: r') _ _ _ (by simp only [List.length_cons]; omega) hk; simp only [List.length_cons] at this; omega
        · have := ih r _ _ _ (by omega) hk; omega
end Go.Proofs.YtfhdfhlabkeipaaGreatDoor
