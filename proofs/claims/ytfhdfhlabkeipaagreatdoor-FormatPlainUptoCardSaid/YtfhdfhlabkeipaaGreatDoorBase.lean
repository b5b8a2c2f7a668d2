/- Format: over: what a loop goes over. Format: first: the modifier that a text begins: the letters that stand alone. Calc: a loop taken round by round. No program in sight. -/
import Derived.Test.YtfhdfhlabkeipaaGreatDoorC20
import Derived.Tactics
namespace Go.Proofs.YtfhdfhlabkeipaaGreatDoor
open Go.RowKit
set_option linter.unusedSimpArgs false
set_option linter.unusedVariables false

theorem overL_none {scs : List (Option Sc)} {d : Nat} (h : scs.length ≤ d) (k : UInt8) : overL (scs.drop d) k = some [] := by
  rw [List.drop_eq_nil_of_le h]; rfl
theorem overL_at {scs : List (Option Sc)} {d : Nat} {o : Option Sc} (h : scs[d]? = some o) (k : UInt8) : overL (scs.drop d) k = match o with
    | none => none
    | some sc => match loopIn sc.loops k with
      | some l => some l
      | none => overL (scs.drop (d + 1)) k := by
  obtain ⟨h1, h2⟩ := List.getElem?_eq_some_iff.1 h
  rw [List.drop_eq_getElem_cons h1, h2]
  cases o <;> rfl
theorem loopIn_at {l : List (UInt8 × List (List (B × B)))} {j : Nat} {p : UInt8 × List (List (B × B))} (h : l[j]? = some p) (k : UInt8) : loopIn (l.drop j) k = if p.1 = k then some p.2 else loopIn (l.drop (j + 1)) k := by
  obtain ⟨h1, h2⟩ := List.getElem?_eq_some_iff.1 h
  rw [List.drop_eq_getElem_cons h1, h2]
  rfl
theorem InsAt.nil (base : Nat) (w : World) : InsAt base w none [] := ⟨[], Rd.nil _ _, (by intro b h; cases h), (by intro j vs h; simp at h)⟩

def OverP (base : Nat) (l : List (List (B × B))) (w : World) (e : Ending) (w' : World) : Prop := ∃ A n c, e = .returned (.slice A n c) ∧ n = l.length ∧ n ≤ 9223372036854775807 ∧ InsAt base w' A l ∧ w.grownBy w' none

set_option maxHeartbeats 4000000 in
set_option maxRecDepth 100000 in
theorem over_any (base mb ab cap deep steps : Nat) (scs : List (Option Sc)) (kind : UInt8) (w : World) (hM : Mk base mb w ab cap scs deep steps) (hB : base ≤ w.heap.size) (hl : scs.length ≤ 1000) (l : List (List (B × B))) (hv : overL scs kind = some l) :
    Calls Tryz.prog 68 #[.pointer (some ⟨mb, 0, none⟩), .int .u8 (kind.toNat : Int)] w (OverP base l w) := by
  have c0 := hM.c0
  obtain ⟨n, hn⟩ : ∃ n, n = scs.length := ⟨_, rfl⟩
  rw [← hn] at c0 hl
  have hw0 : IntKind.i64.wrap ((n : Int) - 1) = (n : Int) - 1 := by rw [IntKind.wrap_i64]; omega
  obtain ⟨cs, hO, hcs⟩ := hM.sc
  have hRow := own_rd hO
  replace hM := Lib.hid hM; replace hn := Lib.hid hn; replace hv := Lib.hid hv; replace hO := Lib.hid hO; replace hcs := Lib.hid hcs; replace hRow := Lib.hid hRow; replace hB := Lib.hid hB
  have hc0 := Lib.hid c0
  go_enter Tryz.func68, Tryz.ntmps68
  go_wp2_with fail
  clear c0
  go_loopw [5] (fun iv wr => ∃ (k : Nat) (x : Int), iv = .int .i64 x ∧ k ≤ n ∧ Hid (x = (k : Int) - 1 ∧ w.grownBy wr none ∧ some l = overL (scs.drop (n - k)) kind)) (fun iv _ => ((intOf iv) + 1).toNat)
  case atStart => exact ⟨n, (n : Int) - 1, rfl, Nat.le_refl _, Lib.hid ⟨rfl, World.grownBy.refl _ _, by rw [Nat.sub_self, List.drop_zero, hv.out]⟩⟩
  case round =>
    obtain ⟨k, x, rfl, hk, hI⟩ := hrel
    obtain ⟨hx, hG, hV⟩ := hI.out
    have c0 := hG.cell hc0.out (by simp)
    rcases k with _ | i
    · have hx1 : x = -1 := by omega
      subst hx1
      clear hx
      rw [Nat.sub_zero, overL_none (by rw [hn.out]; exact Nat.le_refl _)] at hV
      have hl0 : l = [] := by injection hV
      replace hl0 := Lib.hid hl0
      replace hG := Lib.hid hG; replace hV := Lib.hid hV; replace hI := Lib.hid hI
      go_wp2_with fail
      go_ret
      exact ⟨none, 0, 0, rfl, by rw [hl0.out]; rfl, by omega, by rw [hl0.out]; exact InsAt.nil _ _, hG.out⟩
    · have hx1 : x = (i : Int) := by omega
      subst hx1
      clear hx
      obtain ⟨o, ho⟩ : ∃ o, scs[n - (i + 1)]? = some o := ⟨scs[n - (i + 1)]'(by have := hn.out; omega), List.getElem?_eq_getElem _⟩
      have hor : scs.reverse[i]? = some o := by
        rw [List.getElem?_reverse (by rw [← hn.out]; omega), ← hn.out, ← ho]
        congr 1
        omega
      obtain ⟨v1, v2, q1, q2, q3, q4, q5⟩ := hcs.out i o hor
      rw [overL_at ho] at hV
      cases o with
      | none => cases hV
      | some sc =>
        have hbel : Below base w wr := ⟨hG.os, hG.tape, hG.output, hG.size, fun k hk => hG.block k (Nat.lt_of_lt_of_le hk hB.out) (by simp)⟩
        obtain ⟨hS1, hS2⟩ := (q5 sc rfl).below hbel
        obtain ⟨Al, nl, cl, rfl, hnl, hl63, cs2, hR2, hb2, hc2⟩ := hS2
        dsimp only at hV
        obtain ⟨b', f', e', hb'', k1⟩ := (hRow.out.grown hG (.inl rfl)).at_ q2
        cases e'
        rw [Nat.zero_add] at k1
        have hin : (i : Int) < (n : Int) := by omega
        have hw1 : IntKind.i64.wrap ((i : Int) - 1) = (i : Int) - 1 := by rw [IntKind.wrap_i64]; omega
        have hi0 : (0 : Int) ≤ (i : Int) := by omega
        have hG0 := hG
        replace hnl := Lib.hid hnl; replace hR2 := Lib.hid hR2; replace hc2 := Lib.hid hc2; replace hb2 := Lib.hid hb2; replace hG := Lib.hid hG; replace hG0 := Lib.hid hG0; replace hI := Lib.hid hI; replace ho := Lib.hid ho; replace hor := Lib.hid hor; replace q1 := Lib.hid q1; replace q2 := Lib.hid q2; replace hV := Lib.hid hV; replace q5 := Lib.hid q5; replace hS1 := Lib.hid hS1; replace hbel := Lib.hid hbel
        clear hb'' q3 q4
        go_wp2_with fail
        go_loopw [27] (fun jv wq => ∃ j : Nat, jv = .int .i64 j ∧ j ≤ nl ∧ Hid (wr.grownBy wq none ∧ loopIn sc.loops kind = loopIn (sc.loops.drop j) kind)) (fun jv _ => nl - (intOf jv).toNat)
        case atStart => exact ⟨0, rfl, Nat.zero_le _, Lib.hid ⟨World.grownBy.refl _ _, by simp⟩⟩
        case round =>
          obtain ⟨j, rfl, hj, hJ⟩ := hrel
          obtain ⟨hGq, hLq⟩ := hJ.out
          have hGt := hG0.out.trans hGq
          by_cases hlt : j < nl
          · obtain ⟨p, hp⟩ : ∃ p, sc.loops[j]? = some p := ⟨sc.loops[j]'(by rw [← hnl.out]; exact hlt), List.getElem?_eq_getElem _⟩
            obtain ⟨A', n', c', r1, r2, r3, r4, r5⟩ := hc2.out j p hp
            have hR3 := hR2.out.grown hGq (.inl rfl)
            obtain ⟨bl, off, hA, _, k2⟩ := hR3.at_ r1
            subst hA
            obtain ⟨b', f', e', _, k3⟩ := hR3.at_ r2
            cases e'
            rw [← Nat.add_assoc] at k3
            have hst := hLq.trans (loopIn_at hp kind)
            have hlti : (j : Int) < (nl : Int) := by omega
            have hj0 : (0 : Int) ≤ (j : Int) := by omega
            have hbe : ((p.1.toNat : Int) == (kind.toNat : Int)) = decide (p.1 = kind) := by rw [u8_beq, Bool.eq_iff_iff, beq_iff_eq, decide_eq_true_eq]
            obtain ⟨pk, hpk⟩ : ∃ x : Int, x = (p.1.toNat : Int) := ⟨_, rfl⟩
            rw [← hpk] at k2 hbe
            replace hpk := Lib.hid hpk; replace hp := Lib.hid hp; replace r1 := Lib.hid r1; replace r2 := Lib.hid r2; replace r3 := Lib.hid r3; replace r4 := Lib.hid r4; replace hGq := Lib.hid hGq; replace hLq := Lib.hid hLq; replace hJ := Lib.hid hJ.out; replace hGt := Lib.hid hGt; replace hR3 := Lib.hid hR3
            by_cases he : p.1 = kind
            · rw [decide_eq_true he] at hbe
              rw [if_pos he] at hst
              have hV2 := hV.out
              rw [hst] at hV2
              have hlp : l = p.2 := by injection hV2
              have hIns : InsAt base (wr.alloc (.cells #[.int .u8 pk, .slice A' n' c'] 53)) A' p.2 := r5.below (Below.trans ⟨hGq.out.os, hGq.out.tape, hGq.out.output, hGq.out.size, fun k hk => hGq.out.block k (Nat.lt_of_lt_of_le hk (Nat.le_trans hB.out hG0.out.size)) (by simp)⟩ ⟨rfl, rfl, rfl, (World.grownBy_alloc wr _ none).size, fun k hk => Below.heap_alloc wr _ k (Nat.lt_of_lt_of_le hk (Nat.le_trans hB.out hGt.out.size))⟩)
              replace hst := Lib.hid hst; replace hV2 := Lib.hid hV2; replace hlp := Lib.hid hlp; replace hIns := Lib.hid hIns; replace he := Lib.hid he; replace r5 := Lib.hid r5
              go_wp2_with fail
              go_ret
              exact ⟨A', n', c', rfl, by rw [hlp.out]; exact r3.out, r4.out, by rw [hlp.out]; exact hIns.out, g_alloc hGt.out _⟩
            · rw [decide_eq_false he] at hbe
              rw [if_neg he] at hst
              replace hst := Lib.hid hst; replace he := Lib.hid he; replace r5 := Lib.hid r5
              go_wp2_with fail
              exact ⟨⟨j + 1, rfl, by omega, Lib.hid ⟨g_alloc hGq.out _, hst.out⟩⟩, by simp [intOf]; omega⟩
          · have hlti : ¬ ((j : Int) < (nl : Int)) := by omega
            have hV2 := hV.out
            have hno : loopIn sc.loops kind = none := by
              rw [hLq, List.drop_eq_nil_of_le (by rw [← hnl.out]; omega)]
              rfl
            rw [hno] at hV2
            dsimp only at hV2
            replace hV2 := Lib.hid hV2; replace hno := Lib.hid hno; replace hGq := Lib.hid hGq; replace hLq := Lib.hid hLq; replace hJ := Lib.hid hJ.out; replace hGt := Lib.hid hGt
            go_wp2_with fail
            exact ⟨⟨i, (i : Int) - 1, by first | rfl | rw [hw1], by omega, Lib.hid ⟨rfl, hGt.out, by rw [show n - i = n - (i + 1) + 1 by omega]; exact hV2.out⟩⟩, by simp [intOf]⟩
end Go.Proofs.YtfhdfhlabkeipaaGreatDoor
namespace Go.Proofs.YtfhdfhlabkeipaaGreatDoor
open Go.RowKit
set_option linter.unusedSimpArgs false
set_option linter.unusedVariables false

/-- A modifier as a value: its letter, a number, below, two texts. -/
def modV (c : UInt8) (n : Int) (bl : Bool) (a b : B) : Value := .agg #[.int .u8 (c.toNat : Int), .int .i64 n, .bool bl, .string (st a), .string (st b)]
def modC (c : UInt8) (n : Int) (bl : Bool) (a b : B) : Array Value := #[.int .u8 (c.toNat : Int), .int .i64 n, .bool bl, .string (st a), .string (st b)]

theorem info109 : (Tryz.prog.info? 109).map (fun i => i.size) = some 5 := by kernel_rfl
theorem res_mod {fn : Func} {p q r : Tmp} {w : World} {b : Nat} {c0 c1 c2 c3 c4 : Value} (h : fn.results = #[.cell p 109, .tmp q, .tmp r]) (tmps : Array Value) (hp : tmps.getD p undef = .pointer (some ⟨b, 0, none⟩)) (hm : w.heap[b]? = some (.cells #[c0, c1, c2, c3, c4] 109 (0, 0))) {u v : Value} (hq : tmps.getD q undef = u) (hr : tmps.getD r undef = v) :
    (results fn tmps).run Tryz.prog w = .ok (.tuple #[.agg #[c0, c1, c2, c3, c4], u, v]) w := by
  have hp' : tmps[p]?.getD undef = .pointer (some ⟨b, 0, none⟩) := by simpa using hp
  have hq' : tmps[q]?.getD undef = u := by simpa using hq
  have hr' : tmps[r]?.getD undef = v := by simpa using hr
  simp [results, h, hp', hq', hr', asAddr, run_loadVar_row w b 109 109 _ (0, 0) _ hm Tryz.underlying109 rfl (by rw [info109]; rfl)]

set_option maxRecDepth 100000 in
set_option maxHeartbeats 2000000 in
theorem first_letter (c : UInt8) (r : B) (w : World) (hc : c = 98 ∨ c = 117 ∨ c = 108) (hr : r.length ≤ 100000) :
    Calls Tryz.prog 91 #[.string (st (c :: r))] w fun e w' => e = .returned (.tuple #[modV c 0 false [] [], .string (st r), .bool true]) ∧ w.grownBy w' none := by
  obtain ⟨S, hS⟩ : ∃ S, S = st (c :: r) := ⟨_, rfl⟩
  obtain ⟨len, hlen⟩ : ∃ len, len = r.length + 1 := ⟨_, rfl⟩
  have hZ : S.size = len := by rw [hS, st_size, hlen]; rfl
  have hg := get_at (P := c :: r) (j := 0) (c := c) rfl hS
  have hne : S.toList.isEmpty = false := by rw [hS, empty_iff]; simp
  obtain ⟨SR, hSR⟩ : ∃ S, S = st r := ⟨_, rfl⟩
  have hx : S.extract 1 len = SR := by rw [hS, st_drop _ _ _ (by rw [hlen]; rfl), hSR]; rfl
  have hl1 : (1 : Int) ≤ (len : Int) := by omega
  have hl0 : (0 : Int) < (len : Int) := by omega
  have hm : modV c 0 false [] [] = .agg #[.int .u8 (c.toNat : Int), .int .i64 0, .bool false, .string ⟨#[]⟩, .string ⟨#[]⟩] := rfl
  rw [hm, ← hS, ← hSR]
  replace hS := Lib.hid hS; replace hlen := Lib.hid hlen; replace hSR := Lib.hid hSR; replace hm := Lib.hid hm
  have hres : Tryz.f91.results = #[.cell 2 109, .tmp 3, .tmp 4] := by kernel_rfl
  replace hres := Lib.hid hres
  rcases hc with rfl | rfl | rfl
  all_goals
    go_enter Tryz.func91, Tryz.ntmps91
    go_wp2_with fail
    refine bodyPost_ret (res_mod hres.out _ rfl (b := w.heap.size) (c0 := .int .u8 _) (c1 := .int .i64 0) (c2 := .bool false) (c3 := .string ⟨#[]⟩) (c4 := .string ⟨#[]⟩) ?_ rfl rfl) rfl ⟨rfl, ?_⟩
    · rw [alloc_get, if_neg (by rw [alloc_size]; omega), alloc_get, if_pos rfl]
      rfl
    · exact g_alloc (g_alloc (World.grownBy.refl _ _) _) _
theorem info109b : (Tryz.prog.info? 109).map (fun i => (i.zero, i.size, i.bytes)) = some (some (.agg #[.int .u8 0, .int .i64 0, .bool false, .string ⟨#[]⟩, .string ⟨#[]⟩]), 5, 56) := by kernel_rfl
end Go.Proofs.YtfhdfhlabkeipaaGreatDoor
namespace Go.Proofs.YtfhdfhlabkeipaaGreatDoor
open Go
set_option linter.unusedVariables false

section
variable {P : Program} {Q : Exit → Act → World → Prop} {a : Act} {w : World} {c : Code}
/-- From the head of a loop's round on. -/
def LoopWp (P : Program) (c : Code) (Q : Exit → Act → World → Prop) (a : Act) (w : World) : Prop :=
  ∀ b k cs, ∃ e a' w', Q e a' w' ∧ Arrives P (lone (b.at a (.code c :: .inLoop c :: k)) cs w) b k cs e a' w'
theorem wp_loop_in (h : LoopWp P c Q a w) : (Code.loop c).wp P Q a w := fun b k cs => by
  obtain ⟨e, a', w', hq, harr⟩ := h b k cs
  exact ⟨e, a', w', hq, .of_steps (.one step_loop) harr⟩
/-- A round, and the loop again behind it. -/
theorem loopWp_round (h : c.wp P (Exit.then (LoopWp P c Q) Q) a w) : LoopWp P c Q a w := by
  intro b k cs
  obtain ⟨e, a₁, w₁, hq, harr⟩ := h b (.inLoop c :: k) cs
  cases e with
  | normal =>
    obtain ⟨e₂, a₂, w₂, hq₂, harr₂⟩ := hq b k cs
    exact ⟨e₂, a₂, w₂, hq₂, .of_steps (Steps.trans harr (.one step_inLoop)) harr₂⟩
  | exit id => exact ⟨_, a₁, w₁, hq, .pass (x := .inLoop c) rfl (fun _ _ => .inl (by simp)) harr⟩
  | goto l => exact ⟨_, a₁, w₁, hq, .pass (x := .inLoop c) rfl (fun _ _ => .inl (by simp)) harr⟩
  | ret => exact ⟨_, a₁, w₁, hq, .pass (x := .inLoop c) rfl (fun _ _ => .inl (by simp)) harr⟩
  | panic ch => exact ⟨_, a₁, w₁, hq, .pass (x := .inLoop c) rfl (fun _ _ => .inl (by simp)) harr⟩
  | outgrown => exact ⟨_, a₁, w₁, hq, .pass (x := .inLoop c) rfl (fun _ _ => .inl (by simp)) harr⟩
end
end Go.Proofs.YtfhdfhlabkeipaaGreatDoor
