/- Layout: what a body is read as. No walk. Layout: strings.Trim of a text's head. Layout: Swap. -/
import Derived.Test.YtcklmkjlbpjojaaGreatDoorR7
import Derived.Test.YtcklmkjlbpjojaaGreatDoorM1
import Derived.Shelf.Strings.SlTrimAscii
import Derived.Test.YtcklmkjlbpjojaaGreatDoorR3b
import Derived.Test.YtcklmkjlbpjojaaGreatDoorE2c
import Derived.Test.YtcklmkjlbpjojaaGreatDoorF0
namespace Go.Proofs.YtcklmkjlbpjojaaGreatDoor
open Go.RowKit
set_option linter.unusedSimpArgs false
set_option linter.unusedVariables false

theorem dig_ofNat {u : Nat} (h : u < 10) : dig (UInt8.ofNat (48 + u)) = true ∧ (UInt8.ofNat (48 + u)).toNat = 48 + u := by
  have : (UInt8.ofNat (48 + u)).toNat = 48 + u := by rw [UInt8.toNat_ofNat']; omega
  unfold dig
  rw [this]
  simp
  omega
theorem dd_facts : ∀ u : Nat, (∀ c ∈ Lib.decDigits u, dig c = true) ∧ valD (Lib.decDigits u) = u ∧ 1 ≤ (Lib.decDigits u).length ∧ (1 ≤ u → (Lib.decDigits u).head? ≠ some 48) ∧ (u < 10 → (Lib.decDigits u).length = 1) ∧ ∀ k, u < 10 ^ (k + 1) → (Lib.decDigits u).length ≤ k + 1 := by
  intro u
  induction u using Nat.strongRecOn with
  | _ u ih =>
    by_cases h : u < 10
    · rw [Lib.decDigits, dif_pos h]
      obtain ⟨h1, h2⟩ := dig_ofNat h
      refine ⟨fun c hc => ?_, ?_, by simp, fun h3 => ?_, fun _ => rfl, fun k _ => by simp⟩
      · rw [List.mem_singleton.1 hc]; exact h1
      · show 10 * 0 + ((UInt8.ofNat (48 + u)).toNat - 48) = u
        rw [h2]; omega
      · intro e
        have e' : UInt8.ofNat (48 + u) = 48 := by simpa using e
        have := congrArg UInt8.toNat e'
        rw [h2] at this
        have h5 : (48 : UInt8).toNat = 48 := rfl
        omega
    · rw [Lib.decDigits, dif_neg h]
      obtain ⟨i1, i2, i3, i4, i5, i6⟩ := ih (u / 10) (by omega)
      obtain ⟨h1, h2⟩ := dig_ofNat (u := u % 10) (by omega)
      refine ⟨fun c hc => ?_, ?_, by simp, fun h3 => ?_, fun h' => absurd h' h, fun k hk => ?_⟩
      · rcases List.mem_append.1 hc with hc | hc
        · exact i1 c hc
        · rw [List.mem_singleton.1 hc]; exact h1
      · rw [valD_snoc, i2, h2]; omega
      · rw [List.head?_append]
        have h4 := i4 (by omega)
        cases hd : (Lib.decDigits (u / 10)).head? with
        | none => rw [List.head?_eq_none_iff] at hd; rw [hd] at i3; simp at i3
        | some c => rw [hd] at h4; simpa using h4
      · rw [List.length_append]
        cases k with
        | zero => simp at hk; omega
        | succ k =>
          have := i6 k (by rw [Nat.pow_succ] at hk; omega)
          simp; omega
/-- What may stand behind a number. -/
def Stop (rest : List UInt8) : Prop := rest = [] ∨ ∃ c r, rest = c :: r ∧ dig c = false
theorem stop_cons {c : UInt8} (h : dig c = false) (r : List UInt8) : Stop (c :: r) := .inr ⟨c, r, rfl, h⟩
theorem numP_itoa (z : Int) (h0 : 0 ≤ z) (h1 : z < 1000000000) (rest : List UInt8) (hr : Stop rest) (bad : Bool) : numP (Lib.itoa z ++ rest) bad = (z.toNat, rest, bad) := by
  have e : Lib.itoa z = Lib.decDigits z.toNat := by unfold Lib.itoa; rw [if_neg (by omega)]
  rw [e]
  obtain ⟨d1, d2, d3, d4, d5, d6⟩ := dd_facts z.toNat
  have d7 := d6 8 (by have : (10 : Nat) ^ (8 + 1) = 1000000000 := rfl; omega)
  generalize hD : Lib.decDigits z.toNat = D at d1 d2 d3 d4 d5 d7 ⊢
  have ht : (D ++ rest).take D.length = D := by simp
  have hx := num_exit (s := D ++ rest) (bad := bad) (j := D.length) (by simp) (by omega) (by rw [ht]; exact d1) (by
    rcases hr with hr | ⟨c, r, hr, hc⟩
    · left; rw [hr]; simp
    · right; refine ⟨c, ?_, hc⟩; rw [hr]; simp)
  rw [hx, ht]
  have hn : ¬ (D.length = 0 ∨ (1 < D.length ∧ (D ++ rest).head? = some 48)) := by
    rintro (h | ⟨h, h'⟩)
    · omega
    · have h2 : 1 ≤ z.toNat := by
        rcases Nat.lt_or_ge z.toNat 10 with h3 | h3
        · have := d5 h3; omega
        · omega
      have h3 := d4 h2
      cases D with
      | nil => simp at h
      | cons c D => exact h3 (by simpa using h')
  rw [if_neg hn, d2]
  simp
theorem nextP_hit {l : List UInt8} {c : UInt8} (h : c ∈ l) (r : List UInt8) (bad : Bool) : nextP l (c :: r) bad = (c, r, bad) := by rw [nextP_cons, if_pos h]
def Nd.sm (n : Nd) : Prop := (0 ≤ n.p ∧ n.p < 1000000000) ∧ (0 ≤ n.x ∧ n.x < 1000000000) ∧ (0 ≤ n.y ∧ n.y < 1000000000) ∧ (0 ≤ n.a ∧ n.a < 1000000000) ∧ (0 ≤ n.b ∧ n.b < 1000000000)
theorem hdP_head (n : Nd) (h : n.sm) (c : UInt8) (r : List UInt8) (hc : c ∈ [44, 123, 91]) : hdP (headB n ++ c :: r) false = ⟨n.a.toNat, n.b.toNat, n.x.toNat, n.y.toNat, c, r, false⟩ := by
  obtain ⟨h1, h2, h3, h4, h5⟩ := h
  have hdc : dig c = false := by
    simp only [List.mem_cons, List.mem_nil_iff, or_false] at hc
    rcases hc with rfl | rfl | rfl <;> rfl
  have e : headB n ++ c :: r = Lib.itoa n.a ++ 120 :: (Lib.itoa n.b ++ 44 :: (Lib.itoa n.x ++ 44 :: (Lib.itoa n.y ++ c :: r))) := by
    unfold headB; simp
  rw [e]
  unfold hdP
  rw [numP_itoa n.a h4.1 h4.2 _ (stop_cons rfl _)]
  dsimp only
  rw [nextP_hit (by simp)]
  dsimp only
  rw [numP_itoa n.b h5.1 h5.2 _ (stop_cons rfl _)]
  dsimp only
  rw [nextP_hit (by simp)]
  dsimp only
  rw [numP_itoa n.x h2.1 h2.2 _ (stop_cons rfl _)]
  dsimp only
  rw [nextP_hit (by simp)]
  dsimp only
  rw [numP_itoa n.y h3.1 h3.2 _ (stop_cons hdc _)]
  dsimp only
  rw [nextP_hit hc]
theorem join_one (a : List UInt8) : Lib.join [a] [44] = a := by simp [Lib.join]
theorem join_two (a b : List UInt8) (l : List (List UInt8)) : Lib.join (a :: b :: l) [44] = a ++ 44 :: Lib.join (b :: l) [44] := by simp [Lib.join]
theorem nodeP_body : ∀ t : T, (∀ m ∈ t.nds, m.sm) → t.er.ok → ∀ (n : Nat) (rest : List UInt8), Stop rest → 2 * (t.body ++ rest).length + 2 ≤ n → nodeP n (t.body ++ rest) false = (t.pt, rest, false) := by
  intro t
  induction t using T.ind with
  | h nd ks ih =>
    intro hsm hok n rest hst hn
    have hnd := hsm nd (by rw [T.nds_mk]; simp)
    have hN := hnd
    obtain ⟨h1, h2, h3, h4, h5⟩ := hnd
    have ca : ((nd.a.toNat : Nat) : Int) = nd.a := Int.toNat_of_nonneg h4.1
    have cb : ((nd.b.toNat : Nat) : Int) = nd.b := Int.toNat_of_nonneg h5.1
    have cx : ((nd.x.toNat : Nat) : Int) = nd.x := Int.toNat_of_nonneg h2.1
    have cy : ((nd.y.toNat : Nat) : Int) = nd.y := Int.toNat_of_nonneg h3.1
    have cp : ((nd.p.toNat : Nat) : Int) = nd.p := Int.toNat_of_nonneg h1.1
    obtain ⟨m, rfl⟩ : ∃ m, n = m + 1 := ⟨n - 1, by omega⟩
    rcases ok_T.1 hok with ⟨k1, k2, k3⟩ | ⟨k1, k2, k3, k4, k5, k6, k7, k8⟩
    · subst k1
      have eb : (T.mk nd []).body ++ rest = headB nd ++ 44 :: (Lib.itoa nd.p ++ rest) := by rw [T.body_mk]; simp
      rw [eb, nodeP_succ, hdP_head nd hN 44 _ (by simp)]
      unfold nodeH
      rw [if_pos rfl, numP_itoa nd.p h1.1 h1.2 rest hst]
      rw [T.pt_mk, ca, cb, cx, cy, cp, k2, ptL]
    · have hkids : ∀ (l : List T) (m : Nat) (e : UInt8), (∀ k ∈ l, k ∈ ks) → l ≠ [] → e = endB nd.way → dig e = false → e ≠ 44 → 2 * (Lib.join (bodyL l) [44] ++ e :: rest).length + 3 ≤ m →
          kidsP m nd.way (Lib.join (bodyL l) [44] ++ e :: rest) false = (l.map T.pt, rest, false) := by
        intro l
        induction l with
        | nil => intro m e _ h; exact absurd rfl h
        | cons k l ih2 =>
          intro m e hmem _ he hde he4 hm
          obtain ⟨m', rfl⟩ : ∃ m', m = m' + 1 := ⟨m - 1, by omega⟩
          have hk := hmem k (by simp)
          rw [kidsP_succ]
          have IH := fun r hr hr2 => ih k hk (fun q hq => hsm q (by rw [T.nds_mk]; simp [mem_ndsL.2 ⟨k, hk, hq⟩])) (k8 k hk) m' r hr hr2
          cases l with
          | nil =>
            rw [bodyL_cons, bodyL_nil, join_one] at hm ⊢
            rw [IH (e :: rest) (stop_cons hde _) (by simp only [List.length_append, List.length_cons] at hm ⊢; omega)]
            dsimp only
            rw [nextP_hit (by rw [he]; simp)]
            unfold kidsH
            rw [if_neg he4]
            rfl
          | cons k2 l =>
            rw [bodyL_cons, bodyL_cons, join_two] at hm ⊢
            have e1 : k.body ++ 44 :: Lib.join (k2.body :: bodyL l) [44] ++ e :: rest = k.body ++ 44 :: (Lib.join (bodyL (k2 :: l)) [44] ++ e :: rest) := by rw [bodyL_cons]; simp
            rw [e1] at hm ⊢
            rw [IH (44 :: _) (stop_cons rfl _) (by simp only [List.length_append, List.length_cons] at hm ⊢; omega)]
            dsimp only
            rw [nextP_hit (by simp)]
            unfold kidsH
            rw [if_pos rfl]
            dsimp only
            rw [ih2 m' e (fun k hk => hmem k (by simp [hk])) (by simp) he hde he4 (by simp only [List.length_append, List.length_cons] at hm ⊢; omega)]
            rfl
      have hne : ks ≠ [] := by rintro rfl; simp at k4
      have hkl : ks.length ≠ 0 := by omega
      rcases k5 with hw | hw
      · have eb : (T.mk nd ks).body ++ rest = headB nd ++ 123 :: (Lib.join (bodyL ks) [44] ++ 125 :: rest) := by rw [T.body_mk, if_neg hkl, hw]; simp
        rw [eb] at hn ⊢
        rw [nodeP_succ, hdP_head nd hN 123 _ (by simp)]
        have hK := hkids ks m 125 (fun k hk => hk) hne (by rw [hw]; rfl) rfl (by decide) (by simp only [List.length_append, List.length_cons] at hn ⊢; omega)
        rw [hw] at hK
        unfold nodeH
        dsimp only
        rw [if_neg (by decide), if_pos rfl, hK, T.pt_mk, ca, cb, cx, cy, k1, hw, ptL_map]
      · have eb : (T.mk nd ks).body ++ rest = headB nd ++ 91 :: (Lib.join (bodyL ks) [44] ++ 93 :: rest) := by rw [T.body_mk, if_neg hkl, hw]; simp
        rw [eb] at hn ⊢
        rw [nodeP_succ, hdP_head nd hN 91 _ (by simp)]
        have hK := hkids ks m 93 (fun k hk => hk) hne (by rw [hw]; rfl) rfl (by decide) (by simp only [List.length_append, List.length_cons] at hn ⊢; omega)
        rw [hw] at hK
        unfold nodeH
        dsimp only
        rw [if_neg (by decide), if_neg (by decide), if_pos rfl, hK, T.pt_mk, ca, cb, cx, cy, k1, hw, ptL_map]
end Go.Proofs.YtcklmkjlbpjojaaGreatDoor
namespace Go.Proofs.YtcklmkjlbpjojaaGreatDoor
open Go.RowKit Go.Shelf
set_option linter.unusedSimpArgs false
set_option linter.unusedVariables false
def hexSigns : List UInt8 := [48, 49, 50, 51, 52, 53, 54, 55, 56, 57, 97, 98, 99, 100, 101, 102]
theorem trim_any (s : List UInt8) (w : World) (hs : s.length ≤ 9223372036854775807) :
    Calls Tryz.prog 41 #[.string (st s), .string ⟨#[48, 49, 50, 51, 52, 53, 54, 55, 56, 57, 97, 98, 99, 100, 101, 102]⟩] w fun e w' => e = .returned (.string (st (Lib.trimS s hexSigns))) ∧ w.grownBy w' none := by
  have hcon := Any.strings_Trim_laid Tryz.lays160 (by kernel_rfl) (st s) ⟨#[48, 49, 50, 51, 52, 53, 54, 55, 56, 57, 97, 98, 99, 100, 101, 102]⟩ w (by rw [st_size]; exact hs) (by decide) (ascii_of_all (by decide))
  refine Calls.mono hcon ?_
  rintro e w' ⟨rfl, h⟩
  exact ⟨rfl, h.os, h.tape, h.output, h.size, fun k hk _ => h.block k hk⟩
end Go.Proofs.YtcklmkjlbpjojaaGreatDoor
namespace Go.Proofs.YtcklmkjlbpjojaaGreatDoor
open Go.RowKit
set_option linter.unusedSimpArgs false
set_option linter.unusedVariables false

set_option maxHeartbeats 1000000 in
theorem swap_run (base tr : Nat) (t s1 s2 : T) (a b : Int) (w : World) (hT : Tr base w tr t) (hl : t.leaves.length ≤ 100000) (h1 : t.find a = some s1) (h2 : t.find b = some s2) :
    Calls Tryz.prog 55 #[ptr tr, .int .i64 a, .int .i64 b] w fun e w' => e = .returned (.int .i64 0) ∧ ∃ w1, w.grownBy w1 none ∧ w' = ((w1.setCell ⟨s1.g, 0, none⟩ (.int .i64 s2.n.p)).setCell ⟨s2.g, 0, none⟩ (.int .i64 s1.n.p)).drew := by
  have CA := Lib.hid (leaf_any base tr t a w hT hl)
  have CB : Hid (∀ W, w.grownBy W none → Calls Tryz.prog 24 #[ptr tr, .int .i64 b] W fun e w' => e = .returned (uptr ((t.find b).map T.g)) ∧ W.grownBy w' none) := Lib.hid (fun W hg => leaf_any base tr t b W (hT.grown hg) hl)
  rw [h1] at CA
  rw [h2] at CB
  simp only [Option.map_some, uptr] at CA CB
  have m1 := (leaf_c0 hT.p (List.mem_of_find?_eq_some h1))
  have m2 := (leaf_c0 hT.p (List.mem_of_find?_eq_some h2))
  have fz : ∀ (W : World) (s : T), w.grownBy W none → s ∈ t.leaves → W.frozen? ⟨s.g, 0, none⟩ = false := fun W s hg hs => by
    obtain ⟨up', h, _, _⟩ := mem_leaves t W none (hT.p.grown hg) s hs
    cases s with | mk n ks => exact h.at_.free 0
  have e1 := List.mem_of_find?_eq_some h1
  have e2 := List.mem_of_find?_eq_some h2
  replace fz := Lib.hid fz
  replace hT := Lib.hid hT; replace h1 := Lib.hid h1; replace h2 := Lib.hid h2; replace e1 := Lib.hid e1; replace e2 := Lib.hid e2
  unfold ptr at *
  go_enter Tryz.func55, Tryz.ntmps55
  go_wp2_with fail
  refine CA.out.mono ?_
  rintro e w1 ⟨rfl, G1⟩
  go_wp2_with fail
  refine (CB.out _ G1).mono ?_
  rintro e w2 ⟨rfl, G2⟩
  have G := G1.trans G2
  have q1 := G.cell m1 (by simp)
  have q2 := G.cell m2 (by simp)
  have z1 := fz.out w2 s1 G e1.out
  have z2 := fz.out w2 s2 G e2.out
  replace G := Lib.hid G; replace G1 := Lib.hid G1; replace G2 := Lib.hid G2
  clear m1 m2 CA CB fz
  by_cases hne : s1.g = s2.g
  · rw [hne] at q1 z1 ⊢
    go_wp2_with fail
    go_region
    all_goals
      go_wp2_with fail
      go_ret
      exact ⟨rfl, _, G.out, by
        have e : s1.n.p = s2.n.p := by rw [q1] at q2; injection q2 with q2; injection q2 with _ q2
        rw [hne, e]⟩
  · have hne2 : s2.g ≠ s1.g := fun e => hne e.symm
    go_wp2_with fail
    go_region
    all_goals
      go_wp2_with fail
      go_ret
      exact ⟨rfl, _, G.out, rfl⟩
mutual
/-- The panes renamed. -/
def T.re (σ : Int → Int) : T → T
  | .mk n ks => .mk (if ks.length = 0 then { n with p := σ n.p } else n) (reL σ ks)
def reL (σ : Int → Int) : List T → List T
  | [] => []
  | k :: ks => k.re σ :: reL σ ks
end
section
variable {σ : Int → Int}
theorem T.re_mk (n : Nd) (ks : List T) : (T.mk n ks).re σ = .mk (if ks.length = 0 then { n with p := σ n.p } else n) (reL σ ks) := by rw [T.re]
theorem reL_map : ∀ ks : List T, reL σ ks = ks.map (T.re σ)
  | [] => by rw [reL]; rfl
  | k :: ks => by rw [reL, reL_map ks]; rfl
theorem reL_len (ks : List T) : (reL σ ks).length = ks.length := by rw [reL_map]; simp
theorem T.re_re (hσ : ∀ x, σ (σ x) = x) (t : T) : (t.re σ).re σ = t := by
  induction t using T.ind with
  | h n ks ih =>
    rw [T.re_mk, T.re_mk, reL_len, reL_map, reL_map, List.map_map]
    have : ks.map (T.re σ ∘ T.re σ) = ks := by
      conv => rhs; rw [← List.map_id ks]
      exact List.map_congr_left fun k hk => ih k hk
    rw [this]
    split
    · simp [hσ]
    · rfl
theorem T.re_g (t : T) : (t.re σ).g = t.g := by
  cases t; rw [T.re_mk]; simp only [T.g, T.n]; split <;> rfl
theorem T.re_bl (t : T) : (t.re σ).bl = t.bl := by
  induction t using T.ind with
  | h n ks ih =>
    rw [T.re_mk, T.bl_mk, T.bl_mk]
    have : ∀ l : List T, (∀ k ∈ l, (k.re σ).bl = k.bl) → blL (reL σ l) = blL l := by
      intro l
      induction l with
      | nil => intro _; rw [reL]
      | cons k l ih2 => intro h; rw [reL, blL_cons, blL_cons, h k (by simp), ih2 fun k hk => h k (by simp [hk])]
    rw [this ks ih]
    split <;> rfl
theorem reL_ptrs (ks : List T) : ptrs (reL σ ks) = ptrs ks := by
  rw [reL_map]; simp [ptrs, T.re_g]
theorem T.re_leaves (t : T) : (t.re σ).leaves = t.leaves.map (T.re σ) := by
  induction t using T.ind with
  | h n ks ih =>
    rw [T.re_mk, T.leaves_mk, T.leaves_mk, reL_len, List.map_append]
    have : ∀ l : List T, (∀ k ∈ l, (k.re σ).leaves = k.leaves.map (T.re σ)) → leavesL (reL σ l) = (leavesL l).map (T.re σ) := by
      intro l
      induction l with
      | nil => intro _; rw [reL, leavesL_nil]; rfl
      | cons k l ih2 => intro h; rw [reL, leavesL_cons, leavesL_cons, List.map_append, h k (by simp), ih2 fun k hk => h k (by simp [hk])]
    rw [this ks ih]
    split
    · rename_i h; simp [T.re_mk, h]
    · rfl
theorem leaf_re {t s : T} {w : World} {up : Option Nat} (hT : TP w up t) (hs : s ∈ t.leaves) : (s.re σ).n.p = σ s.n.p := by
  obtain ⟨_, _, h, _⟩ := mem_leaves t w up hT s hs
  cases s with | mk n ks => cases h; rw [T.re_mk]; simp [T.n]
theorem find_re {t : T} {w : World} {up : Option Nat} (hT : TP w up t) (hσ : ∀ x, σ (σ x) = x) (p : Int) : (t.re σ).find p = (t.find (σ p)).map (T.re σ) := by
  unfold T.find
  rw [T.re_leaves, List.find?_map]
  congr 1
  have : ∀ l : List T, (∀ s ∈ l, (s.re σ).n.p = σ s.n.p) → l.find? ((fun s => s.n.p == p) ∘ T.re σ) = l.find? (fun s => s.n.p == σ p) := by
    intro l
    induction l with
    | nil => intro _; rfl
    | cons a l ih =>
      intro h
      have e : ((fun s => s.n.p == p) ∘ T.re σ) a = (a.n.p == σ p) := by
        simp only [Function.comp, h a (by simp)]
        rw [Bool.eq_iff_iff]
        simp only [beq_iff_eq]
        constructor
        · intro e; rw [← e, hσ]
        · intro e; rw [e, hσ]
      rw [List.find?_cons, List.find?_cons, e]
      split
      · rfl
      · exact ih fun s hs => h s (by simp [hs])
  exact this _ fun s hs => leaf_re hT hs
theorem TP_re : ∀ (t : T) (up : Option Nat) (w w' : World), TP w up t → t.bl.Nodup →
    (∀ s ∈ t.leaves, ∀ c e f, w.heap[s.g]? = some (.cells c e f) → w'.heap[s.g]? = some (.cells (c.setIfInBounds 0 (.int .i64 (σ s.n.p))) e f)) →
    (∀ b ∈ t.bl, (∀ s ∈ t.leaves, s.g ≠ b) → w'.heap[b]? = w.heap[b]?) → TP w' up (t.re σ) := by
  intro t
  induction t using T.ind with
  | h n ks ih =>
    intro up w w' hT hN h1 h2
    have hA := hT.at_
    rw [T.bl_mk] at hN h2
    have hgA : ∀ b, n.A = some b → b ≠ n.g := fun b hb e => (List.nodup_cons.1 hN).1 (by subst e; simp [hb])
    rw [T.re_mk]
    by_cases hk : ks.length = 0
    · have := List.eq_nil_of_length_eq_zero hk
      subst this
      rw [if_pos hk, reL]
      have hlv : (T.mk n []).leaves = [.mk n []] := by rw [T.leaves_mk, leavesL_nil]; rfl
      rw [hlv] at h1 h2
      refine .mk ⟨?_, ?_⟩ (by rw [TPs]; trivial)
      · exact h1 (.mk n []) (by simp) _ _ _ hA.h
      · refine own_same hA.r fun b hb => ?_
        rw [ownBlock_row] at hb
        replace hb : n.A = some b := hb
        exact h2 b (by simp [hb]) (by intro s hs; simp at hs; subst hs; exact fun e => hgA b hb e.symm)
    · rw [if_neg hk]
      have hlv : (T.mk n ks).leaves = leavesL ks := by rw [T.leaves_mk, if_neg hk]; rfl
      rw [hlv] at h1 h2
      have hsb : ∀ s ∈ leavesL ks, s.g ∈ blL ks := fun s hs => by
        obtain ⟨k, hk, hs⟩ := mem_leavesL.1 hs
        obtain ⟨_, _, _, h⟩ := mem_leaves k w _ (TPs_iff.1 hT.kids k hk) s hs
        exact mem_blL.2 ⟨k, hk, h _ s.g_mem⟩
      have hn1 := (List.nodup_cons.1 hN)
      have hn2 := List.nodup_append.1 hn1.2
      refine .mk ⟨?_, ?_⟩ (TPs_iff.2 fun k' hk' => ?_)
      · rw [reL_len, h2 n.g (by simp) (fun s hs e => hn1.1 (by rw [← e]; simp [hsb s hs]))]; exact hA.h
      · rw [reL_len, reL_ptrs]
        refine own_same hA.r fun b hb => ?_
        rw [ownBlock_row] at hb
        exact h2 b (by simp [hb]) (fun s hs e => hn2.2.2 b (by simp [hb]) _ (hsb s hs) e.symm)
      · rw [reL_map] at hk'
        obtain ⟨k, hk, rfl⟩ := List.mem_map.1 hk'
        have hsub : ∀ s ∈ k.leaves, s ∈ leavesL ks := fun s hs => mem_leavesL.2 ⟨k, hk, hs⟩
        have hkT := TPs_iff.1 hT.kids k hk
        obtain ⟨L, R, rfl⟩ := List.append_of_mem hk
        rw [blL_app, blL_cons] at hn2
        have hn3 := List.nodup_append.1 hn2.2.1
        have hn4 := List.nodup_append.1 hn3.2.1
        refine ih k hk _ w w' hkT hn4.1 (fun s hs => h1 s (hsub s hs)) fun b hb hs => h2 b ?_ ?_
        · simp [blL_app, blL_cons, hb]
        · intro s hs' e
          rw [leavesL_app, leavesL_cons] at hs'
          simp only [List.mem_append] at hs'
          have hx : ∀ l : List T, (∀ k ∈ l, k ∈ L ++ k :: R ∨ True) → s ∈ leavesL l → (∀ j ∈ l, TP w (some n.g) j) → s.g ∈ blL l := fun l _ hs hj => by
            obtain ⟨j, hjl, hs⟩ := mem_leavesL.1 hs
            obtain ⟨_, _, _, h⟩ := mem_leaves j w _ (hj j hjl) s hs
            exact mem_blL.2 ⟨j, hjl, h _ s.g_mem⟩
          rcases hs' with h | h | h
          · have := hx L (fun _ _ => .inr trivial) h (fun j hj => TPs_iff.1 hT.kids j (by simp [hj]))
            rw [e] at this
            exact hn3.2.2 b this b (by simp [hb]) rfl
          · exact hs s h e
          · have := hx R (fun _ _ => .inr trivial) h (fun j hj => TPs_iff.1 hT.kids j (by simp [hj]))
            rw [e] at this
            exact hn4.2.2 b hb b this rfl
end
def sw (a b x : Int) : Int := if x = a then b else if x = b then a else x
theorem sw_sw (a b x : Int) : sw a b (sw a b x) = x := by unfold sw; repeat' split <;> simp_all
theorem nodup_inj {l : List T} (h : (l.map fun s => s.n.p).Nodup) {s s' : T} (hs : s ∈ l) (hs' : s' ∈ l) (e : s.n.p = s'.n.p) : s = s' := by
  induction l with
  | nil => cases hs
  | cons a l ih =>
    rw [List.map_cons, List.nodup_cons] at h
    rcases List.mem_cons.1 hs with h1 | h1 <;> rcases List.mem_cons.1 hs' with h2 | h2
    · rw [h1, h2]
    · exact absurd (show a.n.p ∈ l.map (fun s => s.n.p) from List.mem_map.2 ⟨s', h2, by rw [← e, h1]⟩) h.1
    · exact absurd (show a.n.p ∈ l.map (fun s => s.n.p) from List.mem_map.2 ⟨s, h1, by rw [e, h2]⟩) h.1
    · exact ih h.2 h1 h2
theorem swap_any (base tr : Nat) (t s1 s2 : T) (a b : Int) (w : World) (hT : Tr base w tr t) (hbase : base ≤ w.heap.size) (hl : t.leaves.length ≤ 100000) (hn : (t.leaves.map fun s => s.n.p).Nodup) (h1 : t.find a = some s1) (h2 : t.find b = some s2) :
    Calls Tryz.prog 55 #[ptr tr, .int .i64 a, .int .i64 b] w fun e w' => e = .returned (.int .i64 0) ∧ Tr base w' tr (t.re (sw a b)) ∧ Below base w w' ∧ Off t.bl w w' := by
  refine (swap_run base tr t s1 s2 a b w hT hl h1 h2).mono ?_
  rintro e w' ⟨rfl, w1, hg, rfl⟩
  have m1 := List.mem_of_find?_eq_some h1
  have m2 := List.mem_of_find?_eq_some h2
  have p1 : s1.n.p = a := by simpa using List.find?_some h1
  have p2 : s2.n.p = b := by simpa using List.find?_some h2
  have hT1 := hT.grown hg
  have hin : ∀ s ∈ t.leaves, s.g ∈ t.bl := fun s hs => by
    obtain ⟨_, _, _, h⟩ := mem_leaves t w _ hT.p s hs
    exact h _ s.g_mem
  have o2 : Off [s1.g, s2.g] w1 ((w1.setCell ⟨s1.g, 0, none⟩ (.int .i64 s2.n.p)).setCell ⟨s2.g, 0, none⟩ (.int .i64 s1.n.p)).drew :=
    (((Off.set w1 ⟨s1.g, 0, none⟩ (.int .i64 s2.n.p)).sub (S' := [s1.g, s2.g]) (by simp)).trans (Off.set _ ⟨s2.g, 0, none⟩ _) (by simp)).trans (Off.drew (S := []) _) (by simp)
  have hne : ∀ s ∈ t.leaves, s.g ≠ tr := fun s hs e => hT.nt (by rw [← e]; exact hin s hs)
  refine ⟨rfl, ⟨?_, ?_, by rw [T.re_bl]; exact hT.nd, by rw [T.re_bl]; exact hT.nt, by rw [T.re_bl]; exact hT.lo⟩, ?_, (Off.of_grown (S := t.bl) hg).trans o2 (by intro b hb; simp at hb; rcases hb with rfl | rfl; exact .inl (hin _ m1); exact .inl (hin _ m2))⟩
  · rw [T.re_g, o2.block tr hT1.lt (by simp; exact ⟨fun e => hne s1 m1 e.symm, fun e => hne s2 m2 e.symm⟩)]; exact hT1.h
  · refine TP_re t none w1 _ hT1.p hT.nd ?_ ?_
    · intro s hs c e f hc
      have c0 := leaf_c0 hT1.p hs
      have hs0 : c[0]? = some (Value.int .i64 s.n.p) := by
        have := c0
        unfold World.cell? at this
        rw [hc] at this
        simpa using this
      have c1 := leaf_c0 hT1.p m1
      have c2 := leaf_c0 hT1.p m2
      show ((w1.setCell ⟨s1.g, 0, none⟩ (.int .i64 s2.n.p)).setCell ⟨s2.g, 0, none⟩ (.int .i64 s1.n.p)).heap[s.g]? = _
      by_cases e2 : s.g = s2.g
      · have hp : s.n.p = b := by
          rw [e2, c2] at c0; injection c0 with c0; injection c0 with _ c0; rw [← c0]; exact p2
        have hσ : sw a b s.n.p = a := by rw [hp]; unfold sw; split <;> simp_all
        rw [hσ]
        by_cases e1 : s.g = s1.g
        · have := heap_set (j := 0) (heap_set (j := 0) hc (.int .i64 s2.n.p)) (.int .i64 s1.n.p)
          rw [← e1, ← e2, this, p1]
          simp
        · rw [← e2]
          have h3 : (w1.setCell ⟨s1.g, 0, none⟩ (.int .i64 s2.n.p)).heap[s.g]? = some (.cells c e f) := by rw [Below.heap_setCell _ _ _ _ (by exact e1)]; exact hc
          rw [heap_set (j := 0) h3, p1]
      · rw [Below.heap_setCell _ _ _ _ (by exact e2)]
        by_cases e1 : s.g = s1.g
        · have hp : s.n.p = a := by
            rw [e1, c1] at c0; injection c0 with c0; injection c0 with _ c0; rw [← c0]; exact p1
          have hσ : sw a b s.n.p = b := by rw [hp]; unfold sw; simp
          rw [hσ, ← e1, heap_set (j := 0) hc, p2]
        · rw [Below.heap_setCell _ _ _ _ (by exact e1), hc]
          have hσ : sw a b s.n.p = s.n.p := by
            unfold sw
            rw [if_neg (fun e => e1 (by rw [nodup_inj hn hs m1 (by rw [e, p1])])), if_neg (fun e => e2 (by rw [nodup_inj hn hs m2 (by rw [e, p2])]))]
          rw [hσ]
          congr 2
          rw [Array.ext_iff]
          refine ⟨by simp, fun i h1 h2 => ?_⟩
          rw [Array.getElem_setIfInBounds]
          split
          · rename_i h; subst h; rw [Array.getElem?_eq_getElem h1] at hs0; exact Option.some.inj hs0
          · rfl
    · intro b' hb' hs
      exact o2.block b' (hT1.p.lt _ _ b' hb') (by simp; exact ⟨fun e => hs s1 m1 e.symm, fun e => hs s2 m2 e.symm⟩)
  · have b1 : Below base w w1 := ⟨hg.os, hg.tape, hg.output, hg.size, fun k hk => hg.block k (by omega) (by simp)⟩
    exact b1.trans (o2.below (by intro b hb; simp at hb; rcases hb with rfl | rfl; exact hT.lo.2 _ (hin _ m1); exact hT.lo.2 _ (hin _ m2)) (by have := hg.size; omega))
end Go.Proofs.YtcklmkjlbpjojaaGreatDoor
