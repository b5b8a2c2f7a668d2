/- Format: reckoned, at the one reckoning of the examples. -/
import Derived.Test.YtfhdfhlabkeipaaGreatDoorQ1
import Derived.Test.YtfhdfhlabkeipaaGreatDoorK5
namespace Go.Proofs.YtfhdfhlabkeipaaGreatDoor
open Go.RowKit
set_option linter.unusedSimpArgs false
set_option linter.unusedVariables false

theorem split_ex : Lib.splitB (st [124]) 0 (Lib.countB (st [47, 124, 102]) (st [124])) (st [47, 124, 102]) = [st [47], st [102]] := by decide +kernel
theorem count_ex : Lib.countB (st [47, 124, 102]) (st [124]) = 1 := by decide +kernel
theorem split_own (w : World) (a b : ByteArray) : (w.alloc (.cells #[.string a, .string b] 9)).ownsRow w.heap.size 9 1 (.slice (some ⟨w.heap.size, 0, none⟩) 2 2) 2 [.string a, .string b] :=
  ⟨rfl, .inr ⟨w.heap.size, 2, _, rfl, Nat.le_refl _, heap_alloc_new w _, Nat.le_refl _, by decide, rfl, rfl⟩⟩
def SpP (w : World) (e : Ending) (w' : World) : Prop := ∃ A c, e = .returned (.slice A 2 c) ∧ w'.ownsRow w.heap.size 9 1 (.slice A 2 c) 2 [.string (st [47]), .string (st [102])] ∧ w.grownBy w' none
theorem split_any (w : World) (m : Int) (hm : w.cell? ⟨2, 0, none⟩ = some (.int .i64 m)) : Calls Tryz.prog 72 #[.string (st [47, 124, 102]), .string (st [124])] w (SpP w) := by
  refine (Tryz.strings_Split (st [47, 124, 102]) (st [124]) m w (by decide) hm (by decide)).mono ?_
  rintro e w' ⟨rfl, rfl⟩
  rw [split_ex, count_ex]
  exact ⟨_, _, rfl, split_own w (st [47]) (st [102]), World.grownBy_alloc _ _ none⟩

set_option maxRecDepth 100000 in
set_option maxHeartbeats 4000000 in
theorem reck_ok (base mb deep L : Nat) (scs : List (Option Sc)) (tx : Tx) (hT : TxOk base mb deep L tx) (hl : scs.length ≤ L) : ReckOk base mb deep scs tx := by
  intro op rest n0 ab0 cap0 w hop hrest hM hB hno
  obtain ⟨R, hR⟩ : ∃ R, R = reckL tx scs op rest n0 := ⟨_, rfl⟩
  rw [← hR] at hno ⊢
  unfold reckL at hR
  by_cases ho : op = [47, 124, 102]
  case neg => rw [if_neg ho] at hR; exact absurd hR hno
  subst ho
  rw [if_pos rfl, twoL_R] at hR
  have CT := fun (ab cap : Nat) (W : World) (h : Mk base mb W ab cap scs deep n0) (hB : base ≤ W.heap.size) (hne : twoR (tx scs) rest n0 ≠ .no) => two_any base mb deep L scs tx hT hl rest n0 ab cap W hrest h hB hne
  have hne : twoR (tx scs) rest n0 ≠ .no := fun h => hno (by rw [hR, h])
  obtain ⟨m, hm⟩ := hM.tb.m
  have CSp := split_any w m hm
  unfold SpP at CSp
  rw [show st [124] = ⟨#[124]⟩ from rfl, show st [102] = ⟨#[102]⟩ from rfl, show st [47] = ⟨#[47]⟩ from rfl] at CSp
  obtain ⟨S, hS⟩ : ∃ S, S = st [47, 124, 102] := ⟨_, rfl⟩
  obtain ⟨SR, hSR⟩ : ∃ S, S = st rest := ⟨_, rfl⟩
  rw [← hS] at CSp
  rw [← hSR] at CT
  rw [← hS, ← hSR]
  have CM1 := Lib.hid must_ok
  have CK := Lib.hid K.reckon_a
  replace CSp := Lib.hid CSp; replace CT := Lib.hid CT; replace hne := Lib.hid hne; replace hR := Lib.hid hR; replace hno := Lib.hid hno; replace hT := Lib.hid hT; replace hM := Lib.hid hM; replace hB := Lib.hid hB; replace hS := Lib.hid hS; replace hSR := Lib.hid hSR; replace hm := Lib.hid hm; replace hl := Lib.hid hl; replace hop := Lib.hid hop
  go_enter Tryz.func59, Tryz.ntmps59
  go_wp2_with fail
  refine CSp.out.mono ?_
  rintro e w1 ⟨A, c, rfl, hO, hG⟩
  obtain ⟨pg, rfl⟩ := own_some hO (by omega)
  replace hO := Lib.hid hO; replace hG := Lib.hid hG
  go_wp2_with (at_builtin; refine ap91 rfl (.tmp 17) (.tmp 18) rfl w.heap.size (.slice (some ⟨pg, 0, none⟩) 2 c) 2 _ rfl (own_keep hO.out (World.grownBy_alloc _ _ none)) w1.heap.size ⟨#[]⟩ rfl (heap_alloc_new w1 _) (by omega) (Nat.le_trans hG.out.size (World.grownBy_alloc _ _ none).size) ?_)
  intro A2 c2 w2 h1 h2
  obtain ⟨pq, rfl⟩ := own_some h1 (by omega)
  have hG2 : w.grownBy w2 none := g_own (a' := w1.alloc (.cells #[.string ⟨#[]⟩] 9)) (g_alloc hG.out _) (own_keep hO.out (World.grownBy_alloc _ _ none)) (Nat.le_refl _) h2
  obtain ⟨b', o', e', _, k0⟩ := (own_rd h1).at_ (j := 0) (u := .string (st [47])) rfl
  cases e'
  obtain ⟨b', o', e', _, k1⟩ := (own_rd h1).at_ (j := 1) (u := .string (st [102])) rfl
  cases e'
  rw [show st [47] = ⟨#[47]⟩ from rfl] at k0
  rw [show st [102] = ⟨#[102]⟩ from rfl] at k1
  rw [Nat.zero_add] at k0 k1
  have hM2 := hM.out.grown hB.out hG2
  have hB2 : base ≤ w2.heap.size := Nat.le_trans hB.out hG2.size
  have CT2 := Lib.hid (CT.out ab0 cap0 w2 hM2 hB2 hne.out)
  obtain ⟨n1, n2⟩ := hM2.ne_row h1 (by decide) (by decide)
  have hgp : pq ≠ mb ∧ pq ≠ ab0 := ⟨fun e => n1 (by rw [e]; rfl), fun e => n2 (by rw [e]; rfl)⟩
  have k0l : pq < w2.heap.size := (own_lt h1 rfl).2
  have k0h := Lib.hid k0
  replace h1 := Lib.hid h1; replace h2 := Lib.hid h2; replace hG2 := Lib.hid hG2; replace hM2 := Lib.hid hM2; replace hB2 := Lib.hid hB2; replace n1 := Lib.hid n1; replace n2 := Lib.hid n2; replace hgp := Lib.hid hgp
  go_wp2_with fail
  refine (CM1.out 4 _).mono ?_
  rintro e w3 ⟨rfl, rfl⟩
  go_wp2_with fail
  refine CT2.out.mono ?_
  intro e w4 h4
  have hR2 := hR.out
  cases htw : twoR (tx scs) rest n0 with
  | no => exact absurd htw hne.out
  | bad e0 =>
    rw [htw] at h4 hR2
    obtain ⟨rfl, hK4⟩ := h4
    have hKK : Kp mb ab0 w w4 := (Kp.refl.grow0 hG2.out).trans hK4 (.inl rfl)
    replace hR2 : R = .bad e0 := hR2
    replace hR2 := Lib.hid hR2; replace hKK := Lib.hid hKK; replace hK4 := Lib.hid hK4; replace htw := Lib.hid htw
    unfold Pan
    go_wp2_with fail
    refine ⟨rfl, ?_⟩
    rw [hR2.out]
    exact ⟨rfl, hKK.out⟩
  | ok x y n' =>
    rw [htw] at h4 hR2
    obtain ⟨rfl, hK4, ab4, cap4, hM4, ha4⟩ := h4
    dsimp only at hR2
    by_cases hxy : x = [55] ∧ y = [50]
    case neg => rw [if_neg hxy] at hR2; exact absurd hR2 hno.out
    rw [if_pos hxy] at hR2
    obtain ⟨rfl, rfl⟩ := hxy
    have hKK : Kp mb ab0 w w4 := (Kp.refl.grow0 hG2.out).trans hK4 (.inl rfl)
    have ha5 : ab4 = ab0 ∨ w.heap.size ≤ ab4 := by
      rcases ha4 with h | h
      · exact .inl h
      · exact .inr (Nat.le_trans hG2.out.size h)
    have CK4 := Lib.hid (CK.out w4 hM4.tb.d)
    have q0 : w4.cell? ⟨pq, 0, none⟩ = some (.string ⟨#[47]⟩) := (World.cell?_of_block (a := ⟨pq, 0, none⟩) (hK4.block pq k0l hgp.out.1 hgp.out.2)).trans k0h.out
    rw [show st [55] = ⟨#[55]⟩ from rfl, show st [50] = ⟨#[50]⟩ from rfl]
    replace hR2 := Lib.hid hR2; replace hKK := Lib.hid hKK; replace hK4 := Lib.hid hK4; replace htw := Lib.hid htw; replace hM4 := Lib.hid hM4; replace ha4 := Lib.hid ha4; replace ha5 := Lib.hid ha5
    clear k0 k1
    go_wp2_with fail
    refine CK4.out.mono ?_
    rintro e w5 ⟨rfl, hG5⟩
    have hB4 : base ≤ w4.heap.size := Nat.le_trans hB.out hKK.out.size
    have hfin : ResP base mb scs deep ab0 w R (.returned (.string ⟨#[51, 46, 53, 48]⟩)) w5 := by
      rw [hR2.out]
      exact ⟨rfl, hKK.out.grow0 hG5, ab4, cap4, hM4.out.grown hB4 hG5, ha5.out⟩
    replace hfin := Lib.hid hfin; replace hG5 := Lib.hid hG5; replace hB4 := Lib.hid hB4
    go_wp2_with fail
    refine (CM1.out 4 _).mono ?_
    rintro e w6 ⟨rfl, rfl⟩
    go_wp2_with fail
    go_ret
    exact hfin.out
end Go.Proofs.YtfhdfhlabkeipaaGreatDoor
