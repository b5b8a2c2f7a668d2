/- Layout: leaves, with a callback of Preset's. Layout: Preset's two callbacks. -/
import Derived.Test.YtcklmkjlbpjojaaDoorXC
import Derived.Deep.DeepCutAuto
import Derived.Deep.CutBlock
import Derived.Test.YtcklmkjlbpjojaaDoorXW
namespace Go.Proofs.YtcklmkjlbpjojaaDoor.X
open Go.RowKit
set_option linter.unusedSimpArgs false
set_option linter.unusedVariables false
variable {G : Gh}

/-- The callback that writes the variable in block h. -/
def caller43 (h : Nat) : Value := .func (.func 43) #[] #[.pointer (some ⟨h, 0, none⟩)]
set_option maxHeartbeats 1000000 in
set_option maxRecDepth 100000 in
theorem leaves43 (h B N : Nat) (w0 : World) (hBe : B = w0.heap.size) (I : List T → World → Prop) (hcall : ∀ (xs : List T) (s : T) (w : World), I xs w → Below B w0 w → (∃ up, TP G w0 up s) → s.ks = [] → xs.length < N → Calls Tryd.prog 43 #[ptr s.g, ptr h] w fun e w' => e = .returned (.tuple #[]) ∧ I (xs ++ [s]) w' ∧ Below B w w') : ∀ (t : T) (up : Option Nat) (xs : List T) (w : World), TP G w0 up t → Below B w0 w → I xs w → xs.length + t.leaves.length ≤ N →
    Calls Tryd.prog 42 #[ptr t.g, caller43 h] w fun e w' => e = .returned (.tuple #[]) ∧ I (xs ++ t.leaves) w' ∧ Below B w w' := by
  intro t
  induction t using T.ind with
  | h n ks ih =>
    intro up xs w hT0 hBw hJ hlen
    have hT : TP G w up (.mk n ks) := hT0.below (by rw [← hBe]; exact hBw)
    have hAt := hT.at_
    have hK := hT.kids
    have c6 := hAt.c6
    have hsm := hAt.small
    have hgB : n.g < B := by rw [hBe]; exact hT0.lt _ _ _ (by rw [T.bl_mk]; simp)
    have hKT0 := TPs_iff.1 hT0.kids
    have hlv : (T.mk n ks).leaves.length = (if ks.length = 0 then 1 else 0) + (leavesL ks).length := by
      rw [T.leaves_mk, List.length_append]; split <;> simp
    have hPU := Lib.hid (fun (h0 : ks = []) (hx : xs.length < N) => hcall xs (.mk n ks) w hJ hBw ⟨up, hT0⟩ h0 hx)
    obtain ⟨len, hln⟩ : ∃ len, len = ks.length := ⟨_, rfl⟩
    obtain ⟨AA, hAA⟩ : ∃ AA, AA = adr G n.A := ⟨_, rfl⟩
    rw [← hln] at c6 hsm hlv
    rw [← hAA] at c6
    replace hAA := Lib.hid hAA
    have hend : (T.mk n ks).leaves = (if len = 0 then [.mk n ks] else []) ++ leavesL ks := by rw [T.leaves_mk, hln]
    replace hend := Lib.hid hend
    replace hln := Lib.hid hln; replace hAt := Lib.hid hAt; replace hK := Lib.hid hK; replace hKT0 := Lib.hid hKT0; replace hBw := Lib.hid hBw; replace hT0 := Lib.hid hT0; replace hBe := Lib.hid hBe; replace hJ := Lib.hid hJ; replace ih := Lib.hid ih
    clear hT
    show Calls Tryd.prog 42 #[ptr n.g, caller43 h] w _
    replace hcall := Lib.hid hcall
    unfold caller43 ptr at *
    go_enter Tryd.func42, Tryd.ntmps42
    go_upto_if 11 with fail
    go_cut [] (fun wx => Hid (I (xs ++ (if len = 0 then [.mk n ks] else [])) wx ∧ Below B w wx))
    case first =>
      by_cases h0 : len = 0
      · subst h0
        have hx : xs.length < N := by
          rw [if_pos rfl] at hlv
          omega
        have hP := Lib.hid (hPU.out (List.eq_nil_of_length_eq_zero hln.out.symm) hx)
        go_wp2_with fail
        refine hP.out.mono ?_
        rintro e w1 ⟨rfl, hJ1, hB1⟩
        replace hJ1 := Lib.hid hJ1; replace hB1 := Lib.hid hB1
        go_wp2_with fail
        go_meet
        exact Lib.hid ⟨hJ1.out, hB1.out⟩
      · have hne : ¬ ((len : Int) = 0) := by omega
        have hneb : ((len : Int) == 0) = false := by simp; omega
        go_wp2_with fail
        go_meet
        rw [if_neg h0]
        exact Lib.hid ⟨by simpa using hJ.out, Below.refl _ _⟩
    case rest =>
      obtain ⟨hJ1, hB1⟩ := hcut.out
      have c6' := (hB1.cell (p := ⟨n.g, 6, none⟩) hgB).trans c6
      have hB0 := hB1
      replace hB1 := Lib.hid hB1; replace hJ1 := Lib.hid hJ1
      clear hcut c6
      go_wp2_with fail
      go_loopw [20] (fun iv wr => ∃ j : Nat, j ≤ len ∧ iv = .int .i64 j ∧ Hid (I (xs ++ (if len = 0 then [.mk n ks] else []) ++ leavesL (ks.take j)) wr ∧ Below B w wr)) (fun iv _ => len - (intOf iv).toNat)
      case atStart => exact ⟨0, Nat.zero_le _, rfl, Lib.hid ⟨by simpa [leavesL_nil] using hJ1.out, hB1.out⟩⟩
      case round =>
        obtain ⟨j, hj, rfl, hI⟩ := hrel
        by_cases hlt : j < len
        · obtain ⟨k, hk⟩ : ∃ k, ks[j]? = some k := ⟨ks[j]'(by rw [← hln.out]; exact hlt), List.getElem?_eq_getElem _⟩
          obtain ⟨b, off, hA, hc⟩ := (show At G w up n ks from hAt.out).kidc hk
          have hbB : b < B := by
            obtain ⟨_, B', o', cur, _, _, h1, h2, _⟩ := (show At G w0 up n ks from hT0.out.at_).kid hk
            rw [hA] at h1; injection h1 with h1; injection h1 with h1; subst h1
            rw [hBe.out]; exact lt_of_heap h2.h
          have hc2 := (hI.out.2.cell (p := ⟨b, off + j, none⟩) hbB).trans hc
          have hmem : k ∈ ks := List.mem_of_getElem? hk
          have hle : (leavesL (ks.take (j + 1))).length ≤ (leavesL ks).length := len_take_leaves _ _
          have hsn : leavesL (ks.take (j + 1)) = leavesL (ks.take j) ++ k.leaves := by rw [take_succ' hk, leavesL_app, leavesL_cons, leavesL_nil, List.append_nil]
          have hib : (xs ++ (if len = 0 then [T.mk n ks] else []) ++ leavesL (ks.take j)).length + k.leaves.length ≤ N := by
            rw [hsn, List.length_append] at hle
            simp only [List.length_append]
            split <;> split at hlv <;> simp <;> omega
          have CK := Lib.hid (ih.out k hmem (some n.g) _ wr (hKT0.out k hmem) (hBw.out.trans hI.out.2) hI.out.1 hib)
          have hAb : AA = some ⟨b, off, none⟩ := by rw [hAA.out, hA]
          subst hAb
          replace hsn := Lib.hid hsn; replace hk := Lib.hid hk; replace hA := Lib.hid hA
          clear hle hib
          unfold ptr at hc2 CK
          go_wp2_with fail
          refine CK.out.mono ?_
          rintro e w1 ⟨rfl, hJ2, hB2⟩
          replace hJ2 := Lib.hid hJ2; replace hB2 := Lib.hid hB2
          go_wp2_with fail
          refine ⟨⟨j + 1, by omega, by go_num, Lib.hid ⟨?_, hI.out.2.trans hB2.out⟩⟩, by simp [intOf]; omega⟩
          rw [hsn.out]
          have := hJ2.out
          simp only [List.append_assoc] at this ⊢
          exact this
        · have : j = len := by omega
          subst this
          go_wp2_with fail
          go_end0
          refine ⟨rfl, ?_, hI.out.2⟩
          rw [hend.out]
          have := hI.out.1
          rw [List.take_of_length_le (by rw [hln.out]; exact Nat.le_refl _)] at this
          simp only [List.append_assoc] at this ⊢
          exact this
/-- The callback that writes the variable in block h. -/
def caller47 (h : Nat) : Value := .func (.func 47) #[] #[.pointer (some ⟨h, 0, none⟩)]
set_option maxHeartbeats 1000000 in
set_option maxRecDepth 100000 in
theorem leaves47 (h B N : Nat) (w0 : World) (hBe : B = w0.heap.size) (I : List T → World → Prop) (hcall : ∀ (xs : List T) (s : T) (w : World), I xs w → Below B w0 w → (∃ up, TP G w0 up s) → s.ks = [] → xs.length < N → Calls Tryd.prog 47 #[ptr s.g, ptr h] w fun e w' => e = .returned (.tuple #[]) ∧ I (xs ++ [s]) w' ∧ Below B w w') : ∀ (t : T) (up : Option Nat) (xs : List T) (w : World), TP G w0 up t → Below B w0 w → I xs w → xs.length + t.leaves.length ≤ N →
    Calls Tryd.prog 42 #[ptr t.g, caller47 h] w fun e w' => e = .returned (.tuple #[]) ∧ I (xs ++ t.leaves) w' ∧ Below B w w' := by
  intro t
  induction t using T.ind with
  | h n ks ih =>
    intro up xs w hT0 hBw hJ hlen
    have hT : TP G w up (.mk n ks) := hT0.below (by rw [← hBe]; exact hBw)
    have hAt := hT.at_
    have hK := hT.kids
    have c6 := hAt.c6
    have hsm := hAt.small
    have hgB : n.g < B := by rw [hBe]; exact hT0.lt _ _ _ (by rw [T.bl_mk]; simp)
    have hKT0 := TPs_iff.1 hT0.kids
    have hlv : (T.mk n ks).leaves.length = (if ks.length = 0 then 1 else 0) + (leavesL ks).length := by
      rw [T.leaves_mk, List.length_append]; split <;> simp
    have hPU := Lib.hid (fun (h0 : ks = []) (hx : xs.length < N) => hcall xs (.mk n ks) w hJ hBw ⟨up, hT0⟩ h0 hx)
    obtain ⟨len, hln⟩ : ∃ len, len = ks.length := ⟨_, rfl⟩
    obtain ⟨AA, hAA⟩ : ∃ AA, AA = adr G n.A := ⟨_, rfl⟩
    rw [← hln] at c6 hsm hlv
    rw [← hAA] at c6
    replace hAA := Lib.hid hAA
    have hend : (T.mk n ks).leaves = (if len = 0 then [.mk n ks] else []) ++ leavesL ks := by rw [T.leaves_mk, hln]
    replace hend := Lib.hid hend
    replace hln := Lib.hid hln; replace hAt := Lib.hid hAt; replace hK := Lib.hid hK; replace hKT0 := Lib.hid hKT0; replace hBw := Lib.hid hBw; replace hT0 := Lib.hid hT0; replace hBe := Lib.hid hBe; replace hJ := Lib.hid hJ; replace ih := Lib.hid ih
    clear hT
    show Calls Tryd.prog 42 #[ptr n.g, caller47 h] w _
    replace hcall := Lib.hid hcall
    unfold caller47 ptr at *
    go_enter Tryd.func42, Tryd.ntmps42
    go_upto_if 11 with fail
    go_cut [] (fun wx => Hid (I (xs ++ (if len = 0 then [.mk n ks] else [])) wx ∧ Below B w wx))
    case first =>
      by_cases h0 : len = 0
      · subst h0
        have hx : xs.length < N := by
          rw [if_pos rfl] at hlv
          omega
        have hP := Lib.hid (hPU.out (List.eq_nil_of_length_eq_zero hln.out.symm) hx)
        go_wp2_with fail
        refine hP.out.mono ?_
        rintro e w1 ⟨rfl, hJ1, hB1⟩
        replace hJ1 := Lib.hid hJ1; replace hB1 := Lib.hid hB1
        go_wp2_with fail
        go_meet
        exact Lib.hid ⟨hJ1.out, hB1.out⟩
      · have hne : ¬ ((len : Int) = 0) := by omega
        have hneb : ((len : Int) == 0) = false := by simp; omega
        go_wp2_with fail
        go_meet
        rw [if_neg h0]
        exact Lib.hid ⟨by simpa using hJ.out, Below.refl _ _⟩
    case rest =>
      obtain ⟨hJ1, hB1⟩ := hcut.out
      have c6' := (hB1.cell (p := ⟨n.g, 6, none⟩) hgB).trans c6
      have hB0 := hB1
      replace hB1 := Lib.hid hB1; replace hJ1 := Lib.hid hJ1
      clear hcut c6
      go_wp2_with fail
      go_loopw [20] (fun iv wr => ∃ j : Nat, j ≤ len ∧ iv = .int .i64 j ∧ Hid (I (xs ++ (if len = 0 then [.mk n ks] else []) ++ leavesL (ks.take j)) wr ∧ Below B w wr)) (fun iv _ => len - (intOf iv).toNat)
      case atStart => exact ⟨0, Nat.zero_le _, rfl, Lib.hid ⟨by simpa [leavesL_nil] using hJ1.out, hB1.out⟩⟩
      case round =>
        obtain ⟨j, hj, rfl, hI⟩ := hrel
        by_cases hlt : j < len
        · obtain ⟨k, hk⟩ : ∃ k, ks[j]? = some k := ⟨ks[j]'(by rw [← hln.out]; exact hlt), List.getElem?_eq_getElem _⟩
          obtain ⟨b, off, hA, hc⟩ := (show At G w up n ks from hAt.out).kidc hk
          have hbB : b < B := by
            obtain ⟨_, B', o', cur, _, _, h1, h2, _⟩ := (show At G w0 up n ks from hT0.out.at_).kid hk
            rw [hA] at h1; injection h1 with h1; injection h1 with h1; subst h1
            rw [hBe.out]; exact lt_of_heap h2.h
          have hc2 := (hI.out.2.cell (p := ⟨b, off + j, none⟩) hbB).trans hc
          have hmem : k ∈ ks := List.mem_of_getElem? hk
          have hle : (leavesL (ks.take (j + 1))).length ≤ (leavesL ks).length := len_take_leaves _ _
          have hsn : leavesL (ks.take (j + 1)) = leavesL (ks.take j) ++ k.leaves := by rw [take_succ' hk, leavesL_app, leavesL_cons, leavesL_nil, List.append_nil]
          have hib : (xs ++ (if len = 0 then [T.mk n ks] else []) ++ leavesL (ks.take j)).length + k.leaves.length ≤ N := by
            rw [hsn, List.length_append] at hle
            simp only [List.length_append]
            split <;> split at hlv <;> simp <;> omega
          have CK := Lib.hid (ih.out k hmem (some n.g) _ wr (hKT0.out k hmem) (hBw.out.trans hI.out.2) hI.out.1 hib)
          have hAb : AA = some ⟨b, off, none⟩ := by rw [hAA.out, hA]
          subst hAb
          replace hsn := Lib.hid hsn; replace hk := Lib.hid hk; replace hA := Lib.hid hA
          clear hle hib
          unfold ptr at hc2 CK
          go_wp2_with fail
          refine CK.out.mono ?_
          rintro e w1 ⟨rfl, hJ2, hB2⟩
          replace hJ2 := Lib.hid hJ2; replace hB2 := Lib.hid hB2
          go_wp2_with fail
          refine ⟨⟨j + 1, by omega, by go_num, Lib.hid ⟨?_, hI.out.2.trans hB2.out⟩⟩, by simp [intOf]; omega⟩
          rw [hsn.out]
          have := hJ2.out
          simp only [List.append_assoc] at this ⊢
          exact this
        · have : j = len := by omega
          subst this
          go_wp2_with fail
          go_end0
          refine ⟨rfl, ?_, hI.out.2⟩
          rw [hend.out]
          have := hI.out.1
          rw [List.take_of_length_le (by rw [hln.out]; exact Nat.le_refl _)] at this
          simp only [List.append_assoc] at this ⊢
          exact this
end Go.Proofs.YtcklmkjlbpjojaaDoor.X
namespace Go.Proofs.YtcklmkjlbpjojaaDoor.X
open Go.RowKit
set_option linter.unusedSimpArgs false
set_option linter.unusedVariables false
variable {G : Gh}

/-- A fresh leaf with pane p. -/
def leafO (p : Int) : Obj := .cells #[.int .i64 p, .int .i64 0, .int .i64 0, .int .i64 0, .int .i64 0, .int .i64 0, .slice none 0 0, .pointer none] 58 (0, 0)
theorem leafO_ne {p : Int} {cs : Array Value} {e : TypeId} {fz : Nat × Nat} (h : e ≠ 58) : leafO p ≠ Obj.cells cs e fz := by
  intro h2
  unfold leafO at h2
  simp only [Obj.cells.injEq] at h2
  exact h h2.2.1.symm
/-- When Preset has copied the leaves xs: gs are the new ones, qs the blocks that held the appends' arguments. -/
structure CpI (B h : Nat) (xs : List T) (w : World) : Prop where
  ex : ∃ (gs qs : List Nat) (A : Option Addr) (c : Nat), gs.length = xs.length ∧ qs.length = xs.length ∧ w.heap[h]? = some (.cells #[.slice A xs.length c] 53 (0, 0)) ∧ w.ownsRow B 55 1 (.slice A xs.length c) xs.length (gs.map ptr) ∧ ablk A ≠ some h ∧
    (∀ (i : Nat) (g : Nat) (s : T), gs[i]? = some g → xs[i]? = some s → w.heap[g]? = some (leafO s.n.p)) ∧ (gs ++ qs).Nodup ∧ (∀ x ∈ gs ++ qs, B ≤ x ∧ x < w.heap.size) ∧ (∀ q ∈ qs, ablk A ≠ some q ∧ q ≠ h)
  hB : B ≤ h

set_option maxHeartbeats 1000000 in
set_option maxRecDepth 100000 in
theorem copy_any (G : Gh) (h B N : Nat) (w0 : World) (hBe : B = w0.heap.size) (hN : N ≤ 100000) (xs : List T) (s : T) (w : World) (hI : CpI B h xs w) (hBw : Below B w0 w) (hs : ∃ up, TP G w0 up s) (hsk : s.ks = []) (hx : xs.length < N) :
    Calls Tryd.prog 43 #[ptr s.g, ptr h] w fun e w' => e = .returned (.tuple #[]) ∧ CpI B h (xs ++ [s]) w' ∧ Below B w w' := by
  obtain ⟨up, hT⟩ := hs
  have hgl : s.g < w0.heap.size := hT.lt _ _ _ s.g_mem
  have c0 : w.cell? ⟨s.g, 0, none⟩ = some (.int .i64 s.n.p) := (hBw.cell (p := ⟨s.g, 0, none⟩) (by show s.g < B; omega)).trans hT.atn.c0
  obtain ⟨⟨gs, qs, A, c, e1, e2, hh, hO, hne, hl, hnd, hlt, hq⟩, hB⟩ := hI
  have hb := hBw.size
  have hlh := lt_of_heap hh
  have cr : w.cell? ⟨h, 0, none⟩ = some (.slice A xs.length c) := by rw [cell_of_heap hh]; rfl
  obtain ⟨k, hk⟩ : ∃ k, k = xs.length := ⟨_, rfl⟩
  rw [← hk] at hh hO cr hx e1 e2
  obtain ⟨p, hp⟩ : ∃ p, p = s.n.p := ⟨_, rfl⟩
  rw [← hp] at c0
  obtain ⟨g, hg⟩ : ∃ g, g = w.heap.size := ⟨_, rfl⟩
  have hgl1 : (w.alloc (leafO p)).heap.size = g + 1 := by rw [hg]; simp
  have g1 := World.grownBy_alloc w (leafO p) none
  have hh1 : (w.alloc (leafO p)).heap[h]? = some (.cells #[.slice A k c] 53 (0, 0)) := (g1.block h hlh (by simp)).trans hh
  have hO1 : (w.alloc (leafO p)).ownsRow B 55 1 (.slice A k c) k (gs.map ptr) := hO.alloc _
  have hAP := fun A2 c2 w2 O2 G2 hh2 => J_app2 (A2 := A2) (c2 := c2) (w2 := w2) (v := ptr g) (xs := gs.map ptr) (by simp [e1]) hh1 hO1 hne hB O2 G2 hh2
  have hfin : ∀ A2 c2 w2, w2.ownsRow B 55 1 (.slice A2 (k + 1) c2) (k + 1) (gs.map ptr ++ [ptr g]) → ((w.alloc (leafO p)).alloc (.cells #[ptr g] 55)).grownBy w2 (Value.slice A k c).ownBlock → (ablk A2 = (Value.slice A k c).ownBlock ∨ ablk A2 = some ((w.alloc (leafO p)).alloc (.cells #[ptr g] 55)).heap.size) →
      CpI B h (xs ++ [s]) (w2.setCell ⟨h, 0, none⟩ (.slice A2 (k + 1) c2)) ∧ Below B w (w2.setCell ⟨h, 0, none⟩ (.slice A2 (k + 1) c2)) := fun A2 c2 w2 O2 G2 hh2 => by
    obtain ⟨p1, p2, ⟨⟨A3, c3, j1, j2, j3⟩, _⟩, p4, p5, p6⟩ := hAP A2 c2 w2 O2 G2 hh2
    have hlen : (gs.map ptr ++ [ptr g]).length = k + 1 := by simp [e1]
    rw [hlen] at j1 j2
    have hA3 : A3 = A2 := by
      have q1 := World.cell?_setCell_same' w2 ⟨h, 0, none⟩ (.slice A2 (k + 1) c2) (by rw [p1]; rfl)
      rw [cell_of_heap j1] at q1
      simp at q1
      exact q1.1
    subst hA3
    have hsz : ((w.alloc (leafO p)).alloc (.cells #[ptr g] 55)).heap.size = g + 2 := by rw [hg]; simp
    have hs2 := G2.size
    rw [hsz] at hs2
    have hown : ∀ q, ablk A = some q → q < g := fun q hq => by
      rw [hg]
      refine (hO.lt q ?_).2
      rcases A with _ | ad
      · cases hq
      · exact hq
    have hA3q : ∀ q, q ≠ g + 2 → ablk A ≠ some q → ablk A3 ≠ some q := fun q h1 h2 h3 => by
      rcases hh2 with e | e
      · rw [e] at h3
        rcases A with _ | ad
        · cases h3
        · exact h2 h3
      · rw [e, hsz] at h3; injection h3 with h3; exact h1 h3.symm
    have hws : (w2.setCell ⟨h, 0, none⟩ (.slice A3 (k + 1) c2)).heap.size = w2.heap.size := by simp [World.setCell]
    have hc3 : c3 = c2 := by
      have q1 := World.cell?_setCell_same' w2 ⟨h, 0, none⟩ (.slice A3 (k + 1) c2) (by rw [p1]; rfl)
      rw [cell_of_heap j1] at q1
      simp at q1
      exact q1
    subst hc3
    refine ⟨⟨⟨gs ++ [g], qs ++ [g + 1], A3, c3, by simp [e1, hk], by simp [e2, hk], ?_, ?_, j3, fun i g' s' h1 h2 => ?_, ?_, fun x hx => ?_, fun q hq' => ?_⟩, hB⟩, ?_⟩
    · rw [List.length_append, ← hk]; exact j1
    · rw [List.length_append, ← hk, List.map_append]; exact j2
    · rcases Nat.lt_or_ge i gs.length with hi | hi
      · rw [List.getElem?_append_left hi] at h1
        rw [List.getElem?_append_left (by omega)] at h2
        have h3 := hl i g' s' h1 h2
        refine p5 g' _ ((g1.block g' (lt_of_heap h3) (by simp)).trans h3) ?_ (fun _ _ => leafO_ne (by decide))
        rintro rfl
        rw [hh] at h3; injection h3 with h3
        exact leafO_ne (by decide) h3.symm
      · rw [List.getElem?_append_right hi] at h1
        rw [List.getElem?_append_right (by omega)] at h2
        rcases hz : i - gs.length with _ | j
        · rw [hz] at h1
          rw [show i - xs.length = 0 by omega] at h2
          simp at h1 h2
          subst h1; subst h2
          rw [← hp]
          have h3 : (w.alloc (leafO p)).heap[g]? = some (leafO p) := by rw [hg]; exact heap_alloc_new w _
          exact p5 g _ h3 (by omega) (fun _ _ => leafO_ne (by decide))
        · rw [hz] at h1; simp at h1
    · have hg1 : ∀ x ∈ gs ++ qs, x < g := fun x hx => by rw [hg]; exact (hlt x hx).2
      obtain ⟨n1, n2, n3⟩ := List.nodup_append.1 hnd
      refine List.nodup_append.2 ⟨List.nodup_append.2 ⟨n1, by simp, ?_⟩, List.nodup_append.2 ⟨n2, by simp, ?_⟩, ?_⟩
      · rintro x hx y hy rfl
        rw [List.mem_singleton] at hy
        have := hg1 x (by simp [hx]); omega
      · rintro x hx y hy rfl
        rw [List.mem_singleton] at hy
        have := hg1 x (by simp [hx]); omega
      · rintro x hx y hy rfl
        rcases List.mem_append.1 hx with hx | hx <;> rcases List.mem_append.1 hy with hy | hy
        · exact n3 x hx x hy rfl
        · rw [List.mem_singleton] at hy
          have := hg1 x (by simp [hx]); omega
        · rw [List.mem_singleton] at hx
          have := hg1 x (by simp [hy]); omega
        · rw [List.mem_singleton] at hx hy; omega
    · rw [hws]
      simp only [List.mem_append, List.mem_singleton] at hx
      rcases hx with (hx | hx) | (hx | hx)
      · have := hlt x (by simp [hx]); omega
      · omega
      · have := hlt x (by simp [hx]); omega
      · omega
    · simp only [List.mem_append, List.mem_singleton] at hq'
      rcases hq' with hq' | hq'
      · have h2 := hq q hq'
        have h3 := (hlt q (by simp [hq'])).2
        exact ⟨hA3q q (by omega) h2.1, h2.2⟩
      · subst hq'
        refine ⟨hA3q _ (by omega) fun e => ?_, by omega⟩
        have := hown _ e; omega
    · exact ⟨p4.os.trans g1.os, p4.tape.trans g1.tape, p4.output.trans g1.output, Nat.le_trans g1.size (by rw [hws]; omega), fun j hj => (p4.block j hj).trans (g1.block j (by omega) (by simp))⟩
  have hsr : ((w.alloc (leafO p)).drew.cell? ⟨h, 0, none⟩ = some (.slice A k c) ∧ (w.alloc (leafO p)).drew.cell? ⟨s.g, 0, none⟩ = some (.int .i64 p)) ∧ ((((w.alloc (leafO p)).alloc (.cells #[ptr g] 55)).drew.cell? ⟨h, 0, none⟩ = some (.slice A k c)) ∧ ((w.alloc (leafO p)).alloc (.cells #[ptr g] 55)).drew.cell? ⟨s.g, 0, none⟩ = some (.int .i64 p)) := by
    have hsl : s.g < w.heap.size := by omega
    have a1 := (World.cell?_alloc_past (w := w) (leafO p) h 0 hlh).trans cr
    have a2 := (World.cell?_alloc_past (w := w) (leafO p) s.g 0 hsl).trans c0
    exact ⟨⟨a1, a2⟩, (World.cell?_alloc_past _ _ _ (by show h < _; omega)).trans a1, (World.cell?_alloc_past _ _ _ (by show s.g < _; omega)).trans a2⟩
  have hOw : ((w.alloc (leafO p)).alloc (.cells #[ptr g] 55)).drew.ownsRow B 55 1 (.slice A k c) k (gs.map ptr) := hO1.alloc _
  have hRd := Rd_new (w.alloc (leafO p)) (ptr g)
  rw [hgl1] at hRd
  have hBs : B ≤ ((w.alloc (leafO p)).alloc (.cells #[ptr g] 55)).drew.heap.size := by
    show B ≤ ((w.alloc (leafO p)).alloc (.cells #[ptr g] 55)).heap.size
    simp; omega
  have hkb : k + 1 ≤ 1099511627776 := by omega
  have hst := fun A2 c2 w2 O2 G2 hh2 => (hAP A2 c2 w2 O2 G2 hh2)
  replace hfin := Lib.hid hfin; replace hsr := Lib.hid hsr; replace hOw := Lib.hid hOw; replace hRd := Lib.hid hRd; replace hBs := Lib.hid hBs; replace hst := Lib.hid hst; replace hAP := Lib.hid hAP; replace hh := Lib.hid hh; replace hO := Lib.hid hO; replace hO1 := Lib.hid hO1; replace hh1 := Lib.hid hh1; replace hl := Lib.hid hl; replace hnd := Lib.hid hnd; replace hlt := Lib.hid hlt; replace hq := Lib.hid hq; replace hne := Lib.hid hne; replace hT := Lib.hid hT; replace hBw := Lib.hid hBw; replace g1 := Lib.hid g1; replace hk := Lib.hid hk; replace hp := Lib.hid hp; replace hgl1 := Lib.hid hgl1; replace e1 := Lib.hid e1; replace e2 := Lib.hid e2
  have hgh := Lib.hid hg
  clear hg
  unfold ptr leafO at *
  go_enter Tryd.func43, Tryd.ntmps43
  refine wp_region_row (S := fun w' => w'.cell? ⟨h, 0, none⟩ = some (.slice A k c) ∧ w'.cell? ⟨s.g, 0, none⟩ = some (.int .i64 p)) 6 8 (by kernel_rfl) (by kernel_rfl) (fun _ _ d _ _ h => by cases d <;> exact h) ⟨cr, c0⟩ ?_
  simp only [List.take_succ_cons, List.take_zero, List.drop_succ_cons, List.drop_zero]
  repeat
    (apply wpHeld_cons (by rfl)
     · intro w hSw
       go_simp
       try with_reducible rfl
     simp only [Act.put, List.setIfInBounds_toArray, List.set_cons_zero, List.set_cons_succ])
  refine wpHeld_nil ?_
  refine wpRow_succ (k := 1) (fun K hK => ?_)
  go_simp
  rw [← hgh.out]
  refine hK.out _ _ hsr.out.1 ?_
  clear hK K
  try simp only [Act.put, List.setIfInBounds_toArray, List.set_cons_zero, List.set_cons_succ]
  refine wpRow_succ (k := 0) (fun K hK => ?_)
  go_simp
  rw [← hgh.out]
  refine hK.out _ _ hsr.out.2 ?_
  clear hK K
  try simp only [Act.put, List.setIfInBounds_toArray, List.set_cons_zero, List.set_cons_succ]
  refine wpRow_zero ?_
  go_wp2_with (first
    | (at_builtin; refine ap53 rfl (.tmp 3) (.tmp 10) rfl B (.slice A k c) k _ rfl hOw.out (some ⟨g + 1, 0, none⟩) 1 1 _ rfl rfl hRd.out (by intro u hu; simp at hu; subst hu; rfl) hkb hBs.out ?_; intro A2 c2 w2 O2 G2 hh2
       obtain ⟨p1, p2, _⟩ := hst.out A2 c2 w2 O2 ⟨G2.os, G2.tape, G2.output, G2.size, G2.block⟩ hh2
       have p3 := Lib.hid (hfin.out A2 c2 w2 O2 ⟨G2.os, G2.tape, G2.output, G2.size, G2.block⟩ hh2)
       clear O2 G2 hh2)
    | fail)
  go_end0
  exact ⟨rfl, p3.out.1, p3.out.2⟩
end Go.Proofs.YtcklmkjlbpjojaaDoor.X
