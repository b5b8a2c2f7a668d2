/- Layout: leaves, all. -/
import Derived.Test.YtcklmkjlbpjojaaDoorC1
import Derived.Deep.DeepCutAuto
import Derived.Deep.CutBlock
namespace Go.Proofs.YtcklmkjlbpjojaaDoor
open Go.RowKit
set_option linter.unusedSimpArgs false
set_option linter.unusedVariables false

def intOf : Value → Int | .int _ i => i | _ => 0
mutual
/-- The leaves, in order. -/
def T.leaves : T → List T
  | .mk n ks => (if ks.length = 0 then [.mk n ks] else []) ++ leavesL ks
def leavesL : List T → List T
  | [] => []
  | k :: ks => k.leaves ++ leavesL ks
end
theorem T.leaves_mk (n : Nd) (ks : List T) : (T.mk n ks).leaves = (if ks.length = 0 then [.mk n ks] else []) ++ leavesL ks := by rw [T.leaves]
theorem leavesL_nil : leavesL [] = [] := by rw [leavesL]
theorem leavesL_cons (k : T) (ks : List T) : leavesL (k :: ks) = k.leaves ++ leavesL ks := by rw [leavesL]
theorem leavesL_app (l r : List T) : leavesL (l ++ r) = leavesL l ++ leavesL r := by
  induction l with
  | nil => simp [leavesL_nil]
  | cons k l ih => simp [leavesL_cons, ih]
theorem take_succ' {α : Type} {l : List α} {i : Nat} {a : α} (h : l[i]? = some a) : l.take (i + 1) = l.take i ++ [a] := by
  rw [List.take_add_one, h]; rfl
theorem len_take_leaves (ks : List T) (i : Nat) : (leavesL (ks.take i)).length ≤ (leavesL ks).length := by
  conv => rhs; rw [← List.take_append_drop i ks, leavesL_app, List.length_append]
  omega

/-- What each is handed: a row's variable. -/
def pusher (h : Nat) : Value := .func (.func 53) #[] #[ptr h]

set_option maxHeartbeats 1000000 in
set_option maxRecDepth 100000 in
theorem leaves_any (h B : Nat) : ∀ (t : T) (up : Option Nat) (xs : List Value) (w : World), TP w up t → (∀ b ∈ t.bl, b < B) → J B w h xs → xs.length + t.leaves.length ≤ 100000 →
    Calls Tryd.prog 42 #[ptr t.g, pusher h] w fun e w' => e = .returned (.tuple #[]) ∧ J B w' h (xs ++ ptrs t.leaves) ∧ Below B w w' := by
  intro t
  induction t using T.ind with
  | h n ks ih =>
    intro up xs w hT hbl hJ hlen
    have hAt := hT.at_
    have hK := hT.kids
    have c6 := hAt.c6
    have hsm := hAt.small
    have hgB : n.g < B := hbl _ (by rw [T.bl_mk]; simp)
    have hlv : (T.mk n ks).leaves.length = (if ks.length = 0 then 1 else 0) + (leavesL ks).length := by
      rw [T.leaves_mk, List.length_append]; split <;> simp
    have hAB : ∀ b ∈ n.g :: n.A.toList, b < B := fun b hb => hbl b (by
      rw [T.bl_mk]; rcases List.mem_cons.1 hb with rfl | hb
      · simp
      · simp [Option.mem_toList.1 hb])
    have hKB : ∀ b ∈ blL ks, b < B := fun b hb => hbl b (by rw [T.bl_mk]; simp [hb])
    have hPU := Lib.hid (fun (hx : xs.length ≤ 1000000) => push_any n.g h B xs w hJ hx)
    obtain ⟨len, hln⟩ : ∃ len, len = ks.length := ⟨_, rfl⟩
    obtain ⟨AA, hAA⟩ : ∃ AA, AA = adr n.A := ⟨_, rfl⟩
    rw [← hln] at c6 hsm hlv
    rw [← hAA] at c6
    replace hAA := Lib.hid hAA
    have hend : (T.mk n ks).leaves = (if len = 0 then [.mk n ks] else []) ++ leavesL ks := by rw [T.leaves_mk, hln]
    replace hend := Lib.hid hend
    replace hln := Lib.hid hln; replace hAt := Lib.hid hAt; replace hK := Lib.hid hK; replace hbl := Lib.hid hbl; replace hJ := Lib.hid hJ; replace ih := Lib.hid ih; replace hAB := Lib.hid hAB; replace hKB := Lib.hid hKB
    clear hT
    show Calls Tryd.prog 42 #[ptr n.g, pusher h] w _
    unfold pusher ptr at *
    go_enter Tryd.func42, Tryd.ntmps42
    go_upto_if 11 with fail
    go_cut [] (fun wx => Hid (J B wx h (xs ++ ptrs (if len = 0 then [.mk n ks] else [])) ∧ Below B w wx))
    case first =>
      by_cases h0 : len = 0
      · subst h0
        have hx : xs.length ≤ 1000000 := by omega
        have hP := Lib.hid (hPU.out hx)
        go_wp2_with fail
        refine hP.out.mono ?_
        rintro e w1 ⟨rfl, hJ1, hB1⟩
        replace hJ1 := Lib.hid hJ1; replace hB1 := Lib.hid hB1
        go_wp2_with fail
        go_meet
        exact Lib.hid ⟨hJ1.out, hB1.out⟩
      · have hne : ¬ ((len : Int) = 0) := by omega
        have hneb : ((len : Int) == 0) = false := by simp; omega
        go_wp2_with fail
        go_meet
        rw [if_neg h0]
        exact Lib.hid ⟨by simpa [ptrs] using hJ.out, Below.refl _ _⟩
    case rest =>
      obtain ⟨hJ1, hB1⟩ := hcut.out
      have c6' := (hB1.cell (p := ⟨n.g, 6, none⟩) hgB).trans c6
      have hB0 := hB1
      replace hB1 := Lib.hid hB1; replace hJ1 := Lib.hid hJ1
      clear hcut c6
      go_wp2_with fail
      go_loopw [20] (fun iv wr => ∃ j : Nat, j ≤ len ∧ iv = .int .i64 j ∧ Hid (J B wr h (xs ++ ptrs (if len = 0 then [.mk n ks] else []) ++ ptrs (leavesL (ks.take j))) ∧ Below B w wr)) (fun iv _ => len - (intOf iv).toNat)
      case atStart => exact ⟨0, Nat.zero_le _, rfl, Lib.hid ⟨by simpa [ptrs, leavesL_nil] using hJ1.out, hB1.out⟩⟩
      case round =>
        obtain ⟨j, hj, rfl, hI⟩ := hrel
        by_cases hlt : j < len
        · obtain ⟨k, hk⟩ : ∃ k, ks[j]? = some k := ⟨ks[j]'(by rw [← hln.out]; exact hlt), List.getElem?_eq_getElem _⟩
          obtain ⟨b, hA, hc⟩ := hAt.out.kid hk
          have hbB : b < B := hAB.out b (by simp [hA])
          have hc2 := (hI.out.2.cell (p := ⟨b, j, none⟩) hbB).trans hc
          have hmem : k ∈ ks := List.mem_of_getElem? hk
          have hkT : TP wr (some n.g) k := (TPs_iff.1 hK.out k hmem).below hI.out.2 fun x hx => hKB.out x (mem_blL.2 ⟨k, hmem, hx⟩)
          have hle : (leavesL (ks.take (j + 1))).length ≤ (leavesL ks).length := len_take_leaves _ _
          have hsn : leavesL (ks.take (j + 1)) = leavesL (ks.take j) ++ k.leaves := by rw [take_succ' hk, leavesL_app, leavesL_cons, leavesL_nil, List.append_nil]
          have hib : (xs ++ ptrs (if len = 0 then [T.mk n ks] else []) ++ ptrs (leavesL (ks.take j))).length + k.leaves.length ≤ 100000 := by
            rw [hsn, List.length_append] at hle
            simp only [List.length_append, ptrs_len]
            split <;> split at hlv <;> simp <;> omega
          have CK := Lib.hid (ih.out k hmem (some n.g) _ wr hkT (fun x hx => hKB.out x (mem_blL.2 ⟨k, hmem, hx⟩)) hI.out.1 hib)
          have hAb : AA = some ⟨b, 0, none⟩ := by rw [hAA.out, hA]; rfl
          subst hAb
          replace hsn := Lib.hid hsn; replace hk := Lib.hid hk; replace hA := Lib.hid hA
          clear hkT hle hib
          unfold ptr at hc2 CK
          go_wp2_with fail
          refine CK.out.mono ?_
          rintro e w1 ⟨rfl, hJ2, hB2⟩
          replace hJ2 := Lib.hid hJ2; replace hB2 := Lib.hid hB2
          go_wp2_with fail
          refine ⟨⟨j + 1, by omega, by go_num, Lib.hid ⟨?_, hI.out.2.trans hB2.out⟩⟩, by simp [intOf]; omega⟩
          rw [hsn.out]
          have := hJ2.out
          simp only [ptrs, List.map_append, List.append_assoc] at this ⊢
          exact this
        · have : j = len := by omega
          subst this
          go_wp2_with fail
          go_end0
          refine ⟨rfl, ?_, hI.out.2⟩
          rw [hend.out]
          have := hI.out.1
          rw [List.take_of_length_le (by rw [hln.out]; exact Nat.le_refl _)] at this
          simp only [ptrs, List.map_append, List.append_assoc] at this ⊢
          exact this
end Go.Proofs.YtcklmkjlbpjojaaDoor
