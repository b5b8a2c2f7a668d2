/- Contract: Take. -/
import Derived.Test.YtdbjphabmdmjcaaN1
namespace Go.Proofs.Ytdbjphabmdmjcaa
open Go.RowKit
set_option linter.unusedSimpArgs false
set_option linter.unusedVariables false

theorem bs_take (l : List UInt8) (k : Nat) : bs (l.take k) = (bs l).take k := by simp [bs, List.map_take]
theorem bs_drop (l : List UInt8) (k : Nat) : bs (l.drop k) = (bs l).drop k := by simp [bs, List.map_drop]

def TakePost (p base : Nat) (A : Option Addr) (n c k : Nat) (l : List UInt8) (most dr : Int) (w : World) (e : Ending) (w' : World) : Prop :=
  ∃ A' c', e = .returned (.slice A' k c') ∧ Rd w' A' (bs (l.take k)) ∧ BB w' p (.slice (cutA A c k) (n - k) (c - k)) most dr ∧ Mid w' base 5 (cutA A c k) (n - k) (c - k) (bs (l.drop k)) ∧ w.grownBy w' (some p)
set_option maxHeartbeats 1000000 in
theorem take_any (p base : Nat) (A : Option Addr) (n c k : Nat) (l : List UInt8) (z most dr : Int) (w : World) (hB : BB w p (.slice A n c) most dr) (hM : Mid w base 5 A n c (bs l)) (hn : n ≤ 2097152) (hk : (k : Int) = max 0 (min z n)) :
    Calls Try.prog 22 #[.pointer (some ⟨p, 0, none⟩), .int .i64 z] w (TakePost p base A n c k l most dr w) := by
  have c0 := hB.cell 0; have c1 := hB.cell 1; have c2 := hB.cell 2
  have f0 := hB.free 0; have f1 := hB.free 1; have f2 := hB.free 2
  simp at c0 c1 c2
  have hp := hB.lt
  have hll : l.length = n := by have := hM.1; rwa [bs_len] at this
  have hnc : n ≤ c := hM.2.1
  by_cases h1 : (n : Int) < z
  · by_cases h2 : 0 < n
    · obtain rfl : k = n := by omega
      clear hk
      by_cases hck : c = k
      · obtain rfl : k = c := by omega
        clear hck
        have hkl : k = (l.take k).length := by rw [List.length_take, hll]; omega
        have CL := Lib.hid (clone_any A k k (l.take k) w hkl (by omega) (by rw [bs_take]; exact hM.rd.take k))
        have hMc := hM.cut k (by omega)
        have hpA := hB.not_mid hM
        replace hB := Lib.hid hB; replace hM := Lib.hid hM; replace hkl := Lib.hid hkl; replace hMc := Lib.hid hMc; replace hpA := Lib.hid hpA; replace hll := Lib.hid hll
        go_enter Try.func22, Try.ntmps22
        go_wp2_with fail
        refine CL.out.mono ?_
        rintro e w1 ⟨A1, k1, rfl, O1, G1⟩
        have B1 := hB.out.grown G1 (by simp)
        have q0 := B1.cell 0; have e0 := B1.free 0; simp at q0
        have M1 := hMc.out.grown G1 (.inl rfl)
        obtain ⟨A5, c5, e5, R1, a5, _⟩ := Rd.of_own O1
        injection e5 with e5 _ e6
        subst e5; subst e6
        have a1 : ablk A1 ≠ some p := fun e => by
          rw [a5] at e
          have := (O1.lt p e).1
          omega
        clear a5
        replace G1 := Lib.hid G1; replace B1 := Lib.hid B1; replace M1 := Lib.hid M1; replace R1 := Lib.hid R1; replace O1 := Lib.hid O1; replace a1 := Lib.hid a1
        go_wp2_with fail
        go_ret
        have hfin : ∀ v, v = Value.slice (cutA A k k) (k - k) (k - k) → TakePost p base A k k k l most dr w (.returned (.slice A1 k k1)) (w1.setCell ⟨p, 0, none⟩ v) := by
          intro v hv
          subst hv
          refine ⟨A1, k1, rfl, R1.out.set _ (by exact a1.out), B1.out.set0 _, ?_, g_set_ (a := ⟨p, 0, none⟩) (G1.out.but (some p)) rfl _⟩
          rw [bs_drop]
          exact M1.out.grown (row := some p) (g_set_ (a := ⟨p, 0, none⟩) (World.grownBy.refl w1 _) rfl _) (.inr (B1.out.not_mid M1.out))
        exact hfin _ (by simp [cutA, map_add0])
      · replace hck : ¬ c = k := hck
        have hkl : k = (l.take k).length := by rw [List.length_take, hll]; omega
        have CL := Lib.hid (clone_any A k c (l.take k) w hkl (by omega) (by rw [bs_take]; exact hM.rd.take k))
        have hMc := hM.cut k (by omega)
        have hpA := hB.not_mid hM
        replace hB := Lib.hid hB; replace hM := Lib.hid hM; replace hkl := Lib.hid hkl; replace hMc := Lib.hid hMc; replace hpA := Lib.hid hpA; replace hll := Lib.hid hll
        go_enter Try.func22, Try.ntmps22
        go_wp2_with fail
        refine CL.out.mono ?_
        rintro e w1 ⟨A1, k1, rfl, O1, G1⟩
        have B1 := hB.out.grown G1 (by simp)
        have q0 := B1.cell 0; have e0 := B1.free 0; simp at q0
        have M1 := hMc.out.grown G1 (.inl rfl)
        obtain ⟨A5, c5, e5, R1, a5, _⟩ := Rd.of_own O1
        injection e5 with e5 _ e6
        subst e5; subst e6
        have a1 : ablk A1 ≠ some p := fun e => by
          rw [a5] at e
          have := (O1.lt p e).1
          omega
        clear a5
        replace G1 := Lib.hid G1; replace B1 := Lib.hid B1; replace M1 := Lib.hid M1; replace R1 := Lib.hid R1; replace O1 := Lib.hid O1; replace a1 := Lib.hid a1
        go_wp2_with fail
        go_ret
        have hfin : ∀ v, v = Value.slice (cutA A c k) (k - k) (c - k) → TakePost p base A k c k l most dr w (.returned (.slice A1 k k1)) (w1.setCell ⟨p, 0, none⟩ v) := by
          intro v hv
          subst hv
          refine ⟨A1, k1, rfl, R1.out.set _ (by exact a1.out), B1.out.set0 _, ?_, g_set_ (a := ⟨p, 0, none⟩) (G1.out.but (some p)) rfl _⟩
          rw [bs_drop]
          exact M1.out.grown (row := some p) (g_set_ (a := ⟨p, 0, none⟩) (World.grownBy.refl w1 _) rfl _) (.inr (B1.out.not_mid M1.out))
        exact hfin _ (by simp [cutA, map_add0, hck])
    · obtain rfl : n = 0 := by omega
      obtain rfl : k = 0 := by omega
      clear hk
      by_cases hck : c = 0
      · obtain rfl : c = 0 := hck
        have hkl : 0 = (l.take 0).length := by rw [List.length_take, hll]; omega
        have CL := Lib.hid (clone_any A 0 0 (l.take 0) w hkl (by omega) (by rw [bs_take]; exact hM.rd.take 0))
        have hMc := hM.cut 0 (by omega)
        have hpA := hB.not_mid hM
        replace hB := Lib.hid hB; replace hM := Lib.hid hM; replace hkl := Lib.hid hkl; replace hMc := Lib.hid hMc; replace hpA := Lib.hid hpA; replace hll := Lib.hid hll
        go_enter Try.func22, Try.ntmps22
        go_wp2_with fail
        refine CL.out.mono ?_
        rintro e w1 ⟨A1, k1, rfl, O1, G1⟩
        have B1 := hB.out.grown G1 (by simp)
        have q0 := B1.cell 0; have e0 := B1.free 0; simp at q0
        have M1 := hMc.out.grown G1 (.inl rfl)
        obtain ⟨A5, c5, e5, R1, a5, _⟩ := Rd.of_own O1
        injection e5 with e5 _ e6
        subst e5; subst e6
        have a1 : ablk A1 ≠ some p := fun e => by
          rw [a5] at e
          have := (O1.lt p e).1
          omega
        clear a5
        replace G1 := Lib.hid G1; replace B1 := Lib.hid B1; replace M1 := Lib.hid M1; replace R1 := Lib.hid R1; replace O1 := Lib.hid O1; replace a1 := Lib.hid a1
        go_wp2_with fail
        go_ret
        have hfin : ∀ v, v = Value.slice (cutA A 0 0) (0 - 0) (0 - 0) → TakePost p base A 0 0 0 l most dr w (.returned (.slice A1 0 k1)) (w1.setCell ⟨p, 0, none⟩ v) := by
          intro v hv
          subst hv
          refine ⟨A1, k1, rfl, R1.out.set _ (by exact a1.out), B1.out.set0 _, ?_, g_set_ (a := ⟨p, 0, none⟩) (G1.out.but (some p)) rfl _⟩
          rw [bs_drop]
          exact M1.out.grown (row := some p) (g_set_ (a := ⟨p, 0, none⟩) (World.grownBy.refl w1 _) rfl _) (.inr (B1.out.not_mid M1.out))
        exact hfin _ (by simp [cutA, map_add0])
      · replace hck : ¬ c = 0 := hck
        have hkl : 0 = (l.take 0).length := by rw [List.length_take, hll]; omega
        have CL := Lib.hid (clone_any A 0 c (l.take 0) w hkl (by omega) (by rw [bs_take]; exact hM.rd.take 0))
        have hMc := hM.cut 0 (by omega)
        have hpA := hB.not_mid hM
        replace hB := Lib.hid hB; replace hM := Lib.hid hM; replace hkl := Lib.hid hkl; replace hMc := Lib.hid hMc; replace hpA := Lib.hid hpA; replace hll := Lib.hid hll
        go_enter Try.func22, Try.ntmps22
        go_wp2_with fail
        refine CL.out.mono ?_
        rintro e w1 ⟨A1, k1, rfl, O1, G1⟩
        have B1 := hB.out.grown G1 (by simp)
        have q0 := B1.cell 0; have e0 := B1.free 0; simp at q0
        have M1 := hMc.out.grown G1 (.inl rfl)
        obtain ⟨A5, c5, e5, R1, a5, _⟩ := Rd.of_own O1
        injection e5 with e5 _ e6
        subst e5; subst e6
        have a1 : ablk A1 ≠ some p := fun e => by
          rw [a5] at e
          have := (O1.lt p e).1
          omega
        clear a5
        replace G1 := Lib.hid G1; replace B1 := Lib.hid B1; replace M1 := Lib.hid M1; replace R1 := Lib.hid R1; replace O1 := Lib.hid O1; replace a1 := Lib.hid a1
        go_wp2_with fail
        go_ret
        have hfin : ∀ v, v = Value.slice (cutA A c 0) (0 - 0) (c - 0) → TakePost p base A 0 c 0 l most dr w (.returned (.slice A1 0 k1)) (w1.setCell ⟨p, 0, none⟩ v) := by
          intro v hv
          subst hv
          refine ⟨A1, k1, rfl, R1.out.set _ (by exact a1.out), B1.out.set0 _, ?_, g_set_ (a := ⟨p, 0, none⟩) (G1.out.but (some p)) rfl _⟩
          rw [bs_drop]
          exact M1.out.grown (row := some p) (g_set_ (a := ⟨p, 0, none⟩) (World.grownBy.refl w1 _) rfl _) (.inr (B1.out.not_mid M1.out))
        exact hfin _ (by simp [cutA, map_add0, hck])
  · by_cases h2 : 0 < z
    · obtain rfl : z = (k : Int) := by omega
      clear hk
      by_cases hck : c = k
      · obtain rfl : n = c := by omega
        obtain rfl : k = n := by omega
        clear hck
        have hkl : k = (l.take k).length := by rw [List.length_take, hll]; omega
        have CL := Lib.hid (clone_any A k k (l.take k) w hkl (by omega) (by rw [bs_take]; exact hM.rd.take k))
        have hMc := hM.cut k (by omega)
        have hpA := hB.not_mid hM
        replace hB := Lib.hid hB; replace hM := Lib.hid hM; replace hkl := Lib.hid hkl; replace hMc := Lib.hid hMc; replace hpA := Lib.hid hpA; replace hll := Lib.hid hll
        go_enter Try.func22, Try.ntmps22
        go_wp2_with fail
        refine CL.out.mono ?_
        rintro e w1 ⟨A1, k1, rfl, O1, G1⟩
        have B1 := hB.out.grown G1 (by simp)
        have q0 := B1.cell 0; have e0 := B1.free 0; simp at q0
        have M1 := hMc.out.grown G1 (.inl rfl)
        obtain ⟨A5, c5, e5, R1, a5, _⟩ := Rd.of_own O1
        injection e5 with e5 _ e6
        subst e5; subst e6
        have a1 : ablk A1 ≠ some p := fun e => by
          rw [a5] at e
          have := (O1.lt p e).1
          omega
        clear a5
        replace G1 := Lib.hid G1; replace B1 := Lib.hid B1; replace M1 := Lib.hid M1; replace R1 := Lib.hid R1; replace O1 := Lib.hid O1; replace a1 := Lib.hid a1
        go_wp2_with fail
        go_ret
        have hfin : ∀ v, v = Value.slice (cutA A k k) (k - k) (k - k) → TakePost p base A k k k l most dr w (.returned (.slice A1 k k1)) (w1.setCell ⟨p, 0, none⟩ v) := by
          intro v hv
          subst hv
          refine ⟨A1, k1, rfl, R1.out.set _ (by exact a1.out), B1.out.set0 _, ?_, g_set_ (a := ⟨p, 0, none⟩) (G1.out.but (some p)) rfl _⟩
          rw [bs_drop]
          exact M1.out.grown (row := some p) (g_set_ (a := ⟨p, 0, none⟩) (World.grownBy.refl w1 _) rfl _) (.inr (B1.out.not_mid M1.out))
        exact hfin _ (by simp [cutA, map_add0])
      · replace hck : ¬ c = k := hck
        have hkn : k ≤ n := by omega
        have hkl : k = (l.take k).length := by rw [List.length_take, hll]; omega
        have CL := Lib.hid (clone_any A k c (l.take k) w hkl (by omega) (by rw [bs_take]; exact hM.rd.take k))
        have hMc := hM.cut k (by omega)
        have hpA := hB.not_mid hM
        replace hB := Lib.hid hB; replace hM := Lib.hid hM; replace hkl := Lib.hid hkl; replace hMc := Lib.hid hMc; replace hpA := Lib.hid hpA; replace hll := Lib.hid hll
        go_enter Try.func22, Try.ntmps22
        go_wp2_with fail
        refine CL.out.mono ?_
        rintro e w1 ⟨A1, k1, rfl, O1, G1⟩
        have B1 := hB.out.grown G1 (by simp)
        have q0 := B1.cell 0; have e0 := B1.free 0; simp at q0
        have M1 := hMc.out.grown G1 (.inl rfl)
        obtain ⟨A5, c5, e5, R1, a5, _⟩ := Rd.of_own O1
        injection e5 with e5 _ e6
        subst e5; subst e6
        have a1 : ablk A1 ≠ some p := fun e => by
          rw [a5] at e
          have := (O1.lt p e).1
          omega
        clear a5
        replace G1 := Lib.hid G1; replace B1 := Lib.hid B1; replace M1 := Lib.hid M1; replace R1 := Lib.hid R1; replace O1 := Lib.hid O1; replace a1 := Lib.hid a1
        go_wp2_with fail
        go_ret
        have hfin : ∀ v, v = Value.slice (cutA A c k) (n - k) (c - k) → TakePost p base A n c k l most dr w (.returned (.slice A1 k k1)) (w1.setCell ⟨p, 0, none⟩ v) := by
          intro v hv
          subst hv
          refine ⟨A1, k1, rfl, R1.out.set _ (by exact a1.out), B1.out.set0 _, ?_, g_set_ (a := ⟨p, 0, none⟩) (G1.out.but (some p)) rfl _⟩
          rw [bs_drop]
          exact M1.out.grown (row := some p) (g_set_ (a := ⟨p, 0, none⟩) (World.grownBy.refl w1 _) rfl _) (.inr (B1.out.not_mid M1.out))
        exact hfin _ (by simp [cutA, map_add0, hck])
    · obtain rfl : k = 0 := by omega
      clear hk
      by_cases hck : c = 0
      · obtain rfl : c = 0 := hck
        obtain rfl : n = 0 := by omega
        have hkl : 0 = (l.take 0).length := by rw [List.length_take, hll]; omega
        have CL := Lib.hid (clone_any A 0 0 (l.take 0) w hkl (by omega) (by rw [bs_take]; exact hM.rd.take 0))
        have hMc := hM.cut 0 (by omega)
        have hpA := hB.not_mid hM
        replace hB := Lib.hid hB; replace hM := Lib.hid hM; replace hkl := Lib.hid hkl; replace hMc := Lib.hid hMc; replace hpA := Lib.hid hpA; replace hll := Lib.hid hll
        go_enter Try.func22, Try.ntmps22
        go_wp2_with fail
        refine CL.out.mono ?_
        rintro e w1 ⟨A1, k1, rfl, O1, G1⟩
        have B1 := hB.out.grown G1 (by simp)
        have q0 := B1.cell 0; have e0 := B1.free 0; simp at q0
        have M1 := hMc.out.grown G1 (.inl rfl)
        obtain ⟨A5, c5, e5, R1, a5, _⟩ := Rd.of_own O1
        injection e5 with e5 _ e6
        subst e5; subst e6
        have a1 : ablk A1 ≠ some p := fun e => by
          rw [a5] at e
          have := (O1.lt p e).1
          omega
        clear a5
        replace G1 := Lib.hid G1; replace B1 := Lib.hid B1; replace M1 := Lib.hid M1; replace R1 := Lib.hid R1; replace O1 := Lib.hid O1; replace a1 := Lib.hid a1
        go_wp2_with fail
        go_ret
        have hfin : ∀ v, v = Value.slice (cutA A 0 0) (0 - 0) (0 - 0) → TakePost p base A 0 0 0 l most dr w (.returned (.slice A1 0 k1)) (w1.setCell ⟨p, 0, none⟩ v) := by
          intro v hv
          subst hv
          refine ⟨A1, k1, rfl, R1.out.set _ (by exact a1.out), B1.out.set0 _, ?_, g_set_ (a := ⟨p, 0, none⟩) (G1.out.but (some p)) rfl _⟩
          rw [bs_drop]
          exact M1.out.grown (row := some p) (g_set_ (a := ⟨p, 0, none⟩) (World.grownBy.refl w1 _) rfl _) (.inr (B1.out.not_mid M1.out))
        exact hfin _ (by simp [cutA, map_add0])
      · replace hck : ¬ c = 0 := hck
        have hkl : 0 = (l.take 0).length := by rw [List.length_take, hll]; omega
        have CL := Lib.hid (clone_any A 0 c (l.take 0) w hkl (by omega) (by rw [bs_take]; exact hM.rd.take 0))
        have hMc := hM.cut 0 (by omega)
        have hpA := hB.not_mid hM
        replace hB := Lib.hid hB; replace hM := Lib.hid hM; replace hkl := Lib.hid hkl; replace hMc := Lib.hid hMc; replace hpA := Lib.hid hpA; replace hll := Lib.hid hll
        go_enter Try.func22, Try.ntmps22
        go_wp2_with fail
        refine CL.out.mono ?_
        rintro e w1 ⟨A1, k1, rfl, O1, G1⟩
        have B1 := hB.out.grown G1 (by simp)
        have q0 := B1.cell 0; have e0 := B1.free 0; simp at q0
        have M1 := hMc.out.grown G1 (.inl rfl)
        obtain ⟨A5, c5, e5, R1, a5, _⟩ := Rd.of_own O1
        injection e5 with e5 _ e6
        subst e5; subst e6
        have a1 : ablk A1 ≠ some p := fun e => by
          rw [a5] at e
          have := (O1.lt p e).1
          omega
        clear a5
        replace G1 := Lib.hid G1; replace B1 := Lib.hid B1; replace M1 := Lib.hid M1; replace R1 := Lib.hid R1; replace O1 := Lib.hid O1; replace a1 := Lib.hid a1
        go_wp2_with fail
        go_ret
        have hfin : ∀ v, v = Value.slice (cutA A c 0) (n - 0) (c - 0) → TakePost p base A n c 0 l most dr w (.returned (.slice A1 0 k1)) (w1.setCell ⟨p, 0, none⟩ v) := by
          intro v hv
          subst hv
          refine ⟨A1, k1, rfl, R1.out.set _ (by exact a1.out), B1.out.set0 _, ?_, g_set_ (a := ⟨p, 0, none⟩) (G1.out.but (some p)) rfl _⟩
          rw [bs_drop]
          exact M1.out.grown (row := some p) (g_set_ (a := ⟨p, 0, none⟩) (World.grownBy.refl w1 _) rfl _) (.inr (B1.out.not_mid M1.out))
        exact hfin _ (by simp [cutA, map_add0, hck])
end Go.Proofs.Ytdbjphabmdmjcaa
