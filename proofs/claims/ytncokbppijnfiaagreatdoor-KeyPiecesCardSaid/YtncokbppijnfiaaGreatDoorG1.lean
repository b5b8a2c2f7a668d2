/- Key: tilde. -/
import Derived.Test.YtncokbppijnfiaaGreatDoorC4
namespace Go.Proofs.YtncokbppijnfiaaGreatDoor
open Go.RowKit
set_option linter.unusedSimpArgs false
set_option linter.unusedVariables false

theorem Wd.num {w : World} (h : Wd w) (j : Nat) (hj : j < 16) : w.cell? ⟨0, j, none⟩ = some (.int .i64 (numbersL.getD j 0)) := (h.nu).cell (g := 0) (by kernel_rfl) j hj
theorem idxFI (x : Int) : ∀ (l : List Int) (i : Nat), Lib.idxFrom l x i = if x ∈ l then ((i + l.idxOf x : Nat) : Int) else -1
  | [], i => by simp [Lib.idxFrom]
  | a :: l, i => by
    rw [Lib.idxFrom]
    by_cases h : a = x
    · subst h
      rw [if_pos (by simp), if_pos List.mem_cons_self, List.idxOf_cons_self]; rfl
    · rw [if_neg (by simpa using h), idxFI x l (i + 1)]
      by_cases hm : x ∈ l
      · rw [if_pos hm, if_pos (List.mem_cons_of_mem _ hm)]
        have hb : (a == x) = false := by rw [beq_eq_false_iff_ne]; exact h
        have : (a :: l).idxOf x = l.idxOf x + 1 := by rw [List.idxOf_cons, hb]; rfl
        rw [this]; omega
      · rw [if_neg hm, if_neg (fun hc => by
          rcases List.mem_cons.1 hc with e | e
          · exact h e.symm
          · exact hm e)]
set_option maxHeartbeats 1000000 in
set_option maxRecDepth 100000 in
theorem tilde_any (n : Int) (h0 : 0 ≤ n) (h9 : n ≤ 9999) (w : World) (hW : Wd w) : Calls Tryz.prog 88 #[.int .i64 n] w fun e w' => e = .returned (.int .i64 (tildeL n)) ∧ w.grownBy w' none := by
  by_cases k1 : n = 1
  · subst k1
    go_enter Tryz.func88, Tryz.ntmps88
    go_wp2_with fail
    go_ret
    exact ⟨rfl, World.grownBy.refl _ _⟩
  by_cases k7 : n = 7
  · subst k7
    go_enter Tryz.func88, Tryz.ntmps88
    go_wp2_with fail
    go_ret
    exact ⟨rfl, World.grownBy.refl _ _⟩
  by_cases k4 : n = 4
  · subst k4
    go_enter Tryz.func88, Tryz.ntmps88
    go_wp2_with fail
    go_ret
    exact ⟨rfl, World.grownBy.refl _ _⟩
  by_cases k8 : n = 8
  · subst k8
    go_enter Tryz.func88, Tryz.ntmps88
    go_wp2_with fail
    go_ret
    exact ⟨rfl, World.grownBy.refl _ _⟩
  by_cases k200 : n = 200
  · subst k200
    go_enter Tryz.func88, Tryz.ntmps88
    go_wp2_with fail
    go_ret
    exact ⟨rfl, World.grownBy.refl _ _⟩
  by_cases k201 : n = 201
  · subst k201
    go_enter Tryz.func88, Tryz.ntmps88
    go_wp2_with fail
    go_ret
    exact ⟨rfl, World.grownBy.refl _ _⟩
  by_cases k11 : 11 ≤ n ∧ n ≤ 14
  · have hn : n = 11 ∨ n = 12 ∨ n = 13 ∨ n = 14 := by omega
    rcases hn with rfl | rfl | rfl | rfl
    all_goals
      clear k11 k1 k7 k4 k8 k200 k201
      go_enter Tryz.func88, Tryz.ntmps88
      go_wp2_with fail
      go_ret
      exact ⟨rfl, World.grownBy.refl _ _⟩
  have e1 : tildeL n = if 0 < n ∧ n ∈ numbersL then 1114118 + (numbersL.idxOf n : Int) else 0 := by
    unfold tildeL
    rw [if_neg (by omega), if_neg (by omega), if_neg (by omega), if_neg (by omega), if_neg k11]
  have q11 : ¬ n = 11 := by omega
  have q12 : ¬ n = 12 := by omega
  have q13 : ¬ n = 13 := by omega
  have q14 : ¬ n = 14 := by omega
  clear k11
  have c0 := hW.num 0 (by omega); have c1 := hW.num 1 (by omega); have c2 := hW.num 2 (by omega); have c3 := hW.num 3 (by omega); have c4 := hW.num 4 (by omega); have c5 := hW.num 5 (by omega); have c6 := hW.num 6 (by omega); have c7 := hW.num 7 (by omega); have c8 := hW.num 8 (by omega); have c9 := hW.num 9 (by omega); have c10 := hW.num 10 (by omega); have c11 := hW.num 11 (by omega); have c12 := hW.num 12 (by omega); have c13 := hW.num 13 (by omega); have c14 := hW.num 14 (by omega); have c15 := hW.num 15 (by omega)
  obtain ⟨TL, hTL⟩ : ∃ r, r = tildeL n := ⟨_, rfl⟩
  rw [← hTL] at e1 ⊢
  have R0 := Rd.newL w (numbersL.map (Value.int .i64)) 3
  have CI : Hid (∀ (W : World) (B : Nat), (∀ j, j < 16 → W.cell? ⟨B, j, none⟩ = some (.int .i64 (numbersL.getD j 0))) → Calls Tryz.prog 94 #[.slice (some ⟨B, 0, none⟩) 16 16, .int .i64 n] W fun e w' => e = .returned (.int .i64 (if n ∈ numbersL then (numbersL.idxOf n : Int) else -1)) ∧ w' = W) := Lib.hid fun W B hc => by
    have := Tryz.slices_Index_int B 0 16 16 numbersL n W (by decide) (by decide) (fun j hj => by rw [Nat.zero_add]; exact hc j hj)
    rw [List.take_of_length_le (by decide)] at this
    unfold Lib.idxOf at this
    rw [idxFI, Nat.zero_add] at this
    exact this
  replace hTL := Lib.hid hTL; replace e1 := Lib.hid e1; replace hW := Lib.hid hW; replace R0 := Lib.hid R0
  go_enter Tryz.func88, Tryz.ntmps88
  go_wp2_with fail
  obtain ⟨ix, hix⟩ : ∃ z : Int, z = if n ∈ numbersL then (numbersL.idxOf n : Int) else -1 := ⟨_, rfl⟩
  have CI2 := CI.out (w.alloc (.cells (numbersL.map (Value.int .i64)).toArray 60)) w.heap.size (fun j hj => by
    unfold World.cell?
    rw [heap_alloc_new]
    have hjl : j < numbersL.length := hj
    show ((numbersL.map (Value.int .i64)).toArray)[j]? = _
    rw [List.getElem?_toArray, List.getElem?_map, List.getD_eq_getElem?_getD, List.getElem?_eq_getElem hjl]; rfl)
  rw [← hix] at CI2
  have hix1 : -1 ≤ ix ∧ ix ≤ 15 := by
    rw [hix]
    split
    · rename_i h
      have : numbersL.idxOf n < numbersL.length := List.idxOf_lt_length_of_mem h
      have hl : numbersL.length = 16 := by decide
      omega
    · omega
  have e2 : TL = if 0 < n ∧ 0 ≤ ix then 1114118 + ix else 0 := by
    rw [e1.out]
    by_cases h : n ∈ numbersL
    · rw [if_pos h] at hix
      by_cases h2 : 0 < n
      · rw [if_pos ⟨h2, h⟩, if_pos ⟨h2, by omega⟩, hix]
      · rw [if_neg (fun q => h2 q.1), if_neg (fun q => h2 q.1)]
    · rw [if_neg h] at hix
      rw [if_neg (fun q => h q.2), if_neg (by omega)]
  replace hix := Lib.hid hix; replace CI2 := Lib.hid CI2; replace e2 := Lib.hid e2
  refine CI2.out.mono ?_
  rintro e w2 ⟨rfl, rfl⟩
  have G2 := World.grownBy_alloc w (.cells (numbersL.map (Value.int .i64)).toArray 60) none
  clear c0 c1 c2 c3 c4 c5 c6 c7 c8 c9 c10 c11 c12 c13 c14 c15
  by_cases hi : 0 ≤ ix
  · by_cases hn : 0 < n
    · have e3 : TL = 1114118 + ix := by rw [e2.out, if_pos ⟨hn, hi⟩]
      replace e3 := Lib.hid e3
      go_wp2_with fail
      go_ret
      exact ⟨by show Ending.returned (.int .i64 (1114118 + ix)) = .returned (.int .i64 TL); rw [e3.out], G2⟩
    · have e3 : TL = 0 := by rw [e2.out, if_neg (fun h => hn h.1)]
      replace e3 := Lib.hid e3
      go_wp2_with fail
      go_ret
      exact ⟨by rw [e3.out]; rfl, G2⟩
  · have e3 : TL = 0 := by rw [e2.out, if_neg (fun h => hi h.2)]
    replace e3 := Lib.hid e3
    go_wp2_with fail
    go_ret
    exact ⟨by rw [e3.out]; rfl, G2⟩
end Go.Proofs.YtncokbppijnfiaaGreatDoor
