/- Key: the document's answer: letter, number, digits. -/
import Derived.Test.YtncokbppijnfiaaGreatDoorV2
import Derived.Test.YtncokbppijnfiaaGreatDoorB1
import Derived.Test.YtncokbppijnfiaaGreatDoorL1
namespace Go.Proofs.YtncokbppijnfiaaGreatDoor
open Go.RowKit
set_option linter.unusedSimpArgs false
set_option linter.unusedVariables false

def letL (c : Int) : List UInt8 := if (endedL c).1 = 0 then [] else [(endedL c).1]
def numR (c : Int) : Int := if 1114118 ≤ c ∧ c ≤ 1114133 then numOf c else 0
def letCs : List Int := [1114112, 1114113, 1114115, 1114114, 1114116, 1114117, 1114122, 1114123, 1114124, 1114125]
theorem letL_no (c : Int) (h : c ∉ letCs) : letL c = [] := by
  simp only [letCs, List.mem_cons, List.not_mem_nil, or_false, not_or] at h
  have : (endedL c).1 = 0 := by
    unfold endedL
    rw [if_neg (by omega), if_neg (by omega)]
  unfold letL
  rw [if_pos this]
theorem letL_of : letCs.map letL = [[65], [66], [67], [68], [72], [70], [80], [81], [82], [83]] := by kernel_rfl
set_option maxHeartbeats 1000000 in
set_option maxRecDepth 100000 in
theorem letter_any (c : Int) (w : World) : Calls Tryz.prog 31 #[.int .i64 c] w fun e w' => e = .returned (.string (st (letL c))) ∧ w' = w := by
  have hl := letL_of
  simp only [letCs, List.map_cons, List.map_nil, List.cons.injEq, and_true] at hl
  obtain ⟨l0, l1, l2, l3, l4, l5, l6, l7, l8, l9⟩ := hl
  by_cases h : c ∈ letCs
  · have hc := h
    simp only [letCs, List.mem_cons, List.not_mem_nil, or_false] at hc
    clear h
    rcases hc with rfl | rfl | rfl | rfl | rfl | rfl | rfl | rfl | rfl | rfl
    all_goals
      simp only [l0, l1, l2, l3, l4, l5, l6, l7, l8, l9]
      clear l0 l1 l2 l3 l4 l5 l6 l7 l8 l9
      go_enter Tryz.func31, Tryz.ntmps31
      go_wp2_with fail
      go_ret
      exact ⟨rfl, rfl⟩
  · rw [letL_no c h]
    simp only [letCs, List.mem_cons, List.not_mem_nil, or_false, not_or] at h
    obtain ⟨k0, k1, k2, k3, k4, k5, k6, k7, k8, k9⟩ := h
    clear l0 l1 l2 l3 l4 l5 l6 l7 l8 l9
    go_enter Tryz.func31, Tryz.ntmps31
    go_wp2_with fail
    go_ret
    exact ⟨rfl, rfl⟩
theorem num_four : numR 1114118 = 2 ∧ numR 1114119 = 3 ∧ numR 1114120 = 5 ∧ numR 1114121 = 6 ∧ numR 1114122 = 0 ∧ numR 1114123 = 0 ∧ numR 1114124 = 0 ∧ numR 1114125 = 0 := ⟨by kernel_rfl, by kernel_rfl, by kernel_rfl, by kernel_rfl, by kernel_rfl, by kernel_rfl, by kernel_rfl, by kernel_rfl⟩
theorem num_far (j : Nat) (h : j < 8) : numR (1114126 + (j : Int)) = ([15, 17, 18, 19, 20, 21, 23, 24] : List Int).getD j 0 := by
  have : j = 0 ∨ j = 1 ∨ j = 2 ∨ j = 3 ∨ j = 4 ∨ j = 5 ∨ j = 6 ∨ j = 7 := by omega
  rcases this with rfl | rfl | rfl | rfl | rfl | rfl | rfl | rfl <;> rfl
theorem num_no (c : Int) (h : ¬ (1114118 ≤ c ∧ c ≤ 1114121)) (h2 : ¬ (1114126 ≤ c ∧ c ≤ 1114133)) : numR c = 0 := by
  by_cases h3 : 1114118 ≤ c ∧ c ≤ 1114133
  · have : c = 1114122 ∨ c = 1114123 ∨ c = 1114124 ∨ c = 1114125 := by omega
    obtain ⟨_, _, _, _, a, b, d, e⟩ := num_four
    rcases this with rfl | rfl | rfl | rfl
    · exact a
    · exact b
    · exact d
    · exact e
  · unfold numR; rw [if_neg h3]
set_option maxHeartbeats 1000000 in
set_option maxRecDepth 100000 in
theorem number_any (c : Int) (w : World) : Calls Tryz.prog 32 #[.int .i64 c] w fun e w' => e = .returned (.int .i64 (numR c)) ∧ w.grownBy w' none := by
  by_cases h4 : 1114118 ≤ c ∧ c ≤ 1114121
  · have : c = 1114118 ∨ c = 1114119 ∨ c = 1114120 ∨ c = 1114121 := by omega
    obtain ⟨a, b, d, e, _⟩ := num_four
    clear h4
    rcases this with rfl | rfl | rfl | rfl
    all_goals
      simp only [a, b, d, e]
      clear a b d e
      go_enter Tryz.func32, Tryz.ntmps32
      go_wp2_with fail
      go_ret
      exact ⟨rfl, World.grownBy.refl _ _⟩
  by_cases h8 : 1114126 ≤ c ∧ c ≤ 1114133
  · obtain ⟨j, hj⟩ : ∃ j : Nat, c = 1114126 + (j : Int) := ⟨(c - 1114126).toNat, by omega⟩
    have hj8 : j < 8 := by omega
    have hr := num_far j hj8
    rw [← hj] at hr
    have he : c - 1114126 = (j : Int) := by omega
    obtain ⟨r, hr2⟩ : ∃ r, r = numR c := ⟨_, rfl⟩
    rw [← hr2] at hr ⊢
    have hR := Rd.newL w [.int .i64 15, .int .i64 17, .int .i64 18, .int .i64 19, .int .i64 20, .int .i64 21, .int .i64 23, .int .i64 24] 3
    obtain ⟨b, o, e1, _, hc0⟩ := hR.at_ (j := j) (u := .int .i64 r) (by
      have : j = 0 ∨ j = 1 ∨ j = 2 ∨ j = 3 ∨ j = 4 ∨ j = 5 ∨ j = 6 ∨ j = 7 := by omega
      rw [hr]
      rcases this with rfl | rfl | rfl | rfl | rfl | rfl | rfl | rfl <;> rfl)
    cases e1
    rw [Nat.zero_add] at hc0
    obtain ⟨q1, q2⟩ := h8
    have n0 : ¬ c = 1114118 := by omega
    have n1 : ¬ c = 1114119 := by omega
    have n2 : ¬ c = 1114120 := by omega
    have n3 : ¬ c = 1114121 := by omega
    replace hj := Lib.hid hj; replace hr := Lib.hid hr; replace hr2 := Lib.hid hr2; replace hR := Lib.hid hR
    clear h4
    go_enter Tryz.func32, Tryz.ntmps32
    go_wp2_with fail
    go_ret
    exact ⟨rfl, World.grownBy_alloc _ _ _⟩
  · have hr := num_no c h4 h8
    obtain ⟨r, hr2⟩ : ∃ r, r = numR c := ⟨_, rfl⟩
    rw [hr]
    have n0 : ¬ c = 1114118 := by omega
    have n1 : ¬ c = 1114119 := by omega
    have n2 : ¬ c = 1114120 := by omega
    have n3 : ¬ c = 1114121 := by omega
    have hcs : (¬ 1114126 ≤ c) ∨ (1114126 ≤ c ∧ ¬ c ≤ 1114133) := by omega
    replace hr := Lib.hid hr; replace hr2 := Lib.hid hr2
    clear h4 h8
    rcases hcs with h | ⟨h, h'⟩
    all_goals
      go_enter Tryz.func32, Tryz.ntmps32
      go_wp2_with fail
      go_ret
      exact ⟨rfl, World.grownBy_alloc _ _ _⟩
/-- digits' loop: t stands, m is left. -/
def DgI (n m : Nat) (t : List UInt8) : Prop := (t = [] ∧ m = n) ∨ (t ≠ [] ∧ Lib.decDigits n = if m = 0 then t else Lib.decDigits m ++ t)
theorem dg_dec (m : Nat) : Lib.decDigits m = if m / 10 = 0 then [UInt8.ofNat (48 + m % 10)] else Lib.decDigits (m / 10) ++ [UInt8.ofNat (48 + m % 10)] := by
  rw [Lib.decDigits]
  by_cases h : m < 10
  · rw [dif_pos h, if_pos (by omega), Nat.mod_eq_of_lt h]
  · rw [dif_neg h, if_neg (by omega)]
theorem DgI.step {n m : Nat} {t : List UInt8} (h : DgI n m t) (hg : t = [] ∨ 0 < m) : DgI n (m / 10) (UInt8.ofNat (48 + m % 10) :: t) := by
  refine .inr ⟨by simp, ?_⟩
  rcases h with ⟨rfl, rfl⟩ | ⟨ht, h⟩
  · exact dg_dec m
  · have hm : 0 < m := hg.resolve_left ht
    rw [h, if_neg (by omega), dg_dec m]
    split
    · rfl
    · rw [List.append_assoc]; rfl
theorem DgI.fin {n : Nat} {t : List UInt8} (h : DgI n 0 t) (ht : t ≠ []) : t = Lib.decDigits n := by
  rcases h with h | ⟨_, h⟩
  · exact absurd h.1 ht
  · rw [h, if_pos rfl]
theorem DgI.len {n m : Nat} {t : List UInt8} (h : DgI n m t) (hn : n ≤ 1000000) : t.length ≤ 7 := by
  have := dd_len 6 n (by omega)
  rcases h with ⟨rfl, _⟩ | ⟨_, h⟩
  · simp
  · have h2 := congrArg List.length h
    split at h2
    · omega
    · rw [List.length_append] at h2; omega
theorem isEmpty_st (t : List UInt8) : (st t).toList.isEmpty = decide (t = []) := by
  rw [st_toList]
  cases t <;> rfl
set_option maxHeartbeats 1000000 in
set_option maxRecDepth 100000 in
theorem digits_any (n : Nat) (hn : n ≤ 1000000) (w : World) : Calls Tryz.prog 33 #[.int .i64 n] w fun e w' => e = .returned (.string (st (Lib.decDigits n))) ∧ w.grownBy w' none := by
  obtain ⟨D, hD⟩ : ∃ D, D = Lib.decDigits n := ⟨_, rfl⟩
  rw [← hD]
  replace hD := Lib.hid hD
  go_enter Tryz.func33, Tryz.ntmps33
  go_wp2_with fail
  go_loopw [0, 3] (fun nv sv wr => ∃ (m : Nat) (t : List UInt8) (S : ByteArray), nv = .int .i64 m ∧ sv = .string S ∧ m ≤ 1000000 ∧ Hid (S = st t) ∧ Hid (DgI n m t) ∧ Hid (w.grownBy wr none)) (fun nv sv _ => (match nv with | .int _ i => i | _ => 0).toNat + (match sv with | .string b => if b.size = 0 then 1 else 0 | _ => 0))
  case atStart => exact ⟨n, [], ⟨#[]⟩, rfl, rfl, hn, Lib.hid rfl, Lib.hid (.inl ⟨rfl, rfl⟩), Lib.hid (World.grownBy.refl _ _)⟩
  case round =>
    obtain ⟨m, t, S, rfl, rfl, hm, hS, hI, hg⟩ := hrel
    have hE : S.toList.isEmpty = decide (t = []) := by rw [hS.out]; exact isEmpty_st t
    by_cases hc : t = [] ∨ 0 < m
    · have hst := hI.out.step hc
      have hl7 := hst.len hn
      have hr1 : (m : Int).tmod 10 = (m : Int) % 10 := Int.tmod_eq_emod_of_nonneg (by omega)
      have hq1 : (m : Int).tdiv 10 = (m : Int) / 10 := Int.tdiv_eq_ediv_of_nonneg (by omega)
      have w3 : wrap64 ((m : Int) % 10) = (m : Int) % 10 := IntWalk.wrap64_in _ (by omega)
      have w4 : wrap64 (48 + (m : Int) % 10) = 48 + (m : Int) % 10 := IntWalk.wrap64_in _ (by omega)
      have w6 : wrap64 ((m : Int) / 10) = (m : Int) / 10 := IntWalk.wrap64_in _ (by omega)
      have w5 : IntKind.u8.wrap (48 + (m : Int) % 10) = 48 + (m : Int) % 10 := by
        have h : (48 + (m : Int) % 10) % 256 = 48 + (m : Int) % 10 := by omega
        simp [IntKind.wrap, IntKind.signed, IntKind.bits, h]
      obtain ⟨dv, hdv⟩ : ∃ d : Int, d = 48 + (m : Int) % 10 := ⟨_, rfl⟩
      obtain ⟨Dg, hDg⟩ : ∃ s, s = st [UInt8.ofNat (48 + m % 10)] := ⟨_, rfl⟩
      have hcv : (convert 32 9 (.slice (some ⟨wr.heap.size, 0, none⟩) 1 1)).run Tryz.prog (wr.alloc (.cells #[.int .u8 (48 + (m : Int) % 10)] 5)) = .ok (.string Dg) (wr.alloc (.cells #[.int .u8 (48 + (m : Int) % 10)] 5)) := by
        rw [hDg]
        refine conv_str _ 32 9 5 Tryz.underlying32 Tryz.underlying5 Tryz.underlying9 _ 1 1 [UInt8.ofNat (48 + m % 10)] rfl ?_
        have h := Rd.newL wr (bs [UInt8.ofNat (48 + m % 10)]) 5
        have e : bs [UInt8.ofNat (48 + m % 10)] = [.int .u8 (48 + (m : Int) % 10)] := by
          simp only [bs, b8, List.map_cons, List.map_nil]
          rw [show (UInt8.ofNat (48 + m % 10)).toNat = 48 + m % 10 by rw [UInt8.toNat_ofNat']; exact Nat.mod_eq_of_lt (by omega)]
          congr 2
        rw [e] at h ⊢
        exact h
      obtain ⟨S2, hS2⟩ : ∃ s, s = st (UInt8.ofNat (48 + m % 10) :: t) := ⟨_, rfl⟩
      have hadd : ∀ W, Sem.run Tryz.prog (Op.stringOp .add Dg S) W = .ok (.string S2) W := by
        have := adds_st [UInt8.ofNat (48 + m % 10)] t (by rw [List.length_cons] at hl7; rw [List.length_singleton]; omega)
        rw [hDg, hS.out, hS2]
        exact this
      have hsz : S2.size = t.length + 1 := by rw [hS2, st_size, List.length_cons]
      have hm10 : (m : Int) / 10 = ((m / 10 : Nat) : Int) := by omega
      have hm11 : m / 10 ≤ 1000000 := by omega
      have hmeas : ((m : Int) / 10).toNat + (if S2.size = 0 then 1 else 0) < (m : Int).toNat + (if S.size = 0 then 1 else 0) := by
        rw [hsz, if_neg (by omega)]
        rcases hc with rfl | hc
        · have : S.size = 0 := by rw [hS.out, st_size]; rfl
          rw [if_pos this]; omega
        · split <;> omega
      have hcs : (t = [] ∧ decide (t = []) = true) ∨ (decide (t = []) = false ∧ (0 : Int) < (m : Int)) := by
        by_cases h : t = []
        · exact .inl ⟨h, decide_eq_true h⟩
        · exact .inr ⟨decide_eq_false h, by have := hc.resolve_left h; omega⟩
      replace hst := Lib.hid hst; replace hdv := Lib.hid hdv; replace hDg := Lib.hid hDg; replace hS2 := Lib.hid hS2; replace hsz := Lib.hid hsz; replace hmeas := Lib.hid hmeas; replace hm10 := Lib.hid hm10; replace hc := Lib.hid hc
      rcases hcs with ⟨h1, h2⟩ | ⟨h2, h3⟩
      · replace h1 := Lib.hid h1
        rw [h2] at hE
        go_wp2_with fail
        exact ⟨⟨m / 10, _, S2, congrArg _ hm10.out, rfl, hm11, hS2, hst, Lib.hid (g_alloc hg.out _)⟩, hmeas.out⟩
      · rw [h2] at hE
        go_wp2_with fail
        exact ⟨⟨m / 10, _, S2, congrArg _ hm10.out, rfl, hm11, hS2, hst, Lib.hid (g_alloc hg.out _)⟩, hmeas.out⟩
    · have ht : t ≠ [] := fun h => hc (.inl h)
      have hm0 : m = 0 := by omega
      have hf : S = st D := by
        have h := hI.out
        rw [hm0] at h
        rw [hS.out, h.fin ht, hD.out]
      have h00 : ¬ (0 : Int) < (m : Int) := by omega
      have h01 : decide ((0 : Int) < (m : Int)) = false := decide_eq_false h00
      replace hm0 := Lib.hid hm0; replace hf := Lib.hid hf; replace ht := Lib.hid ht
      rw [decide_eq_false ht.out] at hE
      replace hc := Lib.hid hc
      go_wp2_with fail
      go_ret
      exact ⟨by rw [hf.out]; rfl, hg.out⟩
end Go.Proofs.YtncokbppijnfiaaGreatDoor
