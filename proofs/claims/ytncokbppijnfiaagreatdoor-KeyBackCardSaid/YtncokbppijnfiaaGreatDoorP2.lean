/- Key: Parse reads what Name tells. -/
import Derived.Test.YtncokbppijnfiaaGreatDoorP1
namespace Go.Proofs.YtncokbppijnfiaaGreatDoor
open Go.RowKit
set_option linter.unusedSimpArgs false
set_option linter.unusedVariables false

theorem name_cases (c : Int) (h : nameC c ≠ []) : nameC c ∈ wordsL ∨ ∃ n : Nat, c = n ∧ 33 ≤ n ∧ n ≤ 1114111 ∧ Lib.validRune (n : Int) = true ∧ 0 < widthR (n : Int) ∧ nameC c = encL (n : Int) := by
  by_cases h1 : c = 9
  · subst h1; exact .inl (by unfold wordsL; simp)
  by_cases h2 : c = 13
  · subst h2; exact .inl (by unfold wordsL; simp)
  by_cases h3 : c = 32
  · subst h3; exact .inl (by unfold wordsL; simp)
  by_cases h4 : c = 127
  · subst h4; exact .inl (by unfold wordsL; simp)
  have hN : nameC c = if 1114112 ≤ c ∧ c < 1114143 then specialsL.getD (c - 1114112).toNat [] else if 32 < c ∧ c ≤ 1114111 ∧ Lib.validRune c = true ∧ 0 < widthR c then (Utf8.encode c).data.toList else [] := by
    rw [nameC, if_neg h1, if_neg h2, if_neg h3, if_neg h4]
  by_cases h5 : 1114112 ≤ c ∧ c < 1114143
  · left
    rw [hN, if_pos h5, List.getD_eq_getElem?_getD, List.getElem?_eq_getElem (by show (c - 1114112).toNat < 31; omega), Option.getD_some]
    unfold wordsL
    exact List.mem_append_right _ (List.getElem_mem _)
  rw [if_neg h5] at hN
  by_cases h6 : 32 < c ∧ c ≤ 1114111 ∧ Lib.validRune c = true ∧ 0 < widthR c
  rotate_left
  · rw [if_neg h6] at hN; exact absurd hN h
  have hE : nameC c = encL c := by rw [hN, if_pos h6]; rfl
  obtain ⟨n, rfl⟩ : ∃ n : Nat, c = n := ⟨c.toNat, by omega⟩
  exact .inr ⟨n, rfl, by omega, by omega, h6.2.2.1, h6.2.2.2, hE⟩
set_option maxRecDepth 100000 in
theorem words_stop : (wordsL.all fun s => decide (s[1]? ≠ some 45)) = true := by kernel_rfl
theorem name_stop (c : Int) (h : nameC c ≠ []) : (nameC c).length ≤ 2 ∨ (nameC c)[1]? ≠ some 45 := by
  rcases name_cases c h with h1 | ⟨n, _, _, _, hv, _, e⟩
  · have h2 := List.all_eq_true.1 words_stop _ h1
    rw [decide_eq_true_eq] at h2
    exact .inr h2
  · rw [e, enc_nat n hv]
    by_cases h1 : n < 128
    · rw [if_pos h1]; exact .inl (by simp)
    rw [if_neg h1]
    by_cases h2 : n < 2048
    · rw [if_pos h2]; exact .inl (by simp)
    rw [if_neg h2]
    have hne : ∀ k, k < 64 → UInt8.ofNat (128 + k) ≠ 45 := fun k hk e => by
      have := congrArg UInt8.toNat e
      rw [ofN _ (by omega)] at this
      have h45 : (45 : UInt8).toNat = 45 := rfl
      omega
    by_cases h3 : n < 65536
    · rw [if_pos h3]
      refine .inr fun e => hne (n / 64 % 64) (by omega) ?_
      injection e
    · rw [if_neg h3]
      refine .inr fun e => hne (n / 4096 % 64) (by omega) ?_
      injection e
theorem right_m {c m : Int} (h : rightK c m = true) : nameC c ≠ [] ∧ 0 ≤ m ∧ m ≤ 7 := by
  have hn : ¬ (nameC c = [] ∨ m < 0 ∨ 7 < m) := fun h1 => by rw [rightK_no h1] at h; cases h
  refine ⟨fun e => hn (.inl e), ?_, ?_⟩
  · have := fun e => hn (.inr (.inl e)); omega
  · have := fun e => hn (.inr (.inr e)); omega
theorem right_plain {c m : Int} (h : rightK c m = true) (h4 : 4 ≤ m) : plainK c m = (c, m) := by
  obtain ⟨hn, h0, h7⟩ := right_m h
  have hc : 1114112 ≤ c ∨ (97 ≤ c ∧ c ≤ 122 ∧ c ≠ 105 ∧ c ≠ 109) ∨ (92 ≤ c ∧ c ≤ 95) ∨ c = 32 := by
    unfold rightK at h
    rw [if_neg (fun h => h.elim hn (by omega))] at h
    by_cases h1 : (1114112 ≤ c ∧ c ≤ 1114133) ∨ isMouse c = true
    · rcases h1 with h1 | h1
      · exact .inl h1.1
      · unfold isMouse at h1; simp at h1; exact .inl (by omega)
    rw [if_neg h1] at h
    by_cases h2 : c = 1114141 ∨ c = 1114142
    · exact .inl (by omega)
    rw [if_neg h2] at h
    by_cases h3 : m % 2 = 1
    · rw [if_pos h3] at h; cases h
    rw [if_neg h3, if_neg (by omega), decide_eq_true_eq] at h
    exact .inr h
  have hl : lowK c = c := by unfold lowK; rw [if_neg (by omega)]
  unfold plainK
  rw [hl, if_neg (by omega), if_neg (by omega), if_neg (by omega), if_neg (by omega)]
theorem parse_name (c m : Int) (h : rightK c m = true) : parseL (nameK c m) = some (c, m) := by
  obtain ⟨hn, h0, h7⟩ := right_m h
  have hF : finL m (nameC c) = some (c, m) := by
    have hp : (if 4 ≤ m then plainK (codeL (nameC c)) m else (codeL (nameC c), m)) = (c, m) := by
      rw [code_name c hn]
      split
      · rename_i h4; exact right_plain h h4
      · rfl
    unfold finL
    rw [hp]
    dsimp only
    rw [if_pos h]
  have hs : ∀ m', modsL m' (nameC c) = some (m', nameC c) := fun m' => mods_stop ((name_stop c hn).elim .inl fun h => .inr (.inl h))
  unfold nameK parseL
  rw [if_pos h]
  obtain ⟨x, r, hN⟩ : ∃ x r, nameC c = x :: r := by
    cases hh : nameC c with
    | nil => exact absurd hh hn
    | cons x r => exact ⟨x, r, rfl⟩
  rw [hN] at hs hF ⊢
  have h67 : modOf 67 = 4 := rfl
  have h77 : modOf 77 = 2 := rfl
  have h83 : modOf 83 = 1 := rfl
  have g67 : ∀ (m' : Int) (a : UInt8) (t : List UInt8), m' = 0 → modsL m' (67 :: 45 :: a :: t) = modsL 4 (a :: t) := fun m' a t e => by
    rw [mods_go (by rw [h67]; decide), h67, if_neg (by omega), e]; rfl
  have g77 : ∀ (m' : Int) (a : UInt8) (t : List UInt8), m' = 0 ∨ m' = 4 → modsL m' (77 :: 45 :: a :: t) = modsL (m' + 2) (a :: t) := fun m' a t e => by
    rw [mods_go (by rw [h77]; decide), h77, if_neg (by omega)]
  have g83 : ∀ (m' : Int) (a : UInt8) (t : List UInt8), m' = 0 ∨ m' = 2 ∨ m' = 4 ∨ m' = 6 → modsL m' (83 :: 45 :: a :: t) = modsL (m' + 1) (a :: t) := fun m' a t e => by
    rw [mods_go (by rw [h83]; decide), h83, if_neg (by omega)]
  have hm : m = 0 ∨ m = 1 ∨ m = 2 ∨ m = 3 ∨ m = 4 ∨ m = 5 ∨ m = 6 ∨ m = 7 := by omega
  clear h h0 h7
  rcases hm with rfl | rfl | rfl | rfl | rfl | rfl | rfl | rfl
  · show (modsL 0 (x :: r)).bind _ = _
    rw [hs]; exact hF
  · show (modsL 0 (83 :: 45 :: x :: r)).bind _ = _
    rw [g83 0 _ _ (by decide), hs]; exact hF
  · show (modsL 0 (77 :: 45 :: x :: r)).bind _ = _
    rw [g77 0 _ _ (by decide), hs]; exact hF
  · show (modsL 0 (77 :: 45 :: 83 :: 45 :: x :: r)).bind _ = _
    rw [g77 0 _ _ (by decide), g83 _ _ _ (by decide), hs]; exact hF
  · show (modsL 0 (67 :: 45 :: x :: r)).bind _ = _
    rw [g67 0 _ _ rfl, hs]; exact hF
  · show (modsL 0 (67 :: 45 :: 83 :: 45 :: x :: r)).bind _ = _
    rw [g67 0 _ _ rfl, g83 4 _ _ (by decide), hs]; exact hF
  · show (modsL 0 (67 :: 45 :: 77 :: 45 :: x :: r)).bind _ = _
    rw [g67 0 _ _ rfl, g77 4 _ _ (by decide), hs]; exact hF
  · show (modsL 0 (67 :: 45 :: 77 :: 45 :: 83 :: 45 :: x :: r)).bind _ = _
    rw [g67 0 _ _ rfl, g77 4 _ _ (by decide), g83 _ _ _ (by decide), hs]; exact hF
theorem name_ne (c m : Int) (h : rightK c m = true) : nameK c m ≠ [] := by
  unfold nameK
  rw [if_pos h]
  intro e
  exact (right_m h).1 (List.append_eq_nil_iff.1 e).2
/-- Names tell keys apart, ahead of a right one. -/
theorem name_inj (c m c' m' : Int) (h : rightK c m = true) : nameK c' m' = nameK c m ↔ (c' = c ∧ m' = m) := by
  refine ⟨fun e => ?_, fun e => by rw [e.1, e.2]⟩
  by_cases h' : rightK c' m' = true
  · have a := parse_name c m h
    rw [← e, parse_name c' m' h'] at a
    injection a with a
    injection a with a1 a2
    exact ⟨a1, a2⟩
  · have : nameK c' m' = [] := by unfold nameK; rw [if_neg h']
    exact absurd (e.symm.trans this) (name_ne c m h)
end Go.Proofs.YtncokbppijnfiaaGreatDoor
