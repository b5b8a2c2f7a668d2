/- Key: a rune's bytes and their reading; the code of a name. -/
import Derived.Test.YtncokbppijnfiaaGreatDoorD4
import Derived.Test.YtncokbppijnfiaaGreatDoorB1
namespace Go.Proofs.YtncokbppijnfiaaGreatDoor
open Go.RowKit
set_option linter.unusedSimpArgs false
set_option linter.unusedVariables false

theorem valid_nat (n : Nat) (h : Lib.validRune (n : Int) = true) : Utf8.valid (n : Int) = true := by
  unfold Lib.validRune at h
  unfold Utf8.valid
  rw [decide_eq_true_eq] at h
  simp only [Bool.or_eq_true, Bool.and_eq_true, decide_eq_true_eq]
  omega
theorem enc_eq (c : Int) (h : Utf8.valid c = true) : Utf8.encode c = if c.toNat < 128 then ⟨#[UInt8.ofNat c.toNat]⟩ else if c.toNat < 2048 then ⟨#[UInt8.ofNat (192 + c.toNat / 64), UInt8.ofNat (128 + c.toNat % 64)]⟩
    else if c.toNat < 65536 then ⟨#[UInt8.ofNat (224 + c.toNat / 4096), UInt8.ofNat (128 + c.toNat / 64 % 64), UInt8.ofNat (128 + c.toNat % 64)]⟩
    else ⟨#[UInt8.ofNat (240 + c.toNat / 262144), UInt8.ofNat (128 + c.toNat / 4096 % 64), UInt8.ofNat (128 + c.toNat / 64 % 64), UInt8.ofNat (128 + c.toNat % 64)]⟩ := by
  unfold Utf8.encode
  simp only [h, if_true]
theorem encL_eq (c : Int) (h : Utf8.valid c = true) : encL c = if c.toNat < 128 then [UInt8.ofNat c.toNat] else if c.toNat < 2048 then [UInt8.ofNat (192 + c.toNat / 64), UInt8.ofNat (128 + c.toNat % 64)]
    else if c.toNat < 65536 then [UInt8.ofNat (224 + c.toNat / 4096), UInt8.ofNat (128 + c.toNat / 64 % 64), UInt8.ofNat (128 + c.toNat % 64)]
    else [UInt8.ofNat (240 + c.toNat / 262144), UInt8.ofNat (128 + c.toNat / 4096 % 64), UInt8.ofNat (128 + c.toNat / 64 % 64), UInt8.ofNat (128 + c.toNat % 64)] := by
  show (Utf8.encode c).data.toList = _
  rw [enc_eq c h]
  generalize c.toNat = n
  by_cases h1 : n < 128
  · simp only [h1, if_true]
  by_cases h2 : n < 2048
  · simp only [h1, h2, if_true, if_false]
  by_cases h3 : n < 65536
  · simp only [h1, h2, h3, if_true, if_false]
  · simp only [h1, h2, h3, if_false]
theorem enc_nat (n : Nat) (h : Lib.validRune (n : Int) = true) : encL (n : Int) =
    if n < 128 then [UInt8.ofNat n] else if n < 2048 then [UInt8.ofNat (192 + n / 64), UInt8.ofNat (128 + n % 64)]
    else if n < 65536 then [UInt8.ofNat (224 + n / 4096), UInt8.ofNat (128 + n / 64 % 64), UInt8.ofNat (128 + n % 64)]
    else [UInt8.ofNat (240 + n / 262144), UInt8.ofNat (128 + n / 4096 % 64), UInt8.ofNat (128 + n / 64 % 64), UInt8.ofNat (128 + n % 64)] := encL_eq (n : Int) (valid_nat n h)
theorem ofN (n : Nat) (h : n < 256) : (UInt8.ofNat n).toNat = n := by
  rw [UInt8.toNat_ofNat']
  exact Nat.mod_eq_of_lt h
theorem dec_enc (n : Nat) (h : Lib.validRune (n : Int) = true) : Lib.decodeGo (st (encL (n : Int))) = (n, (encL (n : Int)).length) := by
  have hv : n < 55296 ∨ (57343 < n ∧ n ≤ 1114111) := by
    unfold Lib.validRune at h
    simp at h
    omega
  rw [enc_nat n h]
  by_cases h1 : n < 128
  · rw [if_pos h1]
    show (if (1 : Nat) = 0 then _ else Utf8.decode (st [UInt8.ofNat n]) 0) = _
    rw [if_neg (by decide), Lib.decode_at]
    show Lib.decodeN 1 (UInt8.ofNat n).toNat 0 0 0 = (n, 1)
    rw [ofN n (by omega)]
    unfold Lib.decodeN
    rw [if_pos h1]
  rw [if_neg h1]
  by_cases h2 : n < 2048
  · rw [if_pos h2]
    show (if (2 : Nat) = 0 then _ else Utf8.decode (st [UInt8.ofNat (192 + n / 64), UInt8.ofNat (128 + n % 64)]) 0) = _
    rw [if_neg (by decide), Lib.decode_at]
    show Lib.decodeN 2 (UInt8.ofNat (192 + n / 64)).toNat (UInt8.ofNat (128 + n % 64)).toNat 0 0 = (n, 2)
    rw [ofN _ (by omega), ofN _ (by omega)]
    unfold Lib.decodeN
    have e : (192 + n / 64) % 32 * 64 + (128 + n % 64) % 64 = n := by omega
    rw [if_neg (by omega), if_pos ⟨by omega, by omega, by omega⟩, e, if_pos (by omega)]
  rw [if_neg h2]
  by_cases h3 : n < 65536
  · rw [if_pos h3]
    show (if (3 : Nat) = 0 then _ else Utf8.decode (st [UInt8.ofNat (224 + n / 4096), UInt8.ofNat (128 + n / 64 % 64), UInt8.ofNat (128 + n % 64)]) 0) = _
    rw [if_neg (by decide), Lib.decode_at]
    show Lib.decodeN 3 (UInt8.ofNat (224 + n / 4096)).toNat (UInt8.ofNat (128 + n / 64 % 64)).toNat (UInt8.ofNat (128 + n % 64)).toNat 0 = (n, 3)
    rw [ofN _ (by omega), ofN _ (by omega), ofN _ (by omega)]
    unfold Lib.decodeN
    have e : (224 + n / 4096) % 16 * 4096 + (128 + n / 64 % 64) % 64 * 64 + (128 + n % 64) % 64 = n := by omega
    rw [if_neg (by omega), if_neg (by omega), if_pos ⟨by omega, ⟨by omega, by omega⟩, by omega, by omega⟩, e, if_pos (by omega)]
  · rw [if_neg h3]
    show (if (4 : Nat) = 0 then _ else Utf8.decode (st [UInt8.ofNat (240 + n / 262144), UInt8.ofNat (128 + n / 4096 % 64), UInt8.ofNat (128 + n / 64 % 64), UInt8.ofNat (128 + n % 64)]) 0) = _
    rw [if_neg (by decide), Lib.decode_at]
    show Lib.decodeN 4 (UInt8.ofNat (240 + n / 262144)).toNat (UInt8.ofNat (128 + n / 4096 % 64)).toNat (UInt8.ofNat (128 + n / 64 % 64)).toNat (UInt8.ofNat (128 + n % 64)).toNat = (n, 4)
    rw [ofN _ (by omega), ofN _ (by omega), ofN _ (by omega), ofN _ (by omega)]
    unfold Lib.decodeN
    have e : (240 + n / 262144) % 8 * 262144 + (128 + n / 4096 % 64) % 64 * 4096 + (128 + n / 64 % 64) % 64 * 64 + (128 + n % 64) % 64 = n := by omega
    rw [if_neg (by omega), if_neg (by omega), if_neg (by omega), if_pos ⟨by omega, ⟨by omega, by omega⟩, ⟨by omega, by omega⟩, by omega, by omega⟩, e, if_pos (by omega)]
theorem enc_len (n : Nat) (h : Lib.validRune (n : Int) = true) : (encL (n : Int)).length = if n < 128 then 1 else if n < 2048 then 2 else if n < 65536 then 3 else 4 := by
  rw [enc_nat n h]
  split
  · rfl
  split
  · rfl
  split <;> rfl
/-- The names that are words. -/
def wordsL : List (List UInt8) := [nameC 9, nameC 13, nameC 32, nameC 127] ++ specialsL
set_option maxRecDepth 100000 in
theorem words_no : (wordsL.all fun s => decide ((Lib.decodeGo (st s)).2 ≠ s.length)) = true := by kernel_rfl
set_option maxRecDepth 100000 in
theorem code_special : ((List.range 31).all fun k => decide (codeL (specialsL.getD k []) = 1114112 + (k : Int))) = true := by kernel_rfl
set_option maxRecDepth 100000 in
theorem code_c4 : codeL (nameC 9) = 9 ∧ codeL (nameC 13) = 13 ∧ codeL (nameC 32) = 32 ∧ codeL (nameC 127) = 127 := by
  refine ⟨?_, ?_, ?_, ?_⟩ <;> kernel_rfl
theorem enc_word (n : Nat) (h : Lib.validRune (n : Int) = true) : encL (n : Int) ∉ wordsL := fun hm => by
  have h1 := List.all_eq_true.1 words_no _ hm
  rw [decide_eq_true_eq, dec_enc n h] at h1
  dsimp only at h1
  exact h1 (Eq.refl _)
theorem code_name (c : Int) (h : nameC c ≠ []) : codeL (nameC c) = c := by
  obtain ⟨q1, q2, q3, q4⟩ := code_c4
  by_cases h1 : c = 9
  · rw [h1]; exact q1
  by_cases h2 : c = 13
  · rw [h2]; exact q2
  by_cases h3 : c = 32
  · rw [h3]; exact q3
  by_cases h4 : c = 127
  · rw [h4]; exact q4
  have hN : nameC c = if 1114112 ≤ c ∧ c < 1114143 then specialsL.getD (c - 1114112).toNat [] else if 32 < c ∧ c ≤ 1114111 ∧ Lib.validRune c = true ∧ 0 < widthR c then (Utf8.encode c).data.toList else [] := by
    rw [nameC, if_neg h1, if_neg h2, if_neg h3, if_neg h4]
  by_cases h5 : 1114112 ≤ c ∧ c < 1114143
  · rw [hN, if_pos h5]
    have h6 := List.all_eq_true.1 code_special (c - 1114112).toNat (List.mem_range.2 (by omega))
    rw [decide_eq_true_eq] at h6
    rw [h6]; omega
  rw [if_neg h5] at hN
  by_cases h6 : 32 < c ∧ c ≤ 1114111 ∧ Lib.validRune c = true ∧ 0 < widthR c
  rotate_left
  · rw [if_neg h6] at hN; exact absurd hN h
  have hE : nameC c = encL c := by rw [hN, if_pos h6]; rfl
  obtain ⟨n, rfl⟩ : ∃ n : Nat, c = n := ⟨c.toNat, by omega⟩
  have hw := enc_word n h6.2.2.1
  have hd := dec_enc n h6.2.2.1
  have hl := enc_len n h6.2.2.1
  have hl0 : 1 ≤ (encL (n : Int)).length := by
    rw [hl]
    split
    · omega
    split
    · omega
    split <;> omega
  rw [hE]
  unfold codeL
  unfold wordsL at hw
  simp only [List.mem_append, List.mem_cons, List.not_mem_nil, or_false, not_or] at hw
  obtain ⟨⟨w1, w2, w3, w4⟩, w5⟩ := hw
  rw [if_neg w1, if_neg w2, if_neg w3, if_neg w4, if_neg w5, hd, if_neg]
  rintro (e | e | ⟨e, e2⟩ | e)
  · dsimp only at e; omega
  · dsimp only at e
    exact e (Eq.refl _)
  · have e : n = 65533 := e
    subst e
    rw [hl] at e2
    exact absurd e2 (by decide)
  · exact e hE
end Go.Proofs.YtncokbppijnfiaaGreatDoor
