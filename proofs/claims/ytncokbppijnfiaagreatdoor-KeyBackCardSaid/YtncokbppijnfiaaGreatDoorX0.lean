/- Key: a bit that was set is set. -/
import Derived.Test.YtncokbppijnfiaaGreatDoorP4
namespace Go.Proofs.YtncokbppijnfiaaGreatDoor
open Go.RowKit
set_option linter.unusedSimpArgs false
set_option linter.unusedVariables false

theorem ofInt_wrap (b : BitVec 64) : BitVec.ofInt 64 (IntKind.i64.wrap (b.toNat : Int)) = b := by
  have h := b.isLt
  apply BitVec.eq_of_toNat_eq
  rw [BitVec.toNat_ofInt]
  show ((if (true && decide ((b.toNat : Int) % 18446744073709551616 ≥ 9223372036854775808)) = true then (b.toNat : Int) % 18446744073709551616 - 18446744073709551616 else (b.toNat : Int) % 18446744073709551616) % (18446744073709551616 : Int)).toNat = b.toNat
  by_cases h2 : (b.toNat : Int) % 18446744073709551616 ≥ 9223372036854775808
  · rw [if_pos (by rw [Bool.true_and]; exact decide_eq_true h2)]; omega
  · rw [if_neg (by rw [Bool.true_and, decide_eq_false h2]; decide)]; omega
theorem or64 (x : Int) : bits .and .i64 (bits .or .i64 x 64) 64 = 64 := by
  show IntKind.i64.wrap (((BitVec.ofInt 64 (IntKind.i64.wrap ((BitVec.ofInt 64 x ||| BitVec.ofInt 64 64).toNat : Int)) &&& BitVec.ofInt 64 64).toNat : Nat) : Int) = 64
  rw [ofInt_wrap]
  have : (BitVec.ofInt 64 x ||| BitVec.ofInt 64 64) &&& BitVec.ofInt 64 64 = BitVec.ofInt 64 64 := by
    ext i hi
    simp only [BitVec.getElem_and, BitVec.getElem_or]
    cases (BitVec.ofInt 64 x)[i] <;> cases (BitVec.ofInt 64 64)[i] <;> rfl
  rw [this]
  decide
def lenT (c m : Int) (a : Bool) : Bool := decide ((bytesB c m a false).length ≤ 40)
set_option maxRecDepth 100000 in
theorem lens_special : ((List.range 31).all fun i => (List.range 8).all fun j => lenT (1114112 + (i : Int)) (j : Int) true && lenT (1114112 + (i : Int)) (j : Int) false) = true := by kernel_rfl
theorem bytes_len (c m modes : Int) (h : rightK c m = true) (h64 : bits .and .i64 modes 64 ≠ 0) : (bytesL c m modes).length ≤ 40 := by
  obtain ⟨hn, h0, h7⟩ := right_m h
  rw [bytes_B, decide_eq_false h64]
  by_cases h1 : 1114112 ≤ c
  · have h31 : c < 1114143 := by
      have : ¬ 1114143 ≤ c := fun hc => hn (by
        unfold nameC
        rw [if_neg (by omega), if_neg (by omega), if_neg (by omega), if_neg (by omega), if_neg (by omega), if_neg (by omega)])
      omega
    have a1 := List.all_eq_true.1 lens_special (c - 1114112).toNat (List.mem_range.2 (by omega))
    have a2 := List.all_eq_true.1 a1 m.toNat (List.mem_range.2 (by omega))
    rw [show 1114112 + ((c - 1114112).toNat : Int) = c by omega, Int.toNat_of_nonneg h0, Bool.and_eq_true] at a2
    cases decide (bits .and .i64 modes 16 ≠ 0)
    · exact of_decide_eq_true a2.2
    · exact of_decide_eq_true a2.1
  · have hm : (metaL m).length ≤ 1 := by unfold metaL; split <;> simp
    have he : (encL c).length ≤ 4 := encode_le4 c
    unfold bytesB
    split
    · simp
    rw [if_pos (by omega)]
    split
    · rw [List.length_append]; simp; omega
    · rw [List.length_append]; omega
end Go.Proofs.YtncokbppijnfiaaGreatDoor
