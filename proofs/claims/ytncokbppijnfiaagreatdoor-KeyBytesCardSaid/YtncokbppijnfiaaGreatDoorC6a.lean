/- Key: a mouse's number's bits. -/
import Derived.Test.YtncokbppijnfiaaGreatDoorC2
namespace Go.Proofs.YtncokbppijnfiaaGreatDoor
open Go.RowKit
set_option linter.unusedSimpArgs false
set_option linter.unusedVariables false
theorem and7 (u : Nat) (hu : u < 65536) : bits .and .i64 (u : Int) 7 = ((u % 8 : Nat) : Int) := by
  show IntKind.i64.wrap ((BitVec.ofInt 64 (u : Int) &&& BitVec.ofInt 64 ((7 : Nat) : Int)).toNat : Int) = _
  rw [BitVec.toNat_and, BitVec.ofInt_natCast, BitVec.ofInt_natCast, BitVec.toNat_ofNat, BitVec.toNat_ofNat, Nat.mod_eq_of_lt (by omega), Nat.mod_eq_of_lt (by omega)]
  have e : u &&& 7 = u % 8 := Nat.and_two_pow_sub_one_eq_mod u 3
  rw [e, IntKind.wrap_i64]
  omega
set_option maxRecDepth 100000 in
theorem andNot28_all : ((List.range 10000).all fun n => bits .andNot .i64 (n : Int) 28 == ((n / 32 * 32 + n % 4 : Nat) : Int)) = true := by kernel_rfl
theorem andNot28 (n : Nat) (hn : n < 10000) : bits .andNot .i64 (n : Int) 28 = ((n / 32 * 32 + n % 4 : Nat) : Int) := by
  have := List.all_eq_true.1 andNot28_all n (List.mem_range.2 hn)
  simpa using this
end Go.Proofs.YtncokbppijnfiaaGreatDoor
