/- Layout: what the example is written as. -/
import Derived.Test.YtcklmkjlbpjojaaDoorH4
namespace Go.Proofs.YtcklmkjlbpjojaaDoor
open Go.RowKit
set_option linter.unusedSimpArgs false
set_option linter.unusedVariables false

theorem dd1 {u : Nat} (h : u < 10) : Lib.decDigits u = [UInt8.ofNat (48 + u)] := by rw [Lib.decDigits, dif_pos h]
theorem dd2 {u : Nat} (h : ¬ u < 10) (h2 : u / 10 < 10) : Lib.decDigits u = [UInt8.ofNat (48 + u / 10), UInt8.ofNat (48 + u % 10)] := by rw [Lib.decDigits, dif_neg h, dd1 h2]; rfl
theorem it0 : Lib.itoa 0 = [48] := by unfold Lib.itoa; rw [if_neg (by decide)]; exact dd1 (by decide)
theorem it1 : Lib.itoa 1 = [49] := by unfold Lib.itoa; rw [if_neg (by decide)]; exact dd1 (by decide)
theorem it2 : Lib.itoa 2 = [50] := by unfold Lib.itoa; rw [if_neg (by decide)]; exact dd1 (by decide)
theorem it3 : Lib.itoa 3 = [51] := by unfold Lib.itoa; rw [if_neg (by decide)]; exact dd1 (by decide)
theorem it5 : Lib.itoa 5 = [53] := by unfold Lib.itoa; rw [if_neg (by decide)]; exact dd1 (by decide)
theorem it18 : Lib.itoa 18 = [49, 56] := by unfold Lib.itoa; rw [if_neg (by decide)]; exact dd2 (by decide) (by decide)
theorem it19 : Lib.itoa 19 = [49, 57] := by unfold Lib.itoa; rw [if_neg (by decide)]; exact dd2 (by decide) (by decide)
theorem it24 : Lib.itoa 24 = [50, 52] := by unfold Lib.itoa; rw [if_neg (by decide)]; exact dd2 (by decide) (by decide)
theorem it39 : Lib.itoa 39 = [51, 57] := by unfold Lib.itoa; rw [if_neg (by decide)]; exact dd2 (by decide) (by decide)
theorem it40 : Lib.itoa 40 = [52, 48] := by unfold Lib.itoa; rw [if_neg (by decide)]; exact dd2 (by decide) (by decide)
theorem it41 : Lib.itoa 41 = [52, 49] := by unfold Lib.itoa; rw [if_neg (by decide)]; exact dd2 (by decide) (by decide)
theorem it80 : Lib.itoa 80 = [56, 48] := by unfold Lib.itoa; rw [if_neg (by decide)]; exact dd2 (by decide) (by decide)
def shownBody : List UInt8 := [56, 48, 120, 50, 52, 44, 48, 44, 48, 123, 52, 48, 120, 50, 52, 44, 48, 44, 48, 44, 49, 44, 51, 57, 120, 50, 52, 44, 52, 49, 44, 48, 91, 51, 57, 120, 49, 56, 44, 52, 49, 44, 48, 44, 50, 44, 51, 57, 120, 53, 44, 52, 49, 44, 49, 57, 44, 51, 93, 125]
def shownText : List UInt8 := [98, 97, 98, 99, 44, 56, 48, 120, 50, 52, 44, 48, 44, 48, 123, 52, 48, 120, 50, 52, 44, 48, 44, 48, 44, 49, 44, 51, 57, 120, 50, 52, 44, 52, 49, 44, 48, 91, 51, 57, 120, 49, 56, 44, 52, 49, 44, 48, 44, 50, 44, 51, 57, 120, 53, 44, 52, 49, 44, 49, 57, 44, 51, 93, 125]
theorem body_tr2 (F L S A B : Bk) : (tr2 F L S A B).body = shownBody := by
  unfold tr2
  simp only [T.body_mk, bodyL_cons, bodyL_nil, headB, mkN, it0, it1, it2, it3, it5, it18, it19, it24, it39, it40, it41, it80]
  rfl
theorem four_tr2 : fourB (sumB shownBody) = [98, 97, 98, 99] := by decide +kernel
theorem print_tr2 (F L S A B : Bk) : (tr2 F L S A B).print = shownText := by
  unfold T.print
  rw [body_tr2, four_tr2]
  rfl
theorem sum_ab : sumB [97, 98] = 32914 := by decide +kernel
end Go.Proofs.YtcklmkjlbpjojaaDoor
