/- Layout: Sum, four. -/
import Derived.Test.YtcklmkjlbpjojaaDoorC2
namespace Go.Proofs.YtcklmkjlbpjojaaDoor
open Go.RowKit
set_option linter.unusedSimpArgs false
set_option linter.unusedVariables false

/-- A round of the sum. -/
def sumS (n : Nat) (b : UInt8) : Nat := (n / 2 + n % 2 * 32768 + b.toNat) % 65536
def sumB (l : List UInt8) : Nat := l.foldl sumS 0
theorem sumS_lt (n : Nat) (b : UInt8) : sumS n b < 65536 := by unfold sumS; omega
theorem foldl_sumS_lt (l : List UInt8) : ∀ n, n < 65536 → l.foldl sumS n < 65536 := by
  induction l with
  | nil => intro n h; exact h
  | cons b l ih => intro n _; exact ih _ (sumS_lt n b)
theorem sumB_lt (l : List UInt8) : sumB l < 65536 := foldl_sumS_lt l 0 (by omega)
theorem sumB_take {l : List UInt8} {j : Nat} {b : UInt8} (h : l[j]? = some b) : sumB (l.take (j + 1)) = sumS (sumB (l.take j)) b := by
  rw [take_succ' h]; unfold sumB; rw [List.foldl_append]; rfl

theorem u16_wrap (z : Int) : IntKind.u16.wrap z = z % 65536 := by simp [IntKind.wrap]; rfl
theorem or16 (n : Nat) (hn : n < 65536) : bits .or .u16 ((n : Int) / 2) (IntKind.u16.wrap ((n : Int) * 32768)) = ((n / 2 + n % 2 * 32768 : Nat) : Int) := by
  rw [u16_wrap]
  have e1 : (n : Int) / 2 = ((n / 2 : Nat) : Int) := by omega
  have e2 : (n : Int) * 32768 % 65536 = ((n % 2 * 32768 : Nat) : Int) := by omega
  rw [e1, e2]
  show IntKind.u16.wrap ((BitVec.ofInt 16 ((n / 2 : Nat) : Int) ||| BitVec.ofInt 16 ((n % 2 * 32768 : Nat) : Int)).toNat : Int) = _
  rw [BitVec.toNat_or, BitVec.ofInt_natCast, BitVec.ofInt_natCast, BitVec.toNat_ofNat, BitVec.toNat_ofNat, Nat.mod_eq_of_lt (by omega), Nat.mod_eq_of_lt (by omega), u16_wrap]
  have e3 : n / 2 ||| n % 2 * 32768 = n / 2 + n % 2 * 32768 := by
    have := Nat.two_pow_add_eq_or_of_lt (i := 15) (b := n / 2) (by omega) (n % 2)
    rw [Nat.or_comm, Nat.mul_comm, ← this]; omega
  rw [e3]; omega

set_option maxHeartbeats 1000000 in
set_option maxRecDepth 100000 in
theorem sum_any (l : List UInt8) (w : World) (hl : l.length ≤ 9223372036854775807) : Calls Tryd.prog 23 #[.string (st l)] w fun e w' => e = .returned (.int .i64 (sumB l)) ∧ w = w' := by
  obtain ⟨s, hs⟩ : ∃ s, s = st l := ⟨_, rfl⟩
  obtain ⟨len, hln⟩ : ∃ len, len = l.length := ⟨_, rfl⟩
  have hsz : s.size = len := by rw [hs, st_size, hln]
  have hl2 : len ≤ 9223372036854775807 := by omega
  rw [← hs]
  replace hs := Lib.hid hs; replace hln := Lib.hid hln; replace hl := Lib.hid hl
  go_enter Tryd.func23, Tryd.ntmps23
  go_wp2_with fail
  go_loopw [3, 7] (fun sv iv wr => ∃ j : Nat, j ≤ len ∧ iv = .int .i64 j ∧ sv = .int .u16 (sumB (l.take j)) ∧ wr = w) (fun _ iv _ => len - (intOf iv).toNat)
  case atStart => exact ⟨0, Nat.zero_le _, rfl, rfl, rfl⟩
  case round =>
    obtain ⟨j, hj, rfl, rfl, rfl⟩ := hrel
    by_cases hlt : j < len
    · obtain ⟨b, hb⟩ : ∃ b, l[j]? = some b := ⟨l[j]'(by rw [← hln.out]; exact hlt), List.getElem?_eq_getElem _⟩
      have hsb : s.data[j]? = some b := by rw [hs.out]; simpa [st] using hb
      have hn := sumB_lt (l.take j)
      have hstep := sumB_take hb
      generalize sumB (l.take j) = n at *
      replace hb := Lib.hid hb; replace hstep := Lib.hid hstep
      go_wp2_with fail
      refine ⟨⟨j + 1, by omega, by go_num, ?_, trivial⟩, by simp [intOf]; omega⟩
      rw [hstep.out, or16 n hn]
      have e : s[j] = b := by
        have := hsb
        rw [Array.getElem?_eq_getElem (by show j < s.size; omega)] at this
        injection this
      rw [e, u16_wrap, u16_wrap]
      have := b.toNat_lt
      unfold sumS
      congr 1
      omega
    · have : j = len := by omega
      subst this
      have he : l.take j = l := List.take_of_length_le (by rw [hln.out]; exact Nat.le_refl _)
      have hn := sumB_lt l
      rw [he]
      replace he := Lib.hid he
      go_wp2_with fail
      go_ret
      exact ⟨ret_int (by first | rfl | (rw [IntKind.wrap_i64]; omega) | omega), rfl⟩
end Go.Proofs.YtcklmkjlbpjojaaDoor
