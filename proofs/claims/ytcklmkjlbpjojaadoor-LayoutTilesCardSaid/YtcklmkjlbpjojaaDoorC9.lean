/- Layout: Sum, four. Layout: FormatInt at base 16, four. Layout: Print, Boxes. -/
import Derived.Test.YtcklmkjlbpjojaaDoorC4
import Derived.Test.YtcklmkjlbpjojaaDoorC6
import Derived.BigRegion
import Derived.Deep.QuietTactic
import Derived.BigQuiet
import Derived.Deep.RegionLaw
namespace Go.Proofs.YtcklmkjlbpjojaaDoor
open Go.RowKit
set_option linter.unusedSimpArgs false
set_option linter.unusedVariables false

/-- A round of the sum. -/
def sumS (n : Nat) (b : UInt8) : Nat := (n / 2 + n % 2 * 32768 + b.toNat) % 65536
def sumB (l : List UInt8) : Nat := l.foldl sumS 0
theorem sumS_lt (n : Nat) (b : UInt8) : sumS n b < 65536 := by unfold sumS; omega
theorem foldl_sumS_lt (l : List UInt8) : ∀ n, n < 65536 → l.foldl sumS n < 65536 := by
  induction l with
  | nil => intro n h; exact h
  | cons b l ih => intro n _; exact ih _ (sumS_lt n b)
theorem sumB_lt (l : List UInt8) : sumB l < 65536 := foldl_sumS_lt l 0 (by omega)
theorem sumB_take {l : List UInt8} {j : Nat} {b : UInt8} (h : l[j]? = some b) : sumB (l.take (j + 1)) = sumS (sumB (l.take j)) b := by
  rw [take_succ' h]; unfold sumB; rw [List.foldl_append]; rfl

theorem u16_wrap (z : Int) : IntKind.u16.wrap z = z % 65536 := by simp [IntKind.wrap]; rfl
theorem or16 (n : Nat) (hn : n < 65536) : bits .or .u16 ((n : Int) / 2) (IntKind.u16.wrap ((n : Int) * 32768)) = ((n / 2 + n % 2 * 32768 : Nat) : Int) := by
  rw [u16_wrap]
  have e1 : (n : Int) / 2 = ((n / 2 : Nat) : Int) := by omega
  have e2 : (n : Int) * 32768 % 65536 = ((n % 2 * 32768 : Nat) : Int) := by omega
  rw [e1, e2]
  show IntKind.u16.wrap ((BitVec.ofInt 16 ((n / 2 : Nat) : Int) ||| BitVec.ofInt 16 ((n % 2 * 32768 : Nat) : Int)).toNat : Int) = _
  rw [BitVec.toNat_or, BitVec.ofInt_natCast, BitVec.ofInt_natCast, BitVec.toNat_ofNat, BitVec.toNat_ofNat, Nat.mod_eq_of_lt (by omega), Nat.mod_eq_of_lt (by omega), u16_wrap]
  have e3 : n / 2 ||| n % 2 * 32768 = n / 2 + n % 2 * 32768 := by
    have := Nat.two_pow_add_eq_or_of_lt (i := 15) (b := n / 2) (by omega) (n % 2)
    rw [Nat.or_comm, Nat.mul_comm, ← this]; omega
  rw [e3]; omega

set_option maxHeartbeats 1000000 in
set_option maxRecDepth 100000 in
theorem sum_any (l : List UInt8) (w : World) (hl : l.length ≤ 9223372036854775807) : Calls Tryd.prog 23 #[.string (st l)] w fun e w' => e = .returned (.int .i64 (sumB l)) ∧ w = w' := by
  obtain ⟨s, hs⟩ : ∃ s, s = st l := ⟨_, rfl⟩
  obtain ⟨len, hln⟩ : ∃ len, len = l.length := ⟨_, rfl⟩
  have hsz : s.size = len := by rw [hs, st_size, hln]
  have hl2 : len ≤ 9223372036854775807 := by omega
  rw [← hs]
  replace hs := Lib.hid hs; replace hln := Lib.hid hln; replace hl := Lib.hid hl
  go_enter Tryd.func23, Tryd.ntmps23
  go_wp2_with fail
  go_loopw [3, 7] (fun sv iv wr => ∃ j : Nat, j ≤ len ∧ iv = .int .i64 j ∧ sv = .int .u16 (sumB (l.take j)) ∧ wr = w) (fun _ iv _ => len - (intOf iv).toNat)
  case atStart => exact ⟨0, Nat.zero_le _, rfl, rfl, rfl⟩
  case round =>
    obtain ⟨j, hj, rfl, rfl, rfl⟩ := hrel
    by_cases hlt : j < len
    · obtain ⟨b, hb⟩ : ∃ b, l[j]? = some b := ⟨l[j]'(by rw [← hln.out]; exact hlt), List.getElem?_eq_getElem _⟩
      have hsb : s.data[j]? = some b := by rw [hs.out]; simpa [st] using hb
      have hn := sumB_lt (l.take j)
      have hstep := sumB_take hb
      generalize sumB (l.take j) = n at *
      replace hb := Lib.hid hb; replace hstep := Lib.hid hstep
      go_wp2_with fail
      refine ⟨⟨j + 1, by omega, by go_num, ?_, trivial⟩, by simp [intOf]; omega⟩
      rw [hstep.out, or16 n hn]
      have e : s[j] = b := by
        have := hsb
        rw [Array.getElem?_eq_getElem (by show j < s.size; omega)] at this
        injection this
      rw [e, u16_wrap, u16_wrap]
      have := b.toNat_lt
      unfold sumS
      congr 1
      omega
    · have : j = len := by omega
      subst this
      have he : l.take j = l := List.take_of_length_le (by rw [hln.out]; exact Nat.le_refl _)
      have hn := sumB_lt l
      rw [he]
      replace he := Lib.hid he
      go_wp2_with fail
      go_ret
      exact ⟨ret_int (by first | rfl | (rw [IntKind.wrap_i64]; omega) | omega), rfl⟩
end Go.Proofs.YtcklmkjlbpjojaaDoor
namespace Go.Proofs.YtcklmkjlbpjojaaDoor
open Go.RowKit
set_option linter.unusedSimpArgs false
set_option linter.unusedVariables false

/-- The word of the library's table that is read at 16. -/
abbrev Deb (w : World) : Prop := w.cell? ⟨5, 15, none⟩ = some (.int .u8 4)
theorem tz64_any (w : World) (h : Deb w) : Calls Tryd.prog 106 #[.int .u64 16] w fun e w' => e = .returned (.int .i64 4) ∧ w = w' := by
  unfold Deb at h
  have e : IntKind.u64.wrap (bits BinOp.and IntKind.u64 16 (IntKind.u64.wrap (-16)) * 285870213051353865) / 288230376151711744 = 15 := by decide
  go_enter Tryd.func106, Tryd.ntmps106
  go_wp2_with fail
  all_goals (go_ret; exact ⟨rfl, rfl⟩)
theorem tz_any (w : World) (h : Deb w) : Calls Tryd.prog 101 #[.int .u64 16] w fun e w' => e = .returned (.int .i64 4) ∧ w = w' := by
  have C := Lib.hid (tz64_any w h)
  go_enter Tryd.func101, Tryd.ntmps101
  go_wp2_with fail
  refine C.out.mono ?_
  rintro e w' ⟨rfl, rfl⟩
  go_wp2_with fail
  all_goals (go_ret; exact ⟨rfl, rfl⟩)
theorem pow2_any (w : World) : Calls Tryd.prog 100 #[.int .i64 16] w fun e w' => e = .returned (.bool true) ∧ w = w' := by
  go_enter Tryd.func100, Tryd.ntmps100
  go_wp2_with fail
  all_goals (go_ret; exact ⟨rfl, rfl⟩)

theorem info5 : (Tryd.prog.info? 5).map (fun i => (i.zero, i.size, i.bytes)) = some (some (.int .u8 0), 1, 1) := by kernel_rfl
def hexd (k : Nat) : UInt8 := if k < 10 then UInt8.ofNat (48 + k) else UInt8.ofNat (87 + k)
/-- The lowest k digits of n, in the base 16. -/
def hexs (n : Nat) : Nat → List UInt8
  | 0 => []
  | k + 1 => hexd (n / 16 ^ k % 16) :: hexs n k
def hexlen (n : Nat) : Nat := if n < 16 then 1 else if n < 256 then 2 else if n < 4096 then 3 else 4
def hex (n : Nat) : List UInt8 := hexs n (hexlen n)

theorem st_app0 (a b : List UInt8) : st a ++ st b = st (a ++ b) := by
  apply ByteArray.ext
  show (st a ++ st b).data = _
  simp [st]
theorem and15 (u : Nat) (hu : u < 65536) : bits .and .u64 (u : Int) 15 = ((u % 16 : Nat) : Int) := by
  show IntKind.u64.wrap ((BitVec.ofInt 64 (u : Int) &&& BitVec.ofInt 64 ((15 : Nat) : Int)).toNat : Int) = _
  rw [BitVec.toNat_and, BitVec.ofInt_natCast, BitVec.ofInt_natCast, BitVec.toNat_ofNat, BitVec.toNat_ofNat, Nat.mod_eq_of_lt (by omega), Nat.mod_eq_of_lt (by omega)]
  have e : u &&& 15 = u % 16 := Nat.and_two_pow_sub_one_eq_mod u 4
  rw [e]
  exact IntWalk.u64_in _ (by omega)
/-- The digits' row, k of them laid. -/
def HB (w : World) (n k : Nat) (wr : World) : Prop := wr.heap[w.heap.size]? = some (.cells (List.replicate (65 - k) (Value.int .u8 0) ++ bs (hexs n k)).toArray 138 (0, 0)) ∧ w.grownBy wr none
theorem HB.set {w wr : World} {n k : Nat} (h : HB w n k wr) (hk : k < 65) (v : Value) (hv : v = b8 (hexd (n / 16 ^ k % 16))) : HB w n (k + 1) (wr.setCell ⟨w.heap.size, 64 - k, none⟩ v) := by
  obtain ⟨h1, h2⟩ := h
  refine ⟨?_, h2.os, h2.tape, h2.output, by simpa [World.setCell] using h2.size, fun j hj hn => ?_⟩
  · subst hv
    have e : (World.setCell wr ⟨w.heap.size, 64 - k, none⟩ (b8 (hexd (n / 16 ^ k % 16)))).heap[w.heap.size]? = some (.cells ((List.replicate (65 - k) (Value.int .u8 0) ++ bs (hexs n k)).toArray.setIfInBounds (64 - k) (b8 (hexd (n / 16 ^ k % 16)))) 138 (0, 0)) := by
      simp [World.setCell, Array.getElem?_modify, h1]
    rw [e]
    congr 2
    have e2 : 65 - k = (64 - k) + 1 := by omega
    rw [List.setIfInBounds_toArray, e2, List.replicate_succ', List.append_assoc, List.set_append_right _ _ (by simp)]
    simp only [List.length_replicate, Nat.sub_self, List.cons_append, List.nil_append, List.set_cons_zero, hexs, bs, List.map_cons]
    rw [show 65 - (k + 1) = 64 - k by omega]
  · rw [Below.heap_setCell _ _ _ _ (by show j ≠ w.heap.size; omega)]
    exact h2.block j hj hn
theorem HB.cell {w wr : World} {n k : Nat} (h : HB w n k wr) (j : Nat) (hj : j < 65 - k) : wr.cell? ⟨w.heap.size, j, none⟩ = some (.int .u8 0) := by
  unfold World.cell?
  rw [h.1]
  simp [List.getElem?_append_left, hj, List.getElem?_replicate]
theorem HB.free {w wr : World} {n k : Nat} (h : HB w n k wr) (j : Nat) : wr.frozen? ⟨w.heap.size, j, none⟩ = false := by
  unfold World.frozen?
  rw [h.1]; simp
theorem hexs_len (n : Nat) : ∀ k, (hexs n k).length = k
  | 0 => rfl
  | k + 1 => by rw [hexs, List.length_cons, hexs_len n k]
theorem HB.rd {w wr : World} {n k : Nat} (h : HB w n k wr) (hk : k ≤ 65) : Rd wr (some ⟨w.heap.size, 65 - k, none⟩) (bs (hexs n k)) := fun _ => ⟨_, _, rfl, lt_of_heap h.1, fun j u hj => by
  unfold World.cell?
  rw [h.1]
  have := (List.getElem?_eq_some_iff.1 hj).1
  rw [bs_len, hexs_len] at this
  simp only [Option.isSome_none, Bool.false_eq_true, if_false, List.getElem?_toArray]
  rw [List.getElem?_append_right (by simp), List.length_replicate]
  rw [show 65 - k + j - (65 - k) = j by omega]; exact hj⟩

set_option maxHeartbeats 1000000 in
set_option maxRecDepth 100000 in
theorem bits_any (n : Nat) (w : World) (h : Deb w) (hn : n < 65536) :
    Calls Tryd.prog 90 #[.slice none 0 0, .int .u64 n, .int .i64 16, .bool false, .bool false] w fun e w' => e = .returned (.tuple #[.slice none 0 0, .string (st (hex n))]) ∧ w.grownBy w' none := by
  have C1 := Lib.hid (fun (W : World) (hg : w.grownBy W none) => tz_any W (by unfold Deb at *; exact hg.cell h (by simp)))
  have C2 := Lib.hid (pow2_any)
  have g0 := World.grownBy_alloc w (.cells Tryd.zeroCells138 138) none
  go_enter Tryd.func90, Tryd.ntmps90
  go_wp2_with fail
  refine (C2.out _).mono ?_
  rintro e w' ⟨rfl, rfl⟩
  go_wp2_with fail
  refine (C1.out _ g0).mono ?_
  rintro e w' ⟨rfl, rfl⟩
  go_wp2_with fail
  have hI0 : HB w n 0 (w.alloc (.cells Tryd.zeroCells138 138)) := by
    refine ⟨?_, g0⟩
    rw [heap_alloc_new]
    rfl
  have hdig : ∀ u, u < 16 → ∀ (hb : u < ByteArray.size ⟨#[48, 49, 50, 51, 52, 53, 54, 55, 56, 57, 97, 98, 99, 100, 101, 102, 103, 104, 105, 106, 107, 108, 109, 110, 111, 112, 113, 114, 115, 116, 117, 118, 119, 120, 121, 122]⟩), (ByteArray.mk #[48, 49, 50, 51, 52, 53, 54, 55, 56, 57, 97, 98, 99, 100, 101, 102, 103, 104, 105, 106, 107, 108, 109, 110, 111, 112, 113, 114, 115, 116, 117, 118, 119, 120, 121, 122])[u] = hexd u := by decide
  replace hI0 := Lib.hid hI0; replace hdig := Lib.hid hdig
  generalize w.alloc (.cells Tryd.zeroCells138 138) = w1 at *
  clear C1 C2
  go_loopw [1, 13] (fun uv iv wr => ∃ k : Nat, k < 4 ∧ uv = .int .u64 ((n / 16 ^ k : Nat) : Int) ∧ iv = .int .i64 ((65 - k : Nat) : Int) ∧ (k = 0 ∨ 16 ^ k ≤ n) ∧ Hid (HB w n k wr)) (fun uv _ _ => (intOf uv).toNat)
  case atStart => exact ⟨0, by omega, by simp, rfl, .inl rfl, hI0⟩
  case round =>
    obtain ⟨k, hk, rfl, rfl, hkn, hI⟩ := hrel
    have hu : n / 16 ^ k < 65536 := Nat.lt_of_le_of_lt (Nat.div_le_self _ _) hn
    have ha := and15 (n / 16 ^ k) hu
    have hdm : n / 16 ^ (k + 1) = n / 16 ^ k / 16 := by rw [Nat.pow_succ, Nat.div_div_eq_div_mul]
    have hst := fun v hv => hI.out.set (by omega) v hv
    have q1 := hI.out.cell (64 - k) (by omega)
    have q2 := hI.out.free (64 - k)
    obtain ⟨m, hm⟩ : ∃ m, m = 64 - k := ⟨_, rfl⟩
    have hm2 : 65 - k = m + 1 := by omega
    have hm3 : 61 ≤ m ∧ m < 65 := by omega
    have hlen2 : 16 ≤ n / 16 ^ k → k + 1 < 4 ∧ 16 ^ (k + 1) ≤ n := by
      have : k = 0 ∨ k = 1 ∨ k = 2 ∨ k = 3 := by omega
      rcases this with rfl | rfl | rfl | rfl <;> simp <;> omega
    have hlen3 : ¬ 16 ≤ n / 16 ^ k → k + 1 = hexlen n := by
      have : k = 0 ∨ k = 1 ∨ k = 2 ∨ k = 3 := by omega
      unfold hexlen
      rcases this with rfl | rfl | rfl | rfl <;> simp at hkn ⊢ <;> (repeat' split) <;> omega
    rw [← hm] at q1 q2 hst
    rw [hm2]
    have hR := fun v hv => (hst v hv).rd (by omega)
    rw [show 65 - (k + 1) = m by omega] at hR
    generalize hue : n / 16 ^ k = u at *
    replace hdm := Lib.hid hdm; replace hst := Lib.hid hst; replace hlen2 := Lib.hid hlen2; replace hlen3 := Lib.hid hlen3; replace hR := Lib.hid hR; replace hue := Lib.hid hue; replace hm := Lib.hid hm; replace hm2 := Lib.hid hm2; replace hkn := Lib.hid hkn
    by_cases h16 : 16 ≤ u
    · have hd := hdig.out (u % 16) (by omega)
      have hx : u % 16 < 36 := by omega
      go_wp2_with fail
      have h2 := hlen2.out h16
      refine ⟨⟨k + 1, h2.1, ?_, ?_, .inr h2.2, ?_⟩, ?_⟩
      · rw [hdm.out]; rfl
      · rw [show 65 - (k + 1) = m by have := hm.out; omega]
      · exact Lib.hid (hst.out _ rfl)
      · simp only [intOf]; omega
    · have hul : u < 16 := by omega
      have hmod : u % 16 = u := Nat.mod_eq_of_lt hul
      have hd := hdig.out u hul
      have hst2 := hst.out (.int .u8 ((hexd u).toNat : Int)) (by rw [hmod]; rfl)
      have hR2 := hR.out (.int .u8 ((hexd u).toNat : Int)) (by rw [hmod]; rfl)
      have hsl : ∀ W, Sem.run Tryd.prog (Instr.sliceAt 138 (.pointer (some ⟨w.heap.size, 0, none⟩)) (some (.int .i64 (m : Int))) none none) W = .ok (.slice (some ⟨w.heap.size, m, none⟩) (65 - m) (65 - m)) W := by
        intro W
        have hal : Tryd.prog.arrayLen 138 = 65 := by kernel_rfl
        rw [run_sliceAt_array_l (P := Tryd.prog) W 138 ⟨w.heap.size, 0, none⟩ (by kernel_rfl) .i64 (m : Int) (by omega) (by rw [hal]; omega)]
        have he : Tryd.prog.elem 138 = 5 := by kernel_rfl
        obtain ⟨i0, hi0, hz0, hz1, hz2⟩ := info_parts info5
        have e65 : ¬ (65 = m) := by omega
        rw [he, hal]
        simp [sizeOf, typeInfo, hi0, hz1, slicedAt, Addr.add_lit, e65]
      have hcv := conv_str (P := Tryd.prog) (wr.setCell ⟨w.heap.size, m, none⟩ (.int .u8 ((hexd u).toNat : Int))) 47 9 5 Tryd.underlying47 Tryd.underlying5 Tryd.underlying9 (some ⟨w.heap.size, m, none⟩) (65 - m) (65 - m) (hexs n (k + 1)) (by rw [hexs_len]; have := hm.out; omega) hR2
      have hres : st (hexs n (k + 1)) = st (hex n) := by unfold hex; rw [hlen3.out h16]
      rw [hres] at hcv
      replace hst2 := Lib.hid hst2; replace hR2 := Lib.hid hR2; replace hres := Lib.hid hres
      clear hmod
      go_wp2_with fail
      go_ret2
      exact ⟨rfl, hst2.out.2⟩

theorem fmt16i_any (n : Nat) (w : World) (h : Deb w) (hn : n < 65536) : Calls Tryd.prog 77 #[.int .i64 n, .int .i64 16] w fun e w' => e = .returned (.string (st (hex n))) ∧ w.grownBy w' none := by
  have C := Lib.hid (bits_any n w h hn)
  have hw : IntKind.u64.wrap (n : Int) = n := IntWalk.u64_in _ (by omega)
  have h0 : ¬ ((n : Int) < 0) := by omega
  have h1 : (0 : Int) ≤ n := by omega
  go_enter Tryd.func77, Tryd.ntmps77
  go_wp2_with fail
  refine C.out.mono ?_
  rintro e w' ⟨rfl, g⟩
  go_wp2_with fail
  go_ret
  exact ⟨rfl, g⟩
theorem fmt16_any (n : Nat) (w : World) (h : Deb w) (hn : n < 65536) : Calls Tryd.prog 56 #[.int .i64 n, .int .i64 16] w fun e w' => e = .returned (.string (st (hex n))) ∧ w.grownBy w' none := by
  have C := Lib.hid (fmt16i_any n w h hn)
  go_enter Tryd.func56, Tryd.ntmps56
  go_wp2_with fail
  refine C.out.mono ?_
  rintro e w' ⟨rfl, g⟩
  go_wp2_with fail
  go_ret
  exact ⟨rfl, g⟩
/-- A sum in four digits. -/
def fourB (n : Nat) : List UInt8 := ([48, 48, 48] ++ hex n).drop ((hex n).length - 1)
theorem hexlen_le (n : Nat) : 1 ≤ hexlen n ∧ hexlen n ≤ 4 := by unfold hexlen; constructor <;> (repeat' split) <;> omega
theorem hex_len (n : Nat) : (hex n).length = hexlen n := hexs_len n _
theorem four_any (n : Nat) (w : World) (h : Deb w) (hn : n < 65536) : Calls Tryd.prog 28 #[.int .i64 n] w fun e w' => e = .returned (.string (st (fourB n))) ∧ w.grownBy w' none := by
  have C := Lib.hid (fmt16_any n w h hn)
  obtain ⟨l0, l1⟩ := hexlen_le n
  have hl := hex_len n
  obtain ⟨s, hs⟩ : ∃ s, s = st (hex n) := ⟨_, rfl⟩
  have hadd : ∀ w, Sem.run Tryd.prog (Op.stringOp .add ⟨#[48, 48, 48]⟩ s) w = .ok (.string (st ([48, 48, 48] ++ hex n))) w := fun w => by
    rw [hs]
    have := run_string_add_sum (P := Tryd.prog) w (st [48, 48, 48]) (st (hex n)) (by rw [st_size, st_size]; simp; omega)
    rw [st_app0] at this
    exact this
  obtain ⟨t, ht⟩ : ∃ t, t = st ([48, 48, 48] ++ hex n) := ⟨_, rfl⟩
  have hsz : t.size = hexlen n + 3 := by rw [ht, st_size]; simp [hl]
  rw [← hs] at C
  rw [← ht] at hadd
  obtain ⟨m, hm⟩ : ∃ m, m = hexlen n - 1 := ⟨_, rfl⟩
  have hm2 : hexlen n + 3 = m + 4 := by omega
  rw [hm2] at hsz
  have hfin : t.extract m (m + 4) = st (fourB n) := by
    rw [ht]
    unfold fourB
    rw [hl, ← hm]
    apply ByteArray.ext
    simp [st, List.extract_eq_take_drop]
    rw [List.take_of_length_le (by simp [hl]; omega)]
  have hm3 : m < 4 := by omega
  replace hs := Lib.hid hs; replace ht := Lib.hid ht; replace hl := Lib.hid hl; replace hm := Lib.hid hm; replace hm2 := Lib.hid hm2
  go_enter Tryd.func28, Tryd.ntmps28
  go_wp2_with fail
  refine C.out.mono ?_
  rintro e w' ⟨rfl, g⟩
  go_wp2_with fail
  go_ret
  exact ⟨rfl, g⟩
end Go.Proofs.YtcklmkjlbpjojaaDoor
namespace Go.Proofs.YtcklmkjlbpjojaaDoor
open Go.RowKit
set_option linter.unusedSimpArgs false
set_option linter.unusedVariables false

def T.print (t : T) : List UInt8 := fourB (sumB t.body) ++ [44] ++ t.body
theorem fourB_len (n : Nat) : (fourB n).length ≤ 7 := by
  unfold fourB
  rw [List.length_drop, List.length_append, hex_len]
  have := hexlen_le n
  simp; omega
theorem Deb.grown {w w' : World} (h : Deb w) (hg : w.grownBy w' none) : Deb w' := hg.cell h (by simp)
set_option maxHeartbeats 1000000 in
theorem print_any (base tr : Nat) (t : T) (w : World) (hT : Tr base w tr t) (hR : t.rg) (hW : t.w01) (hTab : Tab w) (hD : Deb w) (hL : t.body.length ≤ 1000000) :
    Calls Tryd.prog 11 #[ptr tr] w fun e w' => e = .returned (.string (st t.print)) ∧ w.grownBy w' none := by
  have c0 := hT.c0
  have CB := Lib.hid (body_any t none w hT.p hR hW hTab hL)
  have CS := Lib.hid (fun W => sum_any t.body W (by omega))
  have hlt := sumB_lt t.body
  have CF := Lib.hid (fun W (hg : w.grownBy W none) => four_any (sumB t.body) W (hD.grown hg) hlt)
  have h4 := fourB_len (sumB t.body)
  obtain ⟨s1, s2, k1, k2⟩ : ∃ s1 s2, Adds (st (fourB (sumB t.body))) ⟨#[44]⟩ s1 ∧ (Adds s1 (st t.body) s2 ∧ s2 = st t.print) := by
    exact ⟨_, _, adds_st _ [44] (by simp; omega), adds_st _ _ (by simp; omega), rfl⟩
  obtain ⟨k2, k3⟩ := k2
  obtain ⟨sb, hsb⟩ : ∃ s, s = st t.body := ⟨_, rfl⟩
  obtain ⟨sf, hsf⟩ : ∃ s, s = st (fourB (sumB t.body)) := ⟨_, rfl⟩
  rw [← hsb] at k2 CB CS
  rw [← hsf] at k1 CF
  generalize sumB t.body = n at *
  unfold Adds at k1 k2
  replace hT := Lib.hid hT; replace k3 := Lib.hid k3; replace hsb := Lib.hid hsb; replace hsf := Lib.hid hsf; replace hTab := Lib.hid hTab
  unfold ptr at *
  go_enter Tryd.func11, Tryd.ntmps11
  go_wp2_with fail
  refine CB.out.mono ?_
  rintro e w1 ⟨rfl, g1⟩
  go_wp2_with fail
  refine (CS.out _).mono ?_
  rintro e w2 ⟨rfl, rfl⟩
  go_wp2_with fail
  refine (CF.out _ g1).mono ?_
  rintro e w3 ⟨rfl, g3⟩
  go_wp2_with fail
  go_ret
  exact ⟨ret_str k3.out, g1.trans g3⟩

section
variable {P : Program} {w : World}
theorem step_append_rd {ops : Array Oper} {o : Oper} {a : Act} {K : Act → World → Prop} {Q : Exit → Act → World → Prop} {E : Prop} (hgd : o.guard = none) (s x : Operand) (t : TypeId)
    (ho : o.op = .call { callee := .builtin .append, args := #[s, x], argTypes := #[t, t] })
    (base : Nat) (e : TypeId) (i : TypeInfo) (z : Value) (size bytes : Nat) (ht : P.underlying t = some (.slice e)) (hi : P.info? e = some i) (hz : i.zero = some z)
    (hsize : i.size = size) (hby : i.bytes = bytes) (hzs : z.cells.size = size) (hsz : 0 < size)
    (v : Value) (n : Nat) (xs : List Value) (hs : a.eval s = v) (hown : w.ownsRow base e size v n xs)
    (A : Option Addr) (m c : Nat) (news : List Value) (hx : a.eval x = .slice A m c) (hl : news.length = m * size) (hr : Rd w A news) (h1 : ∀ u ∈ news, u.oneCell' = true)
    (h63 : n + m ≤ maxLen) (hbytes : (n + m) * bytes ≤ 140737488355328) (hbase : base ≤ w.heap.size)
    (h : ∀ A' c' w', w'.ownsRow base e size (.slice A' (n + m) c') (n + m) (xs ++ news) → w.grownBy w' v.ownBlock → (ablk A' = v.ownBlock ∨ ablk A' = some w.heap.size) → K (a.put o.dst (.slice A' (n + m) c')) w') :
    if Region.wanted o (yielded ops a.tmps) = true then Oper.wp P o a w K Q else E := by
  have hw : Region.wanted o (yielded ops a.tmps) = true := by simp [Region.wanted, hgd]
  rw [if_pos hw]
  exact wp_append_rd w s x t ho base e i z size bytes ht hi hz hsize hby hzs hsz v n xs hs hown A m c news hx hl hr h1 h63 hbytes hbase h
end

/-- A pane's box: its five words. -/
def boxOf (n : Nd) : List Value := [.int .i64 n.p, .int .i64 n.x, .int .i64 n.y, .int .i64 n.a, .int .i64 n.b]
def boxes (l : List T) : List Value := l.flatMap fun t => boxOf t.n
theorem boxes_len (l : List T) : (boxes l).length = l.length * 5 := by
  induction l with
  | nil => rfl
  | cons a l ih => simp only [boxes, List.flatMap_cons, List.length_append] at ih ⊢; rw [ih]; simp [boxOf]; omega
theorem boxes_app (l r : List T) : boxes (l ++ r) = boxes l ++ boxes r := by simp [boxes]
theorem info30 : (Tryd.prog.info? 30).map (fun i => (i.zero, i.size, i.bytes)) = some (some (.agg #[.int .i64 0, .int .i64 0, .int .i64 0, .int .i64 0, .int .i64 0]), 5, 40) := by kernel_rfl
section
variable {ops : Array Oper} {rest : List Oper} {o : Oper} {a : Act} {Q : Exit → Act → World → Prop} {w : World}
/-- append at []api.Box. -/
theorem ap27 (hgd : o.guard = none) (s x : Operand) (ho : o.op = .call { callee := .builtin .append, args := #[s, x], argTypes := #[27, 27] })
    (base : Nat) (v : Value) (n : Nat) (xs : List Value) (hs : a.eval s = v) (hown : w.ownsRow base 30 5 v n xs)
    (A : Option Addr) (m c : Nat) (news : List Value) (hx : a.eval x = .slice A m c) (hl : news.length = m * 5) (hr : Rd w A news) (h1 : ∀ u ∈ news, u.oneCell' = true)
    (hb : n + m ≤ 1099511627776) (hbase : base ≤ w.heap.size)
    (h : ∀ A' c' w', w'.ownsRow base 30 5 (.slice A' (n + m) c') (n + m) (xs ++ news) → w.grownBy w' v.ownBlock → (ablk A' = v.ownBlock ∨ ablk A' = some w.heap.size) → wpList Tryd.prog ops Q rest (a.put o.dst (.slice A' (n + m) c')) w') : wpList Tryd.prog ops Q (o :: rest) a w := by
  obtain ⟨i0, hi0, hz0, hz1, hz2⟩ := info_parts info30
  exact wpList_append_rd w hgd s x 27 ho base 30 i0 _ 5 40 Tryd.underlying27 hi0 hz0 hz1 hz2 rfl (by omega) v n xs hs hown A m c news hx hl hr h1 (by unfold maxLen; omega) (by omega) hbase h
end
theorem Rd.newL (w : World) (xs : List Value) (e : TypeId) : Rd (w.alloc (.cells xs.toArray e)) (some ⟨w.heap.size, 0, none⟩) xs := fun _ => ⟨_, _, rfl, by simp, fun j u hj => by
  unfold World.cell?; rw [heap_alloc_new, Nat.zero_add]; simpa using hj⟩
theorem boxOf_one (n : Nd) : ∀ u ∈ boxOf n, u.oneCell' = true := by
  intro u hu
  simp only [boxOf, List.mem_cons, List.not_mem_nil, or_false] at hu
  rcases hu with rfl | rfl | rfl | rfl | rfl <;> rfl
set_option maxHeartbeats 1000000 in
set_option maxRecDepth 100000 in
theorem boxes_any (base tr : Nat) (t : T) (w : World) (hT : Tr base w tr t) (hl : t.leaves.length ≤ 100000) :
    Calls Tryd.prog 10 #[ptr tr] w fun e w' => ∃ A c, e = .returned (.slice A t.leaves.length c) ∧ w'.ownsRow w.heap.size 30 5 (.slice A t.leaves.length c) t.leaves.length (boxes t.leaves) ∧ w.grownBy w' none := by
  have CA := Lib.hid (all_any base tr t w hT hl)
  replace hT := Lib.hid hT
  obtain ⟨len, hln⟩ : ∃ len, len = t.leaves.length := ⟨_, rfl⟩
  rw [← hln] at CA hl
  rw [← hln]
  replace hln := Lib.hid hln
  unfold ptr at *
  go_enter Tryd.func10, Tryd.ntmps10
  go_wp2_with fail
  refine CA.out.mono ?_
  rintro e w1 ⟨A, c, rfl, hO, hG⟩
  have hR := own_Rd hO
  have hT1 := hT.out.grown hG
  replace hO := Lib.hid hO; replace hR := Lib.hid hR; replace hT1 := Lib.hid hT1; replace hG := Lib.hid hG
  clear CA
  go_wp2_with fail
  go_loopw [3, 9] (fun sv iv wr => ∃ (j : Nat) (A3 : Option Addr) (c3 : Nat), j ≤ len ∧ iv = .int .i64 j ∧ sv = .slice A3 j c3 ∧ Hid (wr.ownsRow w1.heap.size 30 5 (.slice A3 j c3) j (boxes (t.leaves.take j)) ∧ w1.grownBy wr none)) (fun _ iv _ => len - (intOf iv).toNat)
  case atStart => exact ⟨0, none, 0, Nat.zero_le _, rfl, rfl, Lib.hid ⟨World.ownsRow_nil _ _ _ _, World.grownBy.refl _ _⟩⟩
  case round =>
    obtain ⟨j, A3, c3, hj, rfl, rfl, hI⟩ := hrel
    by_cases hlt : j < len
    · obtain ⟨s, hs⟩ : ∃ s, t.leaves[j]? = some s := ⟨t.leaves[j]'(by rw [← hln.out]; exact hlt), List.getElem?_eq_getElem _⟩
      obtain ⟨b, off, rfl, _, hcell⟩ := hR.out.at_ (j := j) (u := ptr s.g) (by simp [ptrs, hs])
      have hc2 := hI.out.2.cell hcell (by simp)
      obtain ⟨up', hsT, _, hsb⟩ := mem_leaves t wr none (hT1.out.p.grown hI.out.2) s (List.mem_of_getElem? hs)
      have hsA : At wr up' s.n s.ks := by cases s; exact hsT.at_
      have q0 := hsA.c0; have q1 := hsA.c1; have q2 := hsA.c2; have q3 := hsA.c3; have q4 := hsA.c4
      have hsg : s.n.g = s.g := rfl
      have hsgT : s.g ∈ t.bl := hsb _ s.g_mem
      clear hsb
      rw [hsg] at q0 q1 q2 q3 q4
      have hsn : boxes (t.leaves.take (j + 1)) = boxes (t.leaves.take j) ++ boxOf s.n := by
        rw [take_succ' hs, boxes_app]; simp [boxes]
      replace hs := Lib.hid hs; replace hsA := Lib.hid hsA; replace hsT := Lib.hid hsT; replace hsn := Lib.hid hsn
      unfold ptr at hc2
      clear hcell hsg
      go_upto_region 5 with fail
      obtain ⟨i0, hi0, hz0, hz1, hz2⟩ := info_parts info30
      replace hi0 := Lib.hid hi0; replace hz0 := Lib.hid hz0; replace hz1 := Lib.hid hz1; replace hz2 := Lib.hid hz2
      have hO1 := hI.out.1
      have hsz := hI.out.2.size
      have hne : s.g ≠ wr.heap.size := by have := hsT.out.lt _ _ s.g (T.g_mem s); omega
      replace hO1 := Lib.hid hO1
      have OA := own_keep hO1.out ((g_drew (World.grownBy.refl wr none)).trans (World.grownBy_alloc wr.drew (.cells (boxOf s.n).toArray 30) none))
      have RA := Rd.newL wr.drew (boxOf s.n) 30
      have p1 : 0 < 5 := by omega
      have p2 : (boxOf s.n).length = 1 * 5 := rfl
      have p3 : j + 1 ≤ maxLen := by unfold maxLen; omega
      have p4 : (j + 1) * 40 ≤ 140737488355328 := by omega
      have p5 : w1.heap.size ≤ (wr.drew.alloc (.cells (boxOf s.n).toArray 30)).heap.size := by simp; omega
      have hrow : (Value.slice A3 j c3).ownBlock ≠ some s.g := by
        intro e
        have h1 := (hO1.out.lt _ e).1
        have h2 := (hT1.out.p.lt _ _ s.g hsgT)
        omega
      replace OA := Lib.hid OA; replace RA := Lib.hid RA; replace hrow := Lib.hid hrow
      go_region_held3 (fun w' => w'.cell? ⟨s.g, 0, none⟩ = some (.int .i64 s.n.p) ∧ w'.cell? ⟨s.g, 1, none⟩ = some (.int .i64 s.n.x) ∧ w'.cell? ⟨s.g, 2, none⟩ = some (.int .i64 s.n.y) ∧ w'.cell? ⟨s.g, 3, none⟩ = some (.int .i64 s.n.a) ∧ w'.cell? ⟨s.g, 4, none⟩ = some (.int .i64 s.n.b))
        (first | go_keep | (go_split_ands; refine ⟨?_, ?_, ?_, ?_, ?_⟩ <;> (refine G5.cell ?_ (fun e => hrow.out e.symm) <;> first | assumption | simp)) | fail)
        ((first
          | (refine step_append_rd (by rfl) (.tmp 13) (.tmp 39) 27 (by rfl) w1.heap.size 30 i0 _ 5 40 Tryd.underlying27 hi0.out hz0.out hz1.out hz2.out rfl p1 (.slice A3 j c3) j _ (by rfl) OA.out (some ⟨wr.heap.size, 0, none⟩) 1 1 (boxOf s.n) (by rfl) p2 RA.out (boxOf_one _) p3 p4 p5 ?_; intro A5 c5 w5 O5 G5 hh5)
          | fail))
      replace O5 := Lib.hid O5; replace G5 := Lib.hid G5
      clear q0 q1 q2 q3 q4
      go_wp2_with fail
      refine ⟨⟨j + 1, A5, c5, by omega, by go_num, rfl, Lib.hid ⟨?_, ?_⟩⟩, by simp [intOf]; omega⟩
      · rw [hsn.out]; exact O5.out
      · exact g_own (hI.out.2.trans ((g_drew (World.grownBy.refl wr none)).trans (World.grownBy_alloc wr.drew _ none))) OA.out (Nat.le_refl _) G5.out
    · have hje : j = len := by omega
      subst hje
      go_wp2_with fail
      go_ret
      have := hI.out.1
      rw [List.take_of_length_le (by rw [hln.out]; exact Nat.le_refl _)] at this
      exact ⟨A3, c3, rfl, own_le this hG.out.size, hG.out.trans hI.out.2⟩
end Go.Proofs.YtcklmkjlbpjojaaDoor
