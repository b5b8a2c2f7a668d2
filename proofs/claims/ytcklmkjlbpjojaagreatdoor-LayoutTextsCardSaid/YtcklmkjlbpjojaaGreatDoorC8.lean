/- Layout: Sum, four. Layout: FormatInt at base 16, four. -/
import Derived.Test.YtcklmkjlbpjojaaGreatDoorC2
namespace Go.Proofs.YtcklmkjlbpjojaaGreatDoor
open Go.RowKit
set_option linter.unusedSimpArgs false
set_option linter.unusedVariables false

/-- A round of the sum. -/
def sumS (n : Nat) (b : UInt8) : Nat := (n / 2 + n % 2 * 32768 + b.toNat) % 65536
def sumB (l : List UInt8) : Nat := l.foldl sumS 0
theorem sumS_lt (n : Nat) (b : UInt8) : sumS n b < 65536 := by unfold sumS; omega
theorem foldl_sumS_lt (l : List UInt8) : ∀ n, n < 65536 → l.foldl sumS n < 65536 := by
  induction l with
  | nil => intro n h; exact h
  | cons b l ih => intro n _; exact ih _ (sumS_lt n b)
theorem sumB_lt (l : List UInt8) : sumB l < 65536 := foldl_sumS_lt l 0 (by omega)
theorem sumB_take {l : List UInt8} {j : Nat} {b : UInt8} (h : l[j]? = some b) : sumB (l.take (j + 1)) = sumS (sumB (l.take j)) b := by
  rw [take_succ' h]; unfold sumB; rw [List.foldl_append]; rfl

theorem u16_wrap (z : Int) : IntKind.u16.wrap z = z % 65536 := by simp [IntKind.wrap]; rfl
theorem or16 (n : Nat) (hn : n < 65536) : bits .or .u16 ((n : Int) / 2) (IntKind.u16.wrap ((n : Int) * 32768)) = ((n / 2 + n % 2 * 32768 : Nat) : Int) := by
  rw [u16_wrap]
  have e1 : (n : Int) / 2 = ((n / 2 : Nat) : Int) := by omega
  have e2 : (n : Int) * 32768 % 65536 = ((n % 2 * 32768 : Nat) : Int) := by omega
  rw [e1, e2]
  show IntKind.u16.wrap ((BitVec.ofInt 16 ((n / 2 : Nat) : Int) ||| BitVec.ofInt 16 ((n % 2 * 32768 : Nat) : Int)).toNat : Int) = _
  rw [BitVec.toNat_or, BitVec.ofInt_natCast, BitVec.ofInt_natCast, BitVec.toNat_ofNat, BitVec.toNat_ofNat, Nat.mod_eq_of_lt (by omega), Nat.mod_eq_of_lt (by omega), u16_wrap]
  have e3 : n / 2 ||| n % 2 * 32768 = n / 2 + n % 2 * 32768 := by
    have := Nat.two_pow_add_eq_or_of_lt (i := 15) (b := n / 2) (by omega) (n % 2)
    rw [Nat.or_comm, Nat.mul_comm, ← this]; omega
  rw [e3]; omega

set_option maxHeartbeats 1000000 in
set_option maxRecDepth 100000 in
theorem sum_any (l : List UInt8) (w : World) (hl : l.length ≤ 9223372036854775807) : Calls Tryz.prog 11 #[.string (st l)] w fun e w' => e = .returned (.int .i64 (sumB l)) ∧ w = w' := by
  obtain ⟨s, hs⟩ : ∃ s, s = st l := ⟨_, rfl⟩
  obtain ⟨len, hln⟩ : ∃ len, len = l.length := ⟨_, rfl⟩
  have hsz : s.size = len := by rw [hs, st_size, hln]
  have hl2 : len ≤ 9223372036854775807 := by omega
  rw [← hs]
  replace hs := Lib.hid hs; replace hln := Lib.hid hln; replace hl := Lib.hid hl
  go_enter Tryz.func11, Tryz.ntmps11
  go_wp2_with fail
  go_loopw [3, 7] (fun sv iv wr => ∃ j : Nat, j ≤ len ∧ iv = .int .i64 j ∧ sv = .int .u16 (sumB (l.take j)) ∧ wr = w) (fun _ iv _ => len - (intOf iv).toNat)
  case atStart => exact ⟨0, Nat.zero_le _, rfl, rfl, rfl⟩
  case round =>
    obtain ⟨j, hj, rfl, rfl, rfl⟩ := hrel
    by_cases hlt : j < len
    · obtain ⟨b, hb⟩ : ∃ b, l[j]? = some b := ⟨l[j]'(by rw [← hln.out]; exact hlt), List.getElem?_eq_getElem _⟩
      have hsb : s.data[j]? = some b := by rw [hs.out]; simpa [st] using hb
      have hn := sumB_lt (l.take j)
      have hstep := sumB_take hb
      generalize sumB (l.take j) = n at *
      replace hb := Lib.hid hb; replace hstep := Lib.hid hstep
      go_wp2_with fail
      refine ⟨⟨j + 1, by omega, by go_num, ?_, trivial⟩, by simp [intOf]; omega⟩
      rw [hstep.out, or16 n hn]
      have e : s[j] = b := by
        have := hsb
        rw [Array.getElem?_eq_getElem (by show j < s.size; omega)] at this
        injection this
      rw [e, u16_wrap, u16_wrap]
      have := b.toNat_lt
      unfold sumS
      congr 1
      omega
    · have : j = len := by omega
      subst this
      have he : l.take j = l := List.take_of_length_le (by rw [hln.out]; exact Nat.le_refl _)
      have hn := sumB_lt l
      rw [he]
      replace he := Lib.hid he
      go_wp2_with fail
      go_ret
      exact ⟨ret_int (by first | rfl | (rw [IntKind.wrap_i64]; omega) | omega), rfl⟩
end Go.Proofs.YtcklmkjlbpjojaaGreatDoor
namespace Go.Proofs.YtcklmkjlbpjojaaGreatDoor
open Go.RowKit
set_option linter.unusedSimpArgs false
set_option linter.unusedVariables false

/-- The word of the library's table that is read at 16. -/
abbrev Deb (w : World) : Prop := w.cell? ⟨5, 15, none⟩ = some (.int .u8 4)
theorem tz64_any (w : World) (h : Deb w) : Calls Tryz.prog 144 #[.int .u64 16] w fun e w' => e = .returned (.int .i64 4) ∧ w = w' := by
  unfold Deb at h
  have e : IntKind.u64.wrap (bits BinOp.and IntKind.u64 16 (IntKind.u64.wrap (-16)) * 285870213051353865) / 288230376151711744 = 15 := by decide
  go_enter Tryz.func144, Tryz.ntmps144
  go_wp2_with fail
  all_goals (go_ret; exact ⟨rfl, rfl⟩)
theorem tz_any (w : World) (h : Deb w) : Calls Tryz.prog 140 #[.int .u64 16] w fun e w' => e = .returned (.int .i64 4) ∧ w = w' := by
  have C := Lib.hid (tz64_any w h)
  go_enter Tryz.func140, Tryz.ntmps140
  go_wp2_with fail
  refine C.out.mono ?_
  rintro e w' ⟨rfl, rfl⟩
  go_wp2_with fail
  all_goals (go_ret; exact ⟨rfl, rfl⟩)
theorem pow2_any (w : World) : Calls Tryz.prog 139 #[.int .i64 16] w fun e w' => e = .returned (.bool true) ∧ w = w' := by
  go_enter Tryz.func139, Tryz.ntmps139
  go_wp2_with fail
  all_goals (go_ret; exact ⟨rfl, rfl⟩)

theorem info5 : (Tryz.prog.info? 5).map (fun i => (i.zero, i.size, i.bytes)) = some (some (.int .u8 0), 1, 1) := by kernel_rfl
def hexd (k : Nat) : UInt8 := if k < 10 then UInt8.ofNat (48 + k) else UInt8.ofNat (87 + k)
/-- The lowest k digits of n, in the base 16. -/
def hexs (n : Nat) : Nat → List UInt8
  | 0 => []
  | k + 1 => hexd (n / 16 ^ k % 16) :: hexs n k
def hexlen (n : Nat) : Nat := if n < 16 then 1 else if n < 256 then 2 else if n < 4096 then 3 else 4
def hex (n : Nat) : List UInt8 := hexs n (hexlen n)

theorem st_app0 (a b : List UInt8) : st a ++ st b = st (a ++ b) := by
  apply ByteArray.ext
  show (st a ++ st b).data = _
  simp [st]
theorem and15 (u : Nat) (hu : u < 65536) : bits .and .u64 (u : Int) 15 = ((u % 16 : Nat) : Int) := by
  show IntKind.u64.wrap ((BitVec.ofInt 64 (u : Int) &&& BitVec.ofInt 64 ((15 : Nat) : Int)).toNat : Int) = _
  rw [BitVec.toNat_and, BitVec.ofInt_natCast, BitVec.ofInt_natCast, BitVec.toNat_ofNat, BitVec.toNat_ofNat, Nat.mod_eq_of_lt (by omega), Nat.mod_eq_of_lt (by omega)]
  have e : u &&& 15 = u % 16 := Nat.and_two_pow_sub_one_eq_mod u 4
  rw [e]
  exact IntWalk.u64_in _ (by omega)
/-- The digits' row, k of them laid. -/
def HB (w : World) (n k : Nat) (wr : World) : Prop := wr.heap[w.heap.size]? = some (.cells (List.replicate (65 - k) (Value.int .u8 0) ++ bs (hexs n k)).toArray 167 (0, 0)) ∧ w.grownBy wr none
theorem HB.set {w wr : World} {n k : Nat} (h : HB w n k wr) (hk : k < 65) (v : Value) (hv : v = b8 (hexd (n / 16 ^ k % 16))) : HB w n (k + 1) (wr.setCell ⟨w.heap.size, 64 - k, none⟩ v) := by
  obtain ⟨h1, h2⟩ := h
  refine ⟨?_, h2.os, h2.tape, h2.output, by simpa [World.setCell] using h2.size, fun j hj hn => ?_⟩
  · subst hv
    have e : (World.setCell wr ⟨w.heap.size, 64 - k, none⟩ (b8 (hexd (n / 16 ^ k % 16)))).heap[w.heap.size]? = some (.cells ((List.replicate (65 - k) (Value.int .u8 0) ++ bs (hexs n k)).toArray.setIfInBounds (64 - k) (b8 (hexd (n / 16 ^ k % 16)))) 167 (0, 0)) := by
      simp [World.setCell, Array.getElem?_modify, h1]
    rw [e]
    congr 2
    have e2 : 65 - k = (64 - k) + 1 := by omega
    rw [List.setIfInBounds_toArray, e2, List.replicate_succ', List.append_assoc, List.set_append_right _ _ (by simp)]
    simp only [List.length_replicate, Nat.sub_self, List.cons_append, List.nil_append, List.set_cons_zero, hexs, bs, List.map_cons]
    rw [show 65 - (k + 1) = 64 - k by omega]
  · rw [Below.heap_setCell _ _ _ _ (by show j ≠ w.heap.size; omega)]
    exact h2.block j hj hn
theorem HB.cell {w wr : World} {n k : Nat} (h : HB w n k wr) (j : Nat) (hj : j < 65 - k) : wr.cell? ⟨w.heap.size, j, none⟩ = some (.int .u8 0) := by
  unfold World.cell?
  rw [h.1]
  simp [List.getElem?_append_left, hj, List.getElem?_replicate]
theorem HB.free {w wr : World} {n k : Nat} (h : HB w n k wr) (j : Nat) : wr.frozen? ⟨w.heap.size, j, none⟩ = false := by
  unfold World.frozen?
  rw [h.1]; simp
theorem hexs_len (n : Nat) : ∀ k, (hexs n k).length = k
  | 0 => rfl
  | k + 1 => by rw [hexs, List.length_cons, hexs_len n k]
theorem HB.rd {w wr : World} {n k : Nat} (h : HB w n k wr) (hk : k ≤ 65) : Rd wr (some ⟨w.heap.size, 65 - k, none⟩) (bs (hexs n k)) := fun _ => ⟨_, _, rfl, lt_of_heap h.1, fun j u hj => by
  unfold World.cell?
  rw [h.1]
  have := (List.getElem?_eq_some_iff.1 hj).1
  rw [bs_len, hexs_len] at this
  simp only [Option.isSome_none, Bool.false_eq_true, if_false, List.getElem?_toArray]
  rw [List.getElem?_append_right (by simp), List.length_replicate]
  rw [show 65 - k + j - (65 - k) = j by omega]; exact hj⟩

set_option maxHeartbeats 1000000 in
set_option maxRecDepth 100000 in
theorem bits_any (n : Nat) (w : World) (h : Deb w) (hn : n < 65536) :
    Calls Tryz.prog 129 #[.slice none 0 0, .int .u64 n, .int .i64 16, .bool false, .bool false] w fun e w' => e = .returned (.tuple #[.slice none 0 0, .string (st (hex n))]) ∧ w.grownBy w' none := by
  have C1 := Lib.hid (fun (W : World) (hg : w.grownBy W none) => tz_any W (by unfold Deb at *; exact hg.cell h (by simp)))
  have C2 := Lib.hid (pow2_any)
  have g0 := World.grownBy_alloc w (.cells Tryz.zeroCells167 167) none
  go_enter Tryz.func129, Tryz.ntmps129
  go_wp2_with fail
  refine (C2.out _).mono ?_
  rintro e w' ⟨rfl, rfl⟩
  go_wp2_with fail
  refine (C1.out _ g0).mono ?_
  rintro e w' ⟨rfl, rfl⟩
  go_wp2_with fail
  have hI0 : HB w n 0 (w.alloc (.cells Tryz.zeroCells167 167)) := by
    refine ⟨?_, g0⟩
    rw [heap_alloc_new]
    rfl
  have hdig : ∀ u, u < 16 → ∀ (hb : u < ByteArray.size ⟨#[48, 49, 50, 51, 52, 53, 54, 55, 56, 57, 97, 98, 99, 100, 101, 102, 103, 104, 105, 106, 107, 108, 109, 110, 111, 112, 113, 114, 115, 116, 117, 118, 119, 120, 121, 122]⟩), (ByteArray.mk #[48, 49, 50, 51, 52, 53, 54, 55, 56, 57, 97, 98, 99, 100, 101, 102, 103, 104, 105, 106, 107, 108, 109, 110, 111, 112, 113, 114, 115, 116, 117, 118, 119, 120, 121, 122])[u] = hexd u := by decide
  replace hI0 := Lib.hid hI0; replace hdig := Lib.hid hdig
  generalize w.alloc (.cells Tryz.zeroCells167 167) = w1 at *
  clear C1 C2
  go_loopw [1, 13] (fun uv iv wr => ∃ k : Nat, k < 4 ∧ uv = .int .u64 ((n / 16 ^ k : Nat) : Int) ∧ iv = .int .i64 ((65 - k : Nat) : Int) ∧ (k = 0 ∨ 16 ^ k ≤ n) ∧ Hid (HB w n k wr)) (fun uv _ _ => (intOf uv).toNat)
  case atStart => exact ⟨0, by omega, by simp, rfl, .inl rfl, hI0⟩
  case round =>
    obtain ⟨k, hk, rfl, rfl, hkn, hI⟩ := hrel
    have hu : n / 16 ^ k < 65536 := Nat.lt_of_le_of_lt (Nat.div_le_self _ _) hn
    have ha := and15 (n / 16 ^ k) hu
    have hdm : n / 16 ^ (k + 1) = n / 16 ^ k / 16 := by rw [Nat.pow_succ, Nat.div_div_eq_div_mul]
    have hst := fun v hv => hI.out.set (by omega) v hv
    have q1 := hI.out.cell (64 - k) (by omega)
    have q2 := hI.out.free (64 - k)
    obtain ⟨m, hm⟩ : ∃ m, m = 64 - k := ⟨_, rfl⟩
    have hm2 : 65 - k = m + 1 := by omega
    have hm3 : 61 ≤ m ∧ m < 65 := by omega
    have hlen2 : 16 ≤ n / 16 ^ k → k + 1 < 4 ∧ 16 ^ (k + 1) ≤ n := by
      have : k = 0 ∨ k = 1 ∨ k = 2 ∨ k = 3 := by omega
      rcases this with rfl | rfl | rfl | rfl <;> simp <;> omega
    have hlen3 : ¬ 16 ≤ n / 16 ^ k → k + 1 = hexlen n := by
      have : k = 0 ∨ k = 1 ∨ k = 2 ∨ k = 3 := by omega
      unfold hexlen
      rcases this with rfl | rfl | rfl | rfl <;> simp at hkn ⊢ <;> (repeat' split) <;> omega
    rw [← hm] at q1 q2 hst
    rw [hm2]
    have hR := fun v hv => (hst v hv).rd (by omega)
    rw [show 65 - (k + 1) = m by omega] at hR
    generalize hue : n / 16 ^ k = u at *
    replace hdm := Lib.hid hdm; replace hst := Lib.hid hst; replace hlen2 := Lib.hid hlen2; replace hlen3 := Lib.hid hlen3; replace hR := Lib.hid hR; replace hue := Lib.hid hue; replace hm := Lib.hid hm; replace hm2 := Lib.hid hm2; replace hkn := Lib.hid hkn
    by_cases h16 : 16 ≤ u
    · have hd := hdig.out (u % 16) (by omega)
      have hx : u % 16 < 36 := by omega
      go_wp2_with fail
      have h2 := hlen2.out h16
      refine ⟨⟨k + 1, h2.1, ?_, ?_, .inr h2.2, ?_⟩, ?_⟩
      · rw [hdm.out]; rfl
      · rw [show 65 - (k + 1) = m by have := hm.out; omega]
      · exact Lib.hid (hst.out _ rfl)
      · simp only [intOf]; omega
    · have hul : u < 16 := by omega
      have hmod : u % 16 = u := Nat.mod_eq_of_lt hul
      have hd := hdig.out u hul
      have hst2 := hst.out (.int .u8 ((hexd u).toNat : Int)) (by rw [hmod]; rfl)
      have hR2 := hR.out (.int .u8 ((hexd u).toNat : Int)) (by rw [hmod]; rfl)
      have hsl : ∀ W, Sem.run Tryz.prog (Instr.sliceAt 167 (.pointer (some ⟨w.heap.size, 0, none⟩)) (some (.int .i64 (m : Int))) none none) W = .ok (.slice (some ⟨w.heap.size, m, none⟩) (65 - m) (65 - m)) W := by
        intro W
        have hal : Tryz.prog.arrayLen 167 = 65 := by kernel_rfl
        rw [run_sliceAt_array_l (P := Tryz.prog) W 167 ⟨w.heap.size, 0, none⟩ (by kernel_rfl) .i64 (m : Int) (by omega) (by rw [hal]; omega)]
        have he : Tryz.prog.elem 167 = 5 := by kernel_rfl
        obtain ⟨i0, hi0, hz0, hz1, hz2⟩ := info_parts info5
        have e65 : ¬ (65 = m) := by omega
        rw [he, hal]
        simp [sizeOf, typeInfo, hi0, hz1, slicedAt, Addr.add_lit, e65]
      have hcv := conv_str (P := Tryz.prog) (wr.setCell ⟨w.heap.size, m, none⟩ (.int .u8 ((hexd u).toNat : Int))) 34 9 5 Tryz.underlying34 Tryz.underlying5 Tryz.underlying9 (some ⟨w.heap.size, m, none⟩) (65 - m) (65 - m) (hexs n (k + 1)) (by rw [hexs_len]; have := hm.out; omega) hR2
      have hres : st (hexs n (k + 1)) = st (hex n) := by unfold hex; rw [hlen3.out h16]
      rw [hres] at hcv
      replace hst2 := Lib.hid hst2; replace hR2 := Lib.hid hR2; replace hres := Lib.hid hres
      clear hmod
      go_wp2_with fail
      go_ret2
      exact ⟨rfl, hst2.out.2⟩

theorem fmt16i_any (n : Nat) (w : World) (h : Deb w) (hn : n < 65536) : Calls Tryz.prog 112 #[.int .i64 n, .int .i64 16] w fun e w' => e = .returned (.string (st (hex n))) ∧ w.grownBy w' none := by
  have C := Lib.hid (bits_any n w h hn)
  have hw : IntKind.u64.wrap (n : Int) = n := IntWalk.u64_in _ (by omega)
  have h0 : ¬ ((n : Int) < 0) := by omega
  have h1 : (0 : Int) ≤ n := by omega
  go_enter Tryz.func112, Tryz.ntmps112
  go_wp2_with fail
  refine C.out.mono ?_
  rintro e w' ⟨rfl, g⟩
  go_wp2_with fail
  go_ret
  exact ⟨rfl, g⟩
theorem fmt16_any (n : Nat) (w : World) (h : Deb w) (hn : n < 65536) : Calls Tryz.prog 84 #[.int .i64 n, .int .i64 16] w fun e w' => e = .returned (.string (st (hex n))) ∧ w.grownBy w' none := by
  have C := Lib.hid (fmt16i_any n w h hn)
  go_enter Tryz.func84, Tryz.ntmps84
  go_wp2_with fail
  refine C.out.mono ?_
  rintro e w' ⟨rfl, g⟩
  go_wp2_with fail
  go_ret
  exact ⟨rfl, g⟩
/-- A sum in four digits. -/
def fourB (n : Nat) : List UInt8 := ([48, 48, 48] ++ hex n).drop ((hex n).length - 1)
theorem hexlen_le (n : Nat) : 1 ≤ hexlen n ∧ hexlen n ≤ 4 := by unfold hexlen; constructor <;> (repeat' split) <;> omega
theorem hex_len (n : Nat) : (hex n).length = hexlen n := hexs_len n _
theorem four_any (n : Nat) (w : World) (h : Deb w) (hn : n < 65536) : Calls Tryz.prog 42 #[.int .i64 n] w fun e w' => e = .returned (.string (st (fourB n))) ∧ w.grownBy w' none := by
  have C := Lib.hid (fmt16_any n w h hn)
  obtain ⟨l0, l1⟩ := hexlen_le n
  have hl := hex_len n
  obtain ⟨s, hs⟩ : ∃ s, s = st (hex n) := ⟨_, rfl⟩
  have hadd : ∀ w, Sem.run Tryz.prog (Op.stringOp .add ⟨#[48, 48, 48]⟩ s) w = .ok (.string (st ([48, 48, 48] ++ hex n))) w := fun w => by
    rw [hs]
    have := run_string_add_sum (P := Tryz.prog) w (st [48, 48, 48]) (st (hex n)) (by rw [st_size, st_size]; simp; omega)
    rw [st_app0] at this
    exact this
  obtain ⟨t, ht⟩ : ∃ t, t = st ([48, 48, 48] ++ hex n) := ⟨_, rfl⟩
  have hsz : t.size = hexlen n + 3 := by rw [ht, st_size]; simp [hl]
  rw [← hs] at C
  rw [← ht] at hadd
  obtain ⟨m, hm⟩ : ∃ m, m = hexlen n - 1 := ⟨_, rfl⟩
  have hm2 : hexlen n + 3 = m + 4 := by omega
  rw [hm2] at hsz
  have hfin : t.extract m (m + 4) = st (fourB n) := by
    rw [ht]
    unfold fourB
    rw [hl, ← hm]
    apply ByteArray.ext
    simp [st, List.extract_eq_take_drop]
    rw [List.take_of_length_le (by simp [hl]; omega)]
  have hm3 : m < 4 := by omega
  replace hs := Lib.hid hs; replace ht := Lib.hid ht; replace hl := Lib.hid hl; replace hm := Lib.hid hm; replace hm2 := Lib.hid hm2
  go_enter Tryz.func42, Tryz.ntmps42
  go_wp2_with fail
  refine C.out.mono ?_
  rintro e w' ⟨rfl, g⟩
  go_wp2_with fail
  go_ret
  exact ⟨rfl, g⟩
end Go.Proofs.YtcklmkjlbpjojaaGreatDoor
