/- Contracts: NewReader, Pending, two, IndexFunc, ContainsFunc. -/
import Derived.Test.YtdbjphabmdmjcaaC2
namespace Go.Proofs.Ytdbjphabmdmjcaa
open Go.RowKit
set_option linter.unusedSimpArgs false
set_option linter.unusedVariables false

theorem newReader_any (w : World) : Calls Try.prog 14 #[] w fun e w' => e = .returned (.pointer (some ⟨w.heap.size, 0, none⟩)) ∧ w.alloc (.cells #[.slice none 0 0, .bool false] 65) = w' := by
  go_enter Try.func14, Try.ntmps14
  go_wp2
  go_ret
  exact ⟨rfl, rfl⟩

theorem pending_any (p n c : Nat) (A : Option Addr) (w : World) (hc : w.cell? ⟨p, 0, none⟩ = some (.slice A n c)) :
    Calls Try.prog 16 #[.pointer (some ⟨p, 0, none⟩)] w fun e w' => e = .returned (.int .i64 n) ∧ w = w' := by
  go_enter Try.func16, Try.ntmps16
  go_wp2
  go_ret
  exact ⟨rfl, rfl⟩

def hi8 (n : Nat) : UInt8 := UInt8.ofNat (n / 256)
def lo8 (n : Nat) : UInt8 := UInt8.ofNat n

theorem hi8_eq (n : Nat) (h : n < 65536) : (n : Int) / 256 = ((hi8 n).toNat : Int) := by
  unfold hi8; rw [UInt8.toNat_ofNat']; omega
theorem lo8_eq (n : Nat) : (n : Int) % 256 = ((lo8 n).toNat : Int) := by
  unfold lo8; rw [UInt8.toNat_ofNat']; omega
theorem hi8_u8 (n : Nat) (h : n < 65536) : Value.int .u8 ((n : Int) / 256) = b8 (hi8 n) := by rw [hi8_eq n h]; rfl
theorem lo8_u8 (n : Nat) : Value.int .u8 ((n : Int) % 256) = b8 (lo8 n) := by rw [lo8_eq n]; rfl

/-- a new block's cells, read as a slice. -/
theorem Rd.new (w : World) (cs : Array Value) (t : TypeId) : Rd (w.alloc (.cells cs t)) (some ⟨w.heap.size, 0, none⟩) cs.toList := fun _ =>
  ⟨_, _, rfl, by simp, fun j u hj => by simp only [World.cell?, heap_alloc_new]; simpa using hj⟩

set_option maxHeartbeats 400000 in
theorem two_any (n : Nat) (w : World) (hn : n < 65536) : Calls Try.prog 26 #[.int .i64 n] w fun e w' => e = .returned (.string (st [hi8 n, lo8 n])) ∧ w.grownBy w' none := by
  have hcv := conv_str (P := Try.prog) (w.alloc (.cells #[.int .u8 ((n : Int) / 256), .int .u8 ((n : Int) % 256)] 5)) 23 9 5 Try.underlying23 Try.underlying5 Try.underlying9
    (some ⟨w.heap.size, 0, none⟩) 2 2 [hi8 n, lo8 n] rfl (by rw [hi8_u8 n hn, lo8_u8 n]; exact Rd.new w _ 5)
  go_enter Try.func26, Try.ntmps26
  go_wp2
  go_ret
  exact ⟨rfl, World.grownBy_alloc _ _ _⟩

def lidx : List ByteArray → Int → Int
  | [], _ => -1
  | s :: ws, k => if 8192 < s.size then k else lidx ws (k + 1)

set_option maxHeartbeats 400000 in
theorem idx_any (A : Option Addr) (n c : Nat) (ws : List ByteArray) (w : World) (hl : n = ws.length) (hn : n ≤ 140737488355328) (hr : Rd w A (ws.map .string))
    (hs : ∀ s ∈ ws, s.size ≤ 140737488355328) :
    Calls Try.prog 54 #[.slice A n c, .func (.func 52) #[] #[]] w fun e w' => e = .returned (.int .i64 (lidx ws 0)) ∧ w = w' := by
  have hr' := Lib.hid hr; clear hr
  have hl' := Lib.hid hl; clear hl
  have hs' := Lib.hid hs; clear hs
  go_enter Try.func54, Try.ntmps54
  go_wp2_with fail
  go_loop [8] (fun i => ∃ j : Nat, j ≤ n ∧ Hid (lidx ws 0 = lidx (ws.drop j) j) ∧ i = .int .i64 j) (fun i => n - (intOf i).toNat)
  case atStart => exact ⟨0, Nat.zero_le _, rfl, rfl⟩
  case round =>
    obtain ⟨j, hj, hx, rfl⟩ := hrel
    by_cases hlt : j < n
    · have hjl : j < ws.length := by rw [← hl'.out]; exact hlt
      obtain ⟨b, off, rfl, hb, hc⟩ := hr'.out.at_ (j := j) (u := .string ws[j]) (by simp [hjl])
      have hsj := hs'.out ws[j] (List.getElem_mem hjl)
      generalize hw : ws[j] = s at *
      have hw' := Lib.hid hw; clear hw
      go_wp2_with (go_at_call 52; refine (long_any s _ hsj).mono ?_; rintro e w' ⟨rfl, rfl⟩)
      · go_ret
        refine ⟨ret_int ?_, rfl⟩
        rw [hx.out, List.drop_eq_getElem_cons hjl, hw'.out, lidx, if_pos (by assumption)]
      · go_round
        case rel => refine ⟨j + 1, by omega, ?_, by go_num⟩
                    show _ = _
                    rw [hx.out, List.drop_eq_getElem_cons hjl, hw'.out, lidx, if_neg (by omega)]; simp
        case measure => simp [intOf]; omega
    · go_wp2_with fail
      go_ret
      refine ⟨ret_int ?_, rfl⟩
      rw [hx.out, List.drop_of_length_le (by rw [← hl'.out]; omega)]; rfl

theorem contains_any (A : Option Addr) (n c : Nat) (ws : List ByteArray) (w : World) (hl : n = ws.length) (hn : n ≤ 140737488355328) (hr : Rd w A (ws.map .string))
    (hs : ∀ s ∈ ws, s.size ≤ 140737488355328) :
    Calls Try.prog 53 #[.slice A n c, .func (.func 52) #[] #[]] w fun e w' => e = .returned (.bool (decide (0 ≤ lidx ws 0))) ∧ w = w' := by
  have C := Lib.hid (idx_any A n c ws w hl hn hr hs); clear hl hr hs
  go_enter Try.func53, Try.ntmps53
  go_wp2_with (go_at_call 54; refine C.out.mono ?_; rintro e w' ⟨rfl, rfl⟩)
  go_ret
  exact ⟨ret_bool rfl, rfl⟩

theorem lidx_any (ws : List ByteArray) : ∀ k : Int, 0 ≤ k → (0 ≤ lidx ws k ↔ ∃ s ∈ ws, 8192 < s.size) := by
  induction ws with
  | nil => intro k _; simp [lidx]
  | cons s ws ih =>
    intro k hk
    by_cases h : 8192 < s.size
    · simp [lidx, h, hk]
    · simp [lidx, h, ih (k + 1) (by omega)]

def longs (ws : List ByteArray) : Bool := decide (∃ s ∈ ws, 8192 < s.size)

set_option maxHeartbeats 400000 in
theorem woR_any (k a b : Int) (wa da : Option Addr) (n c dn dc : Nat) (ws : List ByteArray) (w : World) (hl : n = ws.length) (hn : n ≤ 140737488355328) (hd : dn ≤ 140737488355328) (hr : Rd w wa (ws.map .string))
    (hs : ∀ s ∈ ws, s.size ≤ 140737488355328) :
    Calls Try.prog 50 #[.agg #[], .agg #[.int .i64 k, .int .i64 a, .int .i64 b, .slice wa n c, .slice da dn dc]] w fun e w' =>
      e = .returned (.bool (woR a b n dn (longs ws))) ∧ w.grownBy w' none := by
  have C := Lib.hid (fun (W : World) (hW : w.grownBy W none) => contains_any wa n c ws W hl hn (hr.grown hW (.inl rfl)) hs)
  clear hl hr hs
  have hL : decide (0 ≤ lidx ws 0) = longs ws := by simp only [longs]; congr 1; exact propext (lidx_any ws 0 (Int.le_refl _))
  have hL := Lib.hid hL
  go_enter Try.func50, Try.ntmps50
  go_wp2_with (go_at_call 53; refine (C.out _ (by repeat (first | exact World.grownBy.refl _ _ | apply g_alloc | apply g_drew))).mono ?_; rintro e w' ⟨rfl, rfl⟩)
  all_goals
    go_ret
    refine ⟨ret_bool ?_, by repeat (first | exact World.grownBy.refl _ _ | apply g_alloc | apply g_drew)⟩
    have hL' := hL.out
    simp_all [woR, cast_beq0]
    try omega
end Go.Proofs.Ytdbjphabmdmjcaa
