/- Contracts: the worded codec's write. -/
import Derived.Test.YtdbjphabmdmjcaaC3
namespace Go.Proofs.Ytdbjphabmdmjcaa
open Go.RowKit
set_option linter.unusedSimpArgs false
set_option linter.unusedVariables false

def wbytes : List ByteArray → List UInt8
  | [] => []
  | s :: ws => hi8 s.size :: lo8 s.size :: (sl s ++ wbytes ws)

theorem wbytes_append (a b : List ByteArray) : wbytes (a ++ b) = wbytes a ++ wbytes b := by
  induction a with
  | nil => rfl
  | cons s a ih => simp [wbytes, ih]
theorem wbytes_len (ws : List ByteArray) (h : ∀ s ∈ ws, s.size ≤ 8192) : (wbytes ws).length ≤ ws.length * 8194 := by
  induction ws with
  | nil => simp [wbytes]
  | cons s ws ih =>
    have h1 := ih (fun s hs => h s (List.mem_cons_of_mem _ hs))
    have h2 := h s (List.mem_cons_self)
    simp only [wbytes, List.length_cons, List.length_append, sl_len]
    omega

set_option maxHeartbeats 400000 in
theorem woW_any (k a b : Int) (wa : Option Addr) (dv : Value) (n c : Nat) (ws : List ByteArray) (w : World) (hl : n = ws.length) (hn : n ≤ 256) (hr : Rd w wa (ws.map .string))
    (hs : ∀ s ∈ ws, s.size ≤ 8192) :
    Calls Try.prog 51 #[.agg #[], .agg #[.int .i64 k, .int .i64 a, .int .i64 b, .slice wa n c, dv]] w fun e w' =>
      ∃ A' c', e = .returned (.slice A' (wbytes ws).length c') ∧ w'.ownsRow w.heap.size 5 1 (.slice A' (wbytes ws).length c') (wbytes ws).length (bs (wbytes ws)) ∧ w.grownBy w' none := by
  have hr' := Lib.hid hr; clear hr
  have hl' := Lib.hid hl; clear hl
  have hs' := Lib.hid hs; clear hs
  go_enter Try.func51, Try.ntmps51
  go_wp2_with fail
  go_loopw [5, 11] (fun v i wr => ∃ j : Nat, j ≤ n ∧ i = .int .i64 j ∧ Hid (wr.ownsRow w.heap.size 5 1 v (wbytes (ws.take j)).length (bs (wbytes (ws.take j)))) ∧ Hid (w.grownBy wr none)) (fun _ i _ => n - (intOf i).toNat)
  case atStart => exact ⟨0, Nat.zero_le _, rfl, by exact World.ownsRow_nil _ _ _ _, by show World.grownBy _ _ _; repeat (first | exact World.grownBy.refl _ _ | apply g_alloc | apply g_drew)⟩
  case round =>
    obtain ⟨j, hj, rfl, ho, hg⟩ := hrel
    by_cases hlt : j < n
    · have hjl : j < ws.length := by rw [← hl'.out]; exact hlt
      obtain ⟨b, off, rfl, hb, hc⟩ := (hr'.out.grown hg.out (.inl rfl)).at_ (j := j) (u := .string ws[j]) (by simp [hjl])
      have hsj := hs'.out ws[j] (List.getElem_mem hjl)
      generalize hw : ws[j] = s at *
      have hw' := Lib.hid hw; clear hw
      have hlen := wbytes_len (ws.take j) (fun s hs => hs'.out s (List.mem_of_mem_take hs))
      have hlt2 : (ws.take j).length ≤ j := List.length_take_le _ _
      have hlen2 : (wbytes (ws.take j)).length ≤ 2097664 := Nat.le_trans hlen (Nat.le_trans (Nat.mul_le_mul_right _ (Nat.le_trans hlt2 (by omega : j ≤ 256))) (by decide))
      clear hlen hlt2
      have hw0 := hg.out.size
      have hnx : wbytes (ws.take (j + 1)) = wbytes (ws.take j) ++ [hi8 s.size, lo8 s.size] ++ sl s := by
        rw [List.take_succ_eq_append_getElem hjl, wbytes_append, hw'.out]; simp [wbytes]
      replace hnx := Lib.hid hnx
      have hRd : Rd (wr.alloc (.cells #[.int .u8 ((s.size : Int) / 256), .int .u8 ((s.size : Int) % 256)] 5)) (some ⟨wr.heap.size, 0, none⟩) [b8 (hi8 s.size), b8 (lo8 s.size)] := by
        rw [hi8_u8 s.size (by omega), lo8_u8 s.size]; exact Rd.new _ _ _
      replace hRd := Lib.hid hRd
      generalize wbytes (ws.take j) = l at *
      go_wp2_with (first
        | (at_builtin; refine ap5 rfl (.tmp 15) (.tmp 23) rfl w.heap.size u5 l.length _ rfl (ho.out.alloc _) _ 2 2 [b8 (hi8 s.size), b8 (lo8 s.size)] rfl rfl hRd.out (bs_one [_, _]) (by omega) (by simp; omega) ?_; intro A1 c1 w1 ho1 hg1 _)
        | (at_builtin; refine ap5s rfl (.tmp 25) (.tmp 26) rfl w.heap.size (.slice A1 (l.length + 2) c1) (l.length + 2) _ rfl ho1 s rfl (by omega) (by have := hg1.size; simp at this; omega) ?_; intro A2 c2 w2 ho2 hg2))
      have G := g_own (g_own (g_alloc hg.out _) ho.out (Nat.le_refl _) hg1) ho1 (Nat.le_refl _) hg2
      refine ⟨⟨j + 1, by omega, by go_num, ?_, G⟩, by simp [intOf]; omega⟩
      show World.ownsRow _ _ _ _ _ _ _
      rw [hnx.out, bs_append, bs_append]
      have e : (l ++ [hi8 s.size, lo8 s.size] ++ sl s).length = l.length + 2 + s.size := by simp [sl_len]; omega
      rw [e]
      exact ho2
    · obtain rfl : j = n := by omega
      go_wp2_with fail
      go_ret
      have h1 := ho.out
      rw [List.take_of_length_le (by rw [← hl'.out]; exact Nat.le_refl _)] at h1
      obtain ⟨A', c', e, _⟩ := Rd.of_own h1
      refine ⟨A', c', by rw [← e]; rfl, by rw [← e]; exact h1, hg.out⟩
end Go.Proofs.Ytdbjphabmdmjcaa
