/- Contract: the reference's words. -/
import Derived.Test.YtdbjphabmdmjcaaC9
import Derived.Lib.Strings
namespace Go.Proofs.Ytdbjphabmdmjcaa
open Go.RowKit
set_option linter.unusedSimpArgs false
set_option linter.unusedVariables false

def WdPost (w : World) (l : List UInt8) (e : Ending) (w' : World) : Prop :=
  w.grownBy w' none ∧ ((∃ ws v, small ws ∧ wbytes ws = l ∧ e = .returned (.tuple #[v, .bool true]) ∧ w'.ownsRow w.heap.size 9 1 v ws.length (ws.map .string)) ∨
       ((¬ ∃ ws, small ws ∧ wbytes ws = l) ∧ e = .returned (.tuple #[.slice none 0 0, .bool false])))
theorem g_dn {w w' : World} {row : Option Nat} (h : w.grownBy w' row) (k : Nat) : w.grownBy (w'.drewN k) row := ⟨h.os, h.tape, h.output, h.size, h.block⟩
def zlen : Value → Nat | .string b => b.size | _ => 0
theorem toList_sl (t : ByteArray) : t.toList = sl t := by
  obtain ⟨d⟩ := t
  have := ByteArray.toList_mk d.toList
  simpa [sl] using this
theorem isEmpty_of (t : ByteArray) : t.toList.isEmpty = decide (t.size = 0) := by
  rw [toList_sl]
  have h := sl_len t
  rcases hs : sl t with _ | ⟨a, r⟩
  · rw [hs] at h; simp at h; simp [← h]
  · rw [hs] at h; simp at h; simp [← h]
theorem sl_two (t : ByteArray) (h0 : 0 < t.size) (h1 : 1 < t.size) : ∃ r, sl t = t[0] :: t[1] :: r ∧ r.length + 2 = t.size := by
  have h := sl_len t
  rcases hs : sl t with _ | ⟨a, _ | ⟨b, r⟩⟩
  · rw [hs] at h; simp at h; omega
  · rw [hs] at h; simp at h; omega
  · refine ⟨r, ?_, by rw [hs] at h; simpa using h⟩
    have e0 : (sl t)[0]? = some a := by rw [hs]; rfl
    have e1 : (sl t)[1]? = some b := by rw [hs]; rfl
    have k0 : (sl t)[0]? = some t[0] := by
      rw [List.getElem?_eq_getElem (by rw [sl_len]; exact h0)]; simp [sl]; rfl
    have k1 : (sl t)[1]? = some t[1] := by
      rw [List.getElem?_eq_getElem (by rw [sl_len]; exact h1)]; simp [sl]; rfl
    rw [k0] at e0; rw [k1] at e1
    injection e0 with e0; injection e1 with e1
    rw [e0, e1]
theorem sl_drop (s : ByteArray) (n : Nat) : sl (s.extract n s.size) = (sl s).drop n := by
  have e := Lib.extract_data s n s.size
  have h := sl_len s
  unfold sl at h ⊢
  rw [e, List.take_of_length_le (by rw [List.length_drop, h]; exact Nat.le_refl _)]
theorem sl_ext (s : ByteArray) (m n : Nat) : sl (s.extract m n) = ((sl s).take n).drop m := by
  have e := Lib.extract_data s m n
  unfold sl
  rw [e, List.drop_take]

set_option maxRecDepth 100000 in
set_option maxHeartbeats 400000 in
theorem words_any (s : ByteArray) (w : World) (hs : s.size ≤ 1000000) :
    Calls Try.prog 29 #[.string s] w (WdPost w (sl s)) := by
  go_enter Try.func29, Try.ntmps29
  go_wp2_with fail
  go_loopw [0, 4] (fun u v wr => ∃ t ws, u = .string t ∧ Hid (small ws) ∧ Hid (sl s = wbytes ws ++ sl t) ∧ Hid (w.grownBy wr none) ∧ Hid (wr.ownsRow w.heap.size 9 1 v ws.length (ws.map .string)) ∧ t.size ≤ s.size ∧ ws.length + t.size ≤ s.size) (fun u _ _ => zlen u)
  case atStart => exact ⟨s, [], rfl, (show small [] from fun _ h => absurd h List.not_mem_nil), rfl, World.grownBy.refl _ _, World.ownsRow_nil _ _ _ _, Nat.le_refl _, by simp⟩
  case round =>
    obtain ⟨t, ws, rfl, hsm, hl, hg, ho, hts, hlen⟩ := hrel
    obtain ⟨A1, c1, rfl, _, _, _, _⟩ := Rd.of_own ho.out
    have he := isEmpty_of t
    by_cases h0 : t.size = 0
    · have ht0 : sl t = [] := List.eq_nil_of_length_eq_zero (by rw [sl_len]; exact h0)
      replace ht0 := Lib.hid ht0
      have hd : decide (t.size = 0) = true := by simp [h0]
      rw [hd] at he
      clear h0 hd
      go_wp2_with fail
      go_ret2
      refine ⟨hg.out, .inl ⟨ws, _, hsm.out, ?_, rfl, ho.out⟩⟩
      rw [hl.out, ht0.out, List.append_nil]
    · have hd : decide (t.size = 0) = false := by simp [h0]
      rw [hd] at he
      clear hd
      by_cases h2 : t.size < 2
      · have h2' : (t.size : Int) < 2 := by omega
        go_wp2_with fail
        go_ret2
        refine ⟨hg.out, .inr ⟨?_, rfl⟩⟩
        rw [hl.out]
        exact wb_short ws (sl t) hsm.out (by rw [sl_len]; omega)
      · have h2' : ¬ (t.size : Int) < 2 := by omega
        have i0 : 0 < t.size := by omega
        have i1 : 1 < t.size := by omega
        have j1 : (1 : Int) < t.size := by omega
        obtain ⟨r, htr, hrl⟩ := sl_two t i0 i1
        obtain ⟨x, hx⟩ : ∃ x, t[0] = x := ⟨_, rfl⟩
        obtain ⟨y, hy⟩ : ∃ y, t[1] = y := ⟨_, rfl⟩
        rw [hx, hy] at htr
        have bx := x.toNat_lt; have by_ := y.toNat_lt
        obtain ⟨q, hq⟩ : ∃ q : Nat, q = x.toNat * 256 + y.toNat := ⟨_, rfl⟩
        have z0 : IntKind.i64.wrap ↑x.toNat = ↑x.toNat := IntWalk.i64_in _ (by omega)
        have z1 : IntKind.i64.wrap ↑y.toNat = ↑y.toNat := IntWalk.i64_in _ (by omega)
        have z2 : IntKind.i64.wrap (↑x.toNat * 256) = ↑x.toNat * 256 := IntWalk.i64_in _ (by omega)
        have z3 : IntKind.i64.wrap (↑x.toNat * 256 + ↑y.toNat) = (q : Int) := by rw [IntWalk.i64_in _ (by omega)]; omega
        have hq6 : q < 65536 := by omega
        replace htr := Lib.hid htr; replace hq := Lib.hid hq; replace hrl := Lib.hid hrl
        go_wp2_with fail
        go_quiet (fail)
        clear hx hy z0 z1 z2 z3 he
        by_cases h3 : t.size < 2 + q
        · have h3' : (t.size : Int) < 2 + q := by omega
          go_wp2_with fail
          go_ret2
          refine ⟨g_dn hg.out _, .inr ⟨?_, rfl⟩⟩
          rw [hl.out, htr.out]
          exact wb_long ws x y r hsm.out (by have := hq.out; have := hrl.out; omega)
        · have h3' : ¬ (t.size : Int) < 2 + q := by omega
          have n3 : (2 : Int) + q ≤ t.size := by omega
          have h263 : (2 : Int) ≤ 2 + q := by omega
          go_wp2_with (first
            | (at_builtin; go_must (refine ap9 rfl (.tmp 24) (.tmp 29) rfl w.heap.size (.slice A1 ws.length c1) ws.length _ rfl (own_keep ho.out ((g_dn (World.grownBy.refl wr none) nq).trans (World.grownBy_alloc _ _ none))) _ 1 1 [.string (t.extract 2 (2 + q))] rfl rfl (Rd.new _ _ _) (str_one _) (by omega) (by have := hg.out.size; simp; omega) ?_; intro A2 c2 w2 O2 G2 hh2))
            | fail)
          have hu : (t.extract 2 (2 + q)).size = q := by
            rw [← sl_len, sl_ext, htr.out]
            simp
            have := hrl.out; omega
          have hv : (t.extract (2 + q) t.size).size = t.size - (2 + q) := by
            rw [← sl_len, sl_drop, List.length_drop, sl_len]
          refine ⟨⟨_, ws ++ [t.extract 2 (2 + q)], rfl, ?_, ?_, ?_, ?_, ?_, ?_⟩, ?_⟩
          · intro u hm
            rcases List.mem_append.1 hm with hm | hm
            · exact hsm.out u hm
            · simp only [List.mem_singleton] at hm; rw [hm, hu]; exact hq6
          · show _ = _
            rw [wbytes_append, hl.out, sl_drop, htr.out, List.append_assoc]
            simp only [wbytes, List.append_nil]
            rw [sl_ext, htr.out, hu, hq.out, (hilo x y).1, (hilo x y).2, ← hq.out]
            have e1 : 2 + q = q + 1 + 1 := by omega
            rw [e1]
            simp
          · exact g_own (g_alloc (g_dn hg.out nq) _) (own_keep ho.out ((g_dn (World.grownBy.refl wr none) nq).trans (World.grownBy_alloc _ (.cells #[.string (t.extract 2 (2 + q))] 9) none))) (Nat.le_refl _) G2
          · show World.ownsRow _ _ _ _ _ _ _
            simpa using O2
          · rw [hv]; omega
          · rw [hv, List.length_append]; simp; omega
          · show (t.extract (2 + q) t.size).size < t.size
            rw [hv]; omega
end Go.Proofs.Ytdbjphabmdmjcaa
