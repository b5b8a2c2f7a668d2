/- Key: the decoder's small ones: Clone, NewDecoder, Wait. -/
import Derived.Test.YtncokbppijnfiaaGreatDoorC11
namespace Go.Proofs.YtncokbppijnfiaaGreatDoor
open Go.RowKit
set_option linter.unusedSimpArgs false
set_option linter.unusedVariables false

theorem info5 : (Tryz.prog.info? 5).map (fun i => (i.zero, i.size, i.bytes)) = some (some (.int .u8 0), 1, 1) := by kernel_rfl
theorem info40' : (Tryz.prog.info? 40).map (fun i => (i.zero, i.size, i.bytes)) = some (some (.agg #[.int .i64 0, .int .i64 0, .int .i64 0, .int .i64 0, .int .i64 0]), 5, 40) := by kernel_rfl
section
variable {ops : Array Oper} {rest : List Oper} {o : Oper} {a : Act} {Q : Exit → Act → World → Prop} {w : World}
/-- append at []byte. -/
theorem ap32 (hgd : o.guard = none) (s x : Operand) (ho : o.op = .call { callee := .builtin .append, args := #[s, x], argTypes := #[32, 32] })
    (base : Nat) (v : Value) (n : Nat) (xs : List Value) (hs : a.eval s = v) (hown : w.ownsRow base 5 1 v n xs)
    (A : Option Addr) (m c : Nat) (news : List Value) (hx : a.eval x = .slice A m c) (hl : news.length = m) (hr : Rd w A news) (h1 : ∀ u ∈ news, u.oneCell' = true)
    (hb : n + m ≤ 140737488355328) (hbase : base ≤ w.heap.size)
    (h : ∀ A' c' w', w'.ownsRow base 5 1 (.slice A' (n + m) c') (n + m) (xs ++ news) → w.grownBy w' v.ownBlock → (ablk A' = v.ownBlock ∨ ablk A' = some w.heap.size) → wpList Tryz.prog ops Q rest (a.put o.dst (.slice A' (n + m) c')) w') : wpList Tryz.prog ops Q (o :: rest) a w := by
  obtain ⟨i0, hi0, hz0, hz1, hz2⟩ := info_parts info5
  exact wpList_append_rd w hgd s x 32 ho base 5 i0 _ 1 1 Tryz.underlying32 hi0 hz0 hz1 hz2 rfl (by omega) v n xs hs hown A m c news hx (by omega) hr h1 (by unfold maxLen; omega) (by omega) hbase h
/-- append at []api.Mouse. -/
theorem ap34 (hgd : o.guard = none) (s x : Operand) (ho : o.op = .call { callee := .builtin .append, args := #[s, x], argTypes := #[34, 34] })
    (base : Nat) (v : Value) (n : Nat) (xs : List Value) (hs : a.eval s = v) (hown : w.ownsRow base 40 5 v n xs)
    (A : Option Addr) (m c : Nat) (news : List Value) (hx : a.eval x = .slice A m c) (hl : news.length = m * 5) (hr : Rd w A news) (h1 : ∀ u ∈ news, u.oneCell' = true)
    (hb : n + m ≤ 1099511627776) (hbase : base ≤ w.heap.size)
    (h : ∀ A' c' w', w'.ownsRow base 40 5 (.slice A' (n + m) c') (n + m) (xs ++ news) → w.grownBy w' v.ownBlock → (ablk A' = v.ownBlock ∨ ablk A' = some w.heap.size) → wpList Tryz.prog ops Q rest (a.put o.dst (.slice A' (n + m) c')) w') : wpList Tryz.prog ops Q (o :: rest) a w := by
  obtain ⟨i0, hi0, hz0, hz1, hz2⟩ := info_parts info40'
  exact wpList_append_rd w hgd s x 34 ho base 40 i0 _ 5 40 Tryz.underlying34 hi0 hz0 hz1 hz2 rfl (by omega) v n xs hs hown A m c news hx hl hr h1 (by unfold maxLen; omega) (by omega) hbase h
end
set_option maxHeartbeats 400000 in
theorem clone_any (A : Option Addr) (n c : Nat) (l : List UInt8) (w : World) (hl : n = l.length) (hn : n ≤ 140737488355328) (hr : Rd w A (bs l)) :
    Calls Tryz.prog 47 #[.slice A n c] w fun e w' => ∃ A' c', e = .returned (.slice A' n c') ∧ w'.ownsRow w.heap.size 5 1 (.slice A' n c') n (bs l) ∧ w.grownBy w' none := by
  have hr' := Lib.hid hr; clear hr
  have hl' := Lib.hid hl; clear hl
  rcases A with _ | ad
  · have hl0 : l = [] := by simpa [bs] using hr'.out.none_nil
    subst hl0
    have hn0 : n = 0 := hl'.out
    subst hn0
    have he := Lib.run_eql_slice_nil (P := Tryz.prog) w 32 5 none 0 c 0 0 Tryz.underlying32
    go_enter Tryz.func47, Tryz.ntmps47
    go_wp2_with fail
    go_ret
    exact ⟨none, 0, rfl, World.ownsRow_nil _ _ _ _, World.grownBy.refl _ _⟩
  · have he := Lib.run_eql_slice_nil (P := Tryz.prog) w 32 5 (some ad) n c 0 0 Tryz.underlying32
    have ho := World.ownsRow_lit (base := w.heap.size) (e := 5) (size := 1) w #[] 0 (Nat.le_refl _) (Nat.zero_le _) rfl
    have hr2 := hr'.out.alloc (.cells #[] 5)
    have ho := Lib.hid ho; have hr2 := Lib.hid hr2
    go_enter Tryz.func47, Tryz.ntmps47
    go_wp2_with (at_builtin; refine ap32 rfl (.tmp 5) (.tmp 6) rfl w.heap.size _ 0 [] rfl ho.out _ n c (bs l) rfl (by rw [bs_len, hl'.out]) hr2.out (bs_one l) (by omega) (by simp) ?_; intro A' c' w' h1 h2 h3)
    go_ret
    rw [Nat.zero_add] at h1
    refine ⟨A', c', by simp, by simpa using h1, ?_⟩
    have h4 : w.grownBy (w.alloc (.cells #[] 5)) (some w.heap.size) := World.grownBy_alloc _ _ _
    have h5 := h4.trans h2
    exact ⟨h5.os, h5.tape, h5.output, h5.size, fun k hk _ => h5.block k hk (by intro e; injection e with e; omega)⟩
/-- A decoder in the block p: its bytes are the slice s. -/
def DB (w : World) (p : Nat) (s : Value) : Prop := w.heap[p]? = some (.cells #[s] 54 (0, 0))
theorem newDec_any (w : World) : Calls Tryz.prog 9 #[] w fun e w' => e = .returned (.pointer (some ⟨w.heap.size, 0, none⟩)) ∧ w.grownBy w' none ∧ DB w' w.heap.size (.slice none 0 0) := by
  go_enter Tryz.func9, Tryz.ntmps9
  go_wp2_with fail
  go_ret
  exact ⟨rfl, World.grownBy_alloc _ _ _, heap_alloc_new _ _⟩
section
variable {w w' : World} {p : Nat} {s : Value}
theorem DB.lt (h : DB w p s) : p < w.heap.size := (Array.getElem?_eq_some_iff.1 h).1
theorem DB.grown (h : DB w p s) {r : Option Nat} (g : w.grownBy w' r) (hr : some p ≠ r) : DB w' p s := (g.block p h.lt hr).trans h
theorem DB.cell (h : DB w p s) : w.cell? ⟨p, 0, none⟩ = some s := by unfold DB at h; unfold World.cell?; rw [h]; rfl
theorem DB.free (h : DB w p s) : w.frozen? ⟨p, 0, none⟩ = false := by unfold DB at h; unfold World.frozen?; rw [h]; simp
theorem DB.set (h : DB w p s) (v : Value) : DB (w.setCell ⟨p, 0, none⟩ v) p v := heap_set h v
theorem DB.lit (h : w.heap[p]? = some (.cells #[s] 54 (0, 0))) : DB w p s := h
end
theorem wait_any (p n c : Nat) (A : Option Addr) (w : World) (h : DB w p (.slice A n c)) : Calls Tryz.prog 15 #[.pointer (some ⟨p, 0, none⟩)] w fun e w' => e = .returned (.bool (decide (0 < n))) ∧ w' = w := by
  have c0 := h.cell
  replace h := Lib.hid h
  go_enter Tryz.func15, Tryz.ntmps15
  go_wp2_with fail
  go_ret
  exact ⟨ret_bool (by simp; try omega), rfl⟩
end Go.Proofs.YtncokbppijnfiaaGreatDoor
