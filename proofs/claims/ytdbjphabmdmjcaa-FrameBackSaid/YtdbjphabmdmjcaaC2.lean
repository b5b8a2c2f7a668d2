/- Contracts: slices.Clone, NewReader, Pending, two, IndexFunc, ContainsFunc, the worded codec's right and write. -/
import Derived.Test.YtdbjphabmdmjcaaC1
namespace Go.Proofs.Ytdbjphabmdmjcaa
open Go.RowKit
set_option linter.unusedSimpArgs false
set_option linter.unusedVariables false

theorem info5 : (Try.prog.info? 5).map (fun i => (i.zero, i.size, i.bytes)) = some (some (.int .u8 0), 1, 1) := by kernel_rfl
theorem info9 : (Try.prog.info? 9).map (fun i => (i.zero, i.size, i.bytes)) = some (some (.string ByteArray.empty), 1, 16) := by kernel_rfl


section
variable {ops : Array Oper} {rest : List Oper} {o : Oper} {a : Act} {Q : Exit → Act → World → Prop} {w : World}
/-- append at []byte. -/
theorem ap5 (hgd : o.guard = none) (s x : Operand) (ho : o.op = .call { callee := .builtin .append, args := #[s, x], argTypes := #[23, 23] })
    (base : Nat) (v : Value) (n : Nat) (xs : List Value) (hs : a.eval s = v) (hown : w.ownsRow base 5 1 v n xs)
    (A : Option Addr) (m c : Nat) (news : List Value) (hx : a.eval x = .slice A m c) (hl : news.length = m) (hr : Rd w A news) (h1 : ∀ u ∈ news, u.oneCell' = true)
    (hb : n + m ≤ 140737488355328) (hbase : base ≤ w.heap.size)
    (h : ∀ A' c' w', w'.ownsRow base 5 1 (.slice A' (n + m) c') (n + m) (xs ++ news) → w.grownBy w' v.ownBlock → (ablk A' = v.ownBlock ∨ ablk A' = some w.heap.size) → wpList Try.prog ops Q rest (a.put o.dst (.slice A' (n + m) c')) w') : wpList Try.prog ops Q (o :: rest) a w := by
  obtain ⟨i0, hi0, hz0, hz1, hz2⟩ := info_parts info5
  exact wpList_append_rd w hgd s x 23 ho base 5 i0 _ 1 1 Try.underlying23 hi0 hz0 hz1 hz2 rfl (by omega) v n xs hs hown A m c news hx (by omega) hr h1 (by unfold maxLen; omega) (by omega) hbase h
theorem ap9 (hgd : o.guard = none) (s x : Operand) (ho : o.op = .call { callee := .builtin .append, args := #[s, x], argTypes := #[22, 22] })
    (base : Nat) (v : Value) (n : Nat) (xs : List Value) (hs : a.eval s = v) (hown : w.ownsRow base 9 1 v n xs)
    (A : Option Addr) (m c : Nat) (news : List Value) (hx : a.eval x = .slice A m c) (hl : news.length = m) (hr : Rd w A news) (h1 : ∀ u ∈ news, u.oneCell' = true)
    (hb : n + m ≤ 8796093022208) (hbase : base ≤ w.heap.size)
    (h : ∀ A' c' w', w'.ownsRow base 9 1 (.slice A' (n + m) c') (n + m) (xs ++ news) → w.grownBy w' v.ownBlock → (ablk A' = v.ownBlock ∨ ablk A' = some w.heap.size) → wpList Try.prog ops Q rest (a.put o.dst (.slice A' (n + m) c')) w') : wpList Try.prog ops Q (o :: rest) a w := by
  obtain ⟨i0, hi0, hz0, hz1, hz2⟩ := info_parts info9
  exact wpList_append_rd w hgd s x 22 ho base 9 i0 _ 1 16 Try.underlying22 hi0 hz0 hz1 hz2 rfl (by omega) v n xs hs hown A m c news hx (by omega) hr h1 (by unfold maxLen; omega) (by omega) hbase h
/-- append(b, s...) of a string's bytes. -/
theorem ap5s (hgd : o.guard = none) (s x : Operand) (ho : o.op = .call { callee := .builtin .append, args := #[s, x], argTypes := #[23, 9] })
    (base : Nat) (v : Value) (n : Nat) (xs : List Value) (hs : a.eval s = v) (hown : w.ownsRow base 5 1 v n xs)
    (b : ByteArray) (hx : a.eval x = .string b) (hb : n + b.size ≤ 140737488355328) (hbase : base ≤ w.heap.size)
    (h : ∀ A' c' w', w'.ownsRow base 5 1 (.slice A' (n + b.size) c') (n + b.size) (xs ++ bs (sl b)) → w.grownBy w' v.ownBlock → wpList Try.prog ops Q rest (a.put o.dst (.slice A' (n + b.size) c')) w') : wpList Try.prog ops Q (o :: rest) a w := by
  obtain ⟨i0, hi0, hz0, hz1, hz2⟩ := info_parts info5
  exact Lib.wpList_append_own_string w hgd s x 23 9 ho base 5 i0 Try.underlying23 Try.underlying9 hi0 hz0 hz1 hz2 v n xs hs hown b hx (by unfold maxLen; omega) hb hbase fun v' w' h1 h2 _ => by
    obtain ⟨A', c', rfl, _⟩ := Rd.of_own h1
    exact h A' c' w' h1 h2
end

set_option maxHeartbeats 400000 in
theorem clone_any (A : Option Addr) (n c : Nat) (l : List UInt8) (w : World) (hl : n = l.length) (hn : n ≤ 140737488355328) (hr : Rd w A (bs l)) :
    Calls Try.prog 27 #[.slice A n c] w fun e w' => ∃ A' c', e = .returned (.slice A' n c') ∧ w'.ownsRow w.heap.size 5 1 (.slice A' n c') n (bs l) ∧ w.grownBy w' none := by
  have hr' := Lib.hid hr; clear hr
  have hl' := Lib.hid hl; clear hl
  rcases A with _ | ad
  · have hl0 : l = [] := by simpa [bs] using hr'.out.none_nil
    subst hl0
    have hn0 : n = 0 := hl'.out
    subst hn0
    have he := Lib.run_eql_slice_nil (P := Try.prog) w 23 5 none 0 c 0 0 Try.underlying23
    go_enter Try.func27, Try.ntmps27
    go_wp2_with fail
    go_ret
    exact ⟨none, 0, rfl, World.ownsRow_nil _ _ _ _, World.grownBy.refl _ _⟩
  · have he := Lib.run_eql_slice_nil (P := Try.prog) w 23 5 (some ad) n c 0 0 Try.underlying23
    have ho := World.ownsRow_lit (base := w.heap.size) (e := 5) (size := 1) w #[] 0 (Nat.le_refl _) (Nat.zero_le _) rfl
    have hr2 := hr'.out.alloc (.cells #[] 5)
    have ho := Lib.hid ho; have hr2 := Lib.hid hr2
    go_enter Try.func27, Try.ntmps27
    go_wp2_with (at_builtin; refine ap5 rfl (.tmp 5) (.tmp 6) rfl w.heap.size _ 0 [] rfl ho.out _ n c (bs l) rfl (by rw [bs_len, hl'.out]) hr2.out (bs_one l) (by omega) (by simp) ?_; intro A' c' w' h1 h2 h3)
    go_ret
    rw [Nat.zero_add] at h1
    refine ⟨A', c', by simp, by simpa using h1, ?_⟩
    have h4 : w.grownBy (w.alloc (.cells #[] 5)) (some w.heap.size) := World.grownBy_alloc _ _ _
    have h5 := h4.trans h2
    exact ⟨h5.os, h5.tape, h5.output, h5.size, fun k hk _ => h5.block k hk (by intro e; injection e with e; omega)⟩
end Go.Proofs.Ytdbjphabmdmjcaa
