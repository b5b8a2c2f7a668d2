/- Layout: a node's cells, read and set. -/
import Derived.Test.YtcklmkjlbpjojaaDoorBase
import Derived.Test.YtcklmkjlbpjojaaDoorProg
import Derived.StillTailTactics
namespace Go.Proofs.YtcklmkjlbpjojaaDoor
open Go.RowKit
set_option linter.unusedSimpArgs false
set_option linter.unusedVariables false

section
variable {w : World} {up : Option Nat} {n : Nd} {ks : List T}
theorem At.cell (h : At w up n ks) (j : Nat) : w.cell? ⟨n.g, j, none⟩ = #[Value.int .i64 n.p, .int .i64 n.x, .int .i64 n.y, .int .i64 n.a, .int .i64 n.b, .int .i64 n.way, n.row ks.length, uptr up][j]? := by
  simp [World.cell?, h.h]
theorem At.free (h : At w up n ks) (j : Nat) : w.frozen? ⟨n.g, j, none⟩ = false := by
  simp [World.frozen?, h.h]
theorem At.c0 (h : At w up n ks) : w.cell? ⟨n.g, 0, none⟩ = some (.int .i64 n.p) := h.cell 0
theorem At.c1 (h : At w up n ks) : w.cell? ⟨n.g, 1, none⟩ = some (.int .i64 n.x) := h.cell 1
theorem At.c2 (h : At w up n ks) : w.cell? ⟨n.g, 2, none⟩ = some (.int .i64 n.y) := h.cell 2
theorem At.c3 (h : At w up n ks) : w.cell? ⟨n.g, 3, none⟩ = some (.int .i64 n.a) := h.cell 3
theorem At.c4 (h : At w up n ks) : w.cell? ⟨n.g, 4, none⟩ = some (.int .i64 n.b) := h.cell 4
theorem At.c5 (h : At w up n ks) : w.cell? ⟨n.g, 5, none⟩ = some (.int .i64 n.way) := h.cell 5
theorem At.c6 (h : At w up n ks) : w.cell? ⟨n.g, 6, none⟩ = some (.slice (adr n.A) ks.length n.c) := h.cell 6
theorem At.c7 (h : At w up n ks) : w.cell? ⟨n.g, 7, none⟩ = some (uptr up) := h.cell 7
theorem At.kid (h : At w up n ks) {i : Nat} {k : T} (hk : ks[i]? = some k) : ∃ b, n.A = some b ∧ w.cell? ⟨b, i, none⟩ = some (ptr k.g) := by
  rcases hA : n.A with _ | b
  · rcases h.r.2 with ⟨_, h0⟩ | ⟨g, cap, cur, hv, _⟩
    · have := (List.getElem?_eq_some_iff.1 hk).1; omega
    · simp [Nd.row, hA, adr] at hv
  · refine ⟨b, rfl, ?_⟩
    have := h.r.cells (g := b) (by rw [ownBlock_row, hA]) i (ptr k.g) (by simp [ptrs, hk])
    rwa [Addr.add_lit, Nat.zero_add] at this
theorem At.len (h : At w up n ks) : ks.length ≤ n.c ∧ n.c ≤ maxLen ∨ ks = [] := by
  rcases h.r.2 with ⟨_, h0⟩ | ⟨g, cap, cur, hv, _, _, hn, hm, _⟩
  · exact .inr (List.eq_nil_of_length_eq_zero h0)
  · simp only [Nd.row, Value.slice.injEq] at hv
    exact .inl ⟨by omega, by omega⟩
theorem At.small (h : At w up n ks) : ks.length ≤ 9223372036854775807 := by
  have hm : maxLen = 9223372036854775807 := rfl
  rcases h.len with h | h
  · omega
  · subst h; simp
end
end Go.Proofs.YtcklmkjlbpjojaaDoor
