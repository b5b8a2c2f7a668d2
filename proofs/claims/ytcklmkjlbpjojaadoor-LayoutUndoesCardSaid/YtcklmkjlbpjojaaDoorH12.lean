/- Layout: Close behind Split, out of Split's own word. No walk. -/
import Derived.Test.YtcklmkjlbpjojaaDoorH11
namespace Go.Proofs.YtcklmkjlbpjojaaDoor
open Go.RowKit
set_option linter.unusedSimpArgs false
set_option linter.unusedVariables false

theorem T.leaves_pos (t : T) : 1 ≤ t.leaves.length := by
  induction t using T.ind with
  | h n ks ih =>
    rw [T.leaves_mk]
    cases ks with
    | nil => simp
    | cons k ks => have := ih k (by simp); rw [leavesL_cons]; simp; omega
theorem leavesL_ge : ∀ ks : List T, ks.length ≤ (leavesL ks).length
  | [] => by simp
  | k :: ks => by have := k.leaves_pos; have := leavesL_ge ks; rw [leavesL_cons]; simp; omega
theorem leaves_er (t : T) : t.leaves.length = t.er.ps.length := by rw [← T.leaves_ps]; simp
theorem close_behind {base tr : Nat} {k pane other size : Int} {t t' : T} (beside : Bool) (w w' : World) (e : Ending) (hF : Fine t k) (hbase : base ≤ w.heap.size)
    (hl : t.leaves.length ≤ 900) (hP : SplitPost base tr t pane other size beside false w e w') :
    ∃ (err : Int) (t' : T), e = .returned (.int .i64 err) ∧ Tr base w' tr t' ∧ Below base w w' ∧
      ((err ≠ 0 ∧ t' = t) ∨ (err = 0 ∧ Fine t' other ∧ t'.er.ps.Perm (other :: t.er.ps) ∧
        ∀ W, Tr base W tr t' → base ≤ W.heap.size → Calls Tryd.prog 14 #[ptr tr, .int .i64 other] W fun e w' => e = .returned (.int .i64 0) ∧ Below base W w' ∧ ∃ t2 : T, Tr base w' tr (t2.place 0 0) ∧ t2.er = t.er)) := by
  obtain ⟨err, t', he, hT, hB, h⟩ := hP
  refine ⟨err, t', he, hT, hB, ?_⟩
  rcases h with h | ⟨h0, hF', hperm, c, l, a', b', na, nb, f, c0, f', l', n', ht, hlk, hfind, ht', hf, hw, hl', hn', hc, hz, h1⟩
  · exact .inl h
  · refine .inr ⟨h0, hF', hperm, fun W hW hbW => ?_⟩
    have hlv : t'.leaves.length = t.leaves.length + 1 := by rw [leaves_er, leaves_er, hperm.length_eq]; simp
    have hks : f.L ++ (if false = true then [T.mk n' [], T.mk l' []] else [T.mk l' [], T.mk n' []]) ++ f.R = f.L ++ .mk l' [] :: .mk n' [] :: f.R := by simp
    rw [hks] at ht'
    have hlen : f.L.length + f.R.length + 2 ≤ 1000 := by
      have h2 : (plug c0 (.mk f' (f.L ++ .mk l' [] :: .mk n' [] :: f.R))).leaves.length = t'.leaves.length := by rw [ht', leaves_er, leaves_er, T.place_er]
      obtain ⟨A, B, hAB⟩ := leaves_ctx c0
      rw [hAB, T.leaves_mk] at h2
      have h3 := leavesL_ge (f.L ++ .mk l' [] :: .mk n' [] :: f.R)
      simp only [List.length_append, List.length_cons] at h2 h3
      omega
    have hla : l.n.a ≤ 60 ∧ l.n.b ≤ 60 := by
      obtain ⟨A, hA⟩ := nds_ctx c
      have hm : l.n ∈ t.nds := by rw [ht]; exact (hA l l.n).2 (.inr (by cases l; rw [T.nds_mk]; simp [T.n]))
      have := nds_ok t hF.ok l.n hm
      have := hF.sz
      omega
    refine close_split (k := k) beside W hW hbW hF hF' (by omega) hlen ht hlk ht' hf hw hl' hn' ?_ hz h1 hla
    rcases hc with h | h
    · exact .inl h
    · exact .inr ⟨h.2.1, h.2.2.1, h.2.2.2.1⟩
end Go.Proofs.YtcklmkjlbpjojaaDoor
