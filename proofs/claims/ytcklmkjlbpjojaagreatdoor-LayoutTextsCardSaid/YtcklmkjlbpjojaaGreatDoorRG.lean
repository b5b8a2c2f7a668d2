/- Layout: the reference's nodes in memory. No walk. Layout: the reference's Leaves, leaf. Layout: the reference's leaf, New, place. Layout: the reference's Sum, digits, body, four, Print. -/
import Derived.Test.YtcklmkjlbpjojaaGreatDoorC2
import Derived.Test.YtcklmkjlbpjojaaGreatDoorC4
import Derived.Test.YtcklmkjlbpjojaaGreatDoorC5
import Derived.Test.YtcklmkjlbpjojaaGreatDoorF0
import Derived.Test.YtcklmkjlbpjojaaGreatDoorC8
import Derived.Deep.RegionHeld3
import Derived.BigQuiet
namespace Go.Proofs.YtcklmkjlbpjojaaGreatDoor
open Go.RowKit
set_option linter.unusedSimpArgs false
set_option linter.unusedVariables false

/-- Beside: of a split alone. -/
def bsd (n : Nd) (k : Nat) : Bool := k != 0 && n.way == 0
/-- A node of the reference in memory. -/
structure RAt (w : World) (n : Nd) (ks : List T) : Prop where
  h : w.heap[n.g]? = some (.cells #[.int .i64 n.p, .int .i64 n.x, .int .i64 n.y, .int .i64 n.a, .int .i64 n.b, .bool (bsd n ks.length), n.row ks.length] 55 (0, 0))
  r : w.ownsRow 0 52 1 (n.row ks.length) ks.length (ptrs ks)
mutual
/-- The tree t lies in memory as one of the reference's. -/
def RP (w : World) : T → Prop
  | .mk n ks => RAt w n ks ∧ RPs w ks
def RPs (w : World) : List T → Prop
  | [] => True
  | k :: ks => RP w k ∧ RPs w ks
end
theorem RPs_iff {w : World} : ∀ {ks : List T}, RPs w ks ↔ ∀ k ∈ ks, RP w k
  | [] => by simp [RPs]
  | k :: ks => by rw [RPs, RPs_iff]; simp
theorem RP.mk {w : World} {n : Nd} {ks : List T} (h : RAt w n ks) (hk : RPs w ks) : RP w (.mk n ks) := by rw [RP]; exact ⟨h, hk⟩
theorem RP.at_ {w : World} {n : Nd} {ks : List T} (h : RP w (.mk n ks)) : RAt w n ks := by rw [RP] at h; exact h.1
theorem RP.kids {w : World} {n : Nd} {ks : List T} (h : RP w (.mk n ks)) : RPs w ks := by rw [RP] at h; exact h.2
section
variable {w w' : World} {n : Nd} {ks : List T}
theorem RAt.lt (h : RAt w n ks) : ∀ b ∈ n.g :: n.A.toList, b < w.heap.size := by
  intro b hb
  rcases List.mem_cons.1 hb with rfl | hb
  · exact lt_of_heap h.h
  · exact (h.r.lt b (by rw [ownBlock_row]; simpa using hb)).2
theorem RAt.same (h : RAt w n ks) (hs : ∀ b ∈ n.g :: n.A.toList, w'.heap[b]? = w.heap[b]?) : RAt w' n ks :=
  ⟨by rw [hs n.g (by simp)]; exact h.h, own_same h.r fun b hb => hs b (by rw [ownBlock_row] at hb; simp [hb])⟩
theorem RAt.cell (h : RAt w n ks) (j : Nat) : w.cell? ⟨n.g, j, none⟩ = #[Value.int .i64 n.p, .int .i64 n.x, .int .i64 n.y, .int .i64 n.a, .int .i64 n.b, .bool (bsd n ks.length), n.row ks.length][j]? := by
  simp [World.cell?, h.h]
theorem RAt.free (h : RAt w n ks) (j : Nat) : w.frozen? ⟨n.g, j, none⟩ = false := by
  simp [World.frozen?, h.h]
theorem RAt.c0 (h : RAt w n ks) : w.cell? ⟨n.g, 0, none⟩ = some (.int .i64 n.p) := h.cell 0
theorem RAt.c1 (h : RAt w n ks) : w.cell? ⟨n.g, 1, none⟩ = some (.int .i64 n.x) := h.cell 1
theorem RAt.c2 (h : RAt w n ks) : w.cell? ⟨n.g, 2, none⟩ = some (.int .i64 n.y) := h.cell 2
theorem RAt.c3 (h : RAt w n ks) : w.cell? ⟨n.g, 3, none⟩ = some (.int .i64 n.a) := h.cell 3
theorem RAt.c4 (h : RAt w n ks) : w.cell? ⟨n.g, 4, none⟩ = some (.int .i64 n.b) := h.cell 4
theorem RAt.c5 (h : RAt w n ks) : w.cell? ⟨n.g, 5, none⟩ = some (.bool (bsd n ks.length)) := h.cell 5
theorem RAt.c6 (h : RAt w n ks) : w.cell? ⟨n.g, 6, none⟩ = some (.slice (adr n.A) ks.length n.c) := h.cell 6
theorem RAt.kid (h : RAt w n ks) {i : Nat} {k : T} (hk : ks[i]? = some k) : ∃ b, n.A = some b ∧ w.cell? ⟨b, i, none⟩ = some (ptr k.g) := by
  rcases hA : n.A with _ | b
  · rcases h.r.2 with ⟨_, h0⟩ | ⟨g, cap, cur, hv, _⟩
    · have := (List.getElem?_eq_some_iff.1 hk).1; omega
    · simp [Nd.row, hA, adr] at hv
  · refine ⟨b, rfl, ?_⟩
    have := h.r.cells (g := b) (by rw [ownBlock_row, hA]) i (ptr k.g) (by simp [ptrs, hk])
    rwa [Addr.add_lit, Nat.zero_add] at this
theorem RAt.len (h : RAt w n ks) : ks.length ≤ n.c ∧ n.c ≤ maxLen ∨ ks = [] := by
  rcases h.r.2 with ⟨_, h0⟩ | ⟨g, cap, cur, hv, _, _, hn, hm, _⟩
  · exact .inr (List.eq_nil_of_length_eq_zero h0)
  · simp only [Nd.row, Value.slice.injEq] at hv
    exact .inl ⟨by omega, by omega⟩
theorem RAt.small (h : RAt w n ks) : ks.length ≤ 9223372036854775807 := by
  have hm : maxLen = 9223372036854775807 := rfl
  rcases h.len with h | h
  · omega
  · subst h; simp
end
theorem RP.same {w w' : World} : ∀ (t : T), RP w t → (∀ b ∈ t.bl, w'.heap[b]? = w.heap[b]?) → RP w' t := by
  intro t
  induction t using T.ind with
  | h n ks ih =>
    intro h hs
    rw [T.bl_mk] at hs
    refine .mk (h.at_.same fun b hb => hs b ?_) (RPs_iff.2 fun k hk => ih k hk (RPs_iff.1 h.kids k hk) fun b hb => hs b ?_)
    · rcases List.mem_cons.1 hb with rfl | hb
      · simp
      · simp [List.mem_append, Option.mem_toList.1 hb]
    · simp only [List.mem_cons, List.mem_append]
      exact .inr (.inr (mem_blL.2 ⟨k, hk, hb⟩))
theorem RP.lt {w : World} : ∀ (t : T), RP w t → ∀ b ∈ t.bl, b < w.heap.size := by
  intro t
  induction t using T.ind with
  | h n ks ih =>
    intro h b hb
    rw [T.bl_mk] at hb
    simp only [List.mem_cons, List.mem_append] at hb
    rcases hb with rfl | hb | hb
    · exact h.at_.lt _ (by simp)
    · exact h.at_.lt _ (by simp [Option.mem_toList.1 hb])
    · obtain ⟨k, hk, hb⟩ := mem_blL.1 hb
      exact ih k hk (RPs_iff.1 h.kids k hk) b hb
theorem RP.off {w w' : World} {S : List Nat} {t : T} (h : RP w t) (ho : Off S w w') (hd : ∀ b ∈ t.bl, b ∉ S) : RP w' t :=
  h.same _ fun b hb => ho.block b (h.lt _ b hb) (hd b hb)
theorem RPs.off {w w' : World} {S : List Nat} {ks : List T} (h : RPs w ks) (ho : Off S w w') (hd : ∀ b ∈ blL ks, b ∉ S) : RPs w' ks :=
  RPs_iff.2 fun k hk => (RPs_iff.1 h k hk).off ho fun b hb => hd b (mem_blL.2 ⟨k, hk, hb⟩)
theorem RP.grown {w w' : World} {t : T} (h : RP w t) (ho : w.grownBy w' none) : RP w' t :=
  h.same _ fun b hb => ho.block b (h.lt _ b hb) (by simp)
theorem RPs.grown {w w' : World} {ks : List T} (h : RPs w ks) (ho : w.grownBy w' none) : RPs w' ks :=
  RPs_iff.2 fun k hk => (RPs_iff.1 h k hk).grown ho
/-- A tree of the reference and its handle. -/
structure RTr (w : World) (tr : Nat) (t : T) : Prop where
  h : w.heap[tr]? = some (.cells #[ptr t.g] 57 (0, 0))
  p : RP w t
  nd : t.bl.Nodup
  nt : tr ∉ t.bl
theorem RTr.lt {tr : Nat} {w : World} {t : T} (h : RTr w tr t) : tr < w.heap.size := lt_of_heap h.h
theorem RTr.grown {tr : Nat} {w w' : World} {t : T} (h : RTr w tr t) (hg : w.grownBy w' none) : RTr w' tr t :=
  ⟨(hg.block tr (lt_of_heap h.h) (by simp)).trans h.h, h.p.grown hg, h.nd, h.nt⟩
theorem RTr.off {tr : Nat} {w w' : World} {S : List Nat} {t : T} (h : RTr w tr t) (ho : Off S w w') (h0 : tr ∉ S) (hd : ∀ b ∈ t.bl, b ∉ S) : RTr w' tr t :=
  ⟨(ho.block tr (lt_of_heap h.h) h0).trans h.h, h.p.off ho hd, h.nd, h.nt⟩
theorem RTr.c0 {tr : Nat} {w : World} {t : T} (h : RTr w tr t) : w.cell? ⟨tr, 0, none⟩ = some (ptr t.g) := by simp [World.cell?, h.h]
end Go.Proofs.YtcklmkjlbpjojaaGreatDoor
namespace Go.Proofs.YtcklmkjlbpjojaaGreatDoor
open Go.RowKit
set_option linter.unusedSimpArgs false
set_option linter.unusedVariables false

theorem info52 : (Tryz.prog.info? 52).map (fun i => (i.zero, i.size, i.bytes)) = some (some (.pointer none), 1, 8) := by kernel_rfl
section
variable {ops : Array Oper} {rest : List Oper} {o : Oper} {a : Act} {Q : Exit → Act → World → Prop} {w : World}
/-- append at []*Node. -/
theorem apR (hgd : o.guard = none) (s x : Operand) (ho : o.op = .call { callee := .builtin .append, args := #[s, x], argTypes := #[53, 53] })
    (base : Nat) (v : Value) (n : Nat) (xs : List Value) (hs : a.eval s = v) (hown : w.ownsRow base 52 1 v n xs)
    (A : Option Addr) (m c : Nat) (news : List Value) (hx : a.eval x = .slice A m c) (hl : news.length = m) (hr : Rd w A news) (h1 : ∀ u ∈ news, u.oneCell' = true)
    (hb : n + m ≤ 1099511627776) (hbase : base ≤ w.heap.size)
    (h : ∀ A' c' w', w'.ownsRow base 52 1 (.slice A' (n + m) c') (n + m) (xs ++ news) → w.grownBy w' v.ownBlock → (ablk A' = v.ownBlock ∨ ablk A' = some w.heap.size) → wpList Tryz.prog ops Q rest (a.put o.dst (.slice A' (n + m) c')) w') : wpList Tryz.prog ops Q (o :: rest) a w := by
  obtain ⟨i0, hi0, hz0, hz1, hz2⟩ := info_parts info52
  exact wpList_append_rd w hgd s x 53 ho base 52 i0 _ 1 8 Tryz.underlying53 hi0 hz0 hz1 hz2 rfl (by omega) v n xs hs hown A m c news hx (by omega) hr h1 (by unfold maxLen; omega) (by omega) hbase h
end

theorem grown_own {w w1 w2 : World} {r : Option Nat} (h : w.grownBy w1 none) (k : w1.grownBy w2 r) (hr : ∀ b, r = some b → w.heap.size ≤ b) : w.grownBy w2 none :=
  ⟨k.os.trans h.os, k.tape.trans h.tape, k.output.trans h.output, Nat.le_trans h.size k.size, fun b hb _ =>
    (k.block b (Nat.lt_of_lt_of_le hb h.size) (fun e => by have := hr b e.symm; omega)).trans (h.block b hb (by simp))⟩
theorem own_kept {w w1 : World} {base size m : Nat} {e : TypeId} {v : Value} {xs : List Value} (h : w.ownsRow base e size v m xs) (g : w.grownBy w1 none) : w1.ownsRow base e size v m xs :=
  own_same h fun b hb => g.block b (h.lt b hb).2 (by simp)
/-- The loop over a node's kids: the leaves of those ahead are in a row of the call's own. -/
structure LvI (w : World) (ks : List T) (j m : Nat) (v : Value) (wr : World) : Prop where
  ln : m = (leavesL (ks.take j)).length
  r : wr.ownsRow w.heap.size 52 1 v m (ptrs (leavesL (ks.take j)))
  g : w.grownBy wr none

set_option maxHeartbeats 1000000 in
set_option maxRecDepth 100000 in
theorem leavesR_any : ∀ (t : T) (w : World), RP w t → t.leaves.length ≤ 100000 →
    Calls Tryz.prog 35 #[ptr t.g] w fun e w' => ∃ A c, e = .returned (.slice A t.leaves.length c) ∧ w'.ownsRow w.heap.size 52 1 (.slice A t.leaves.length c) t.leaves.length (ptrs t.leaves) ∧ w.grownBy w' none := by
  intro t
  induction t using T.ind with
  | h n ks ih =>
    intro w hT hlen
    have hAt := hT.at_
    have hK := hT.kids
    have c6 := hAt.c6
    have hsm := hAt.small
    have hAlt : ∀ b, n.A = some b → b < w.heap.size := fun b hb => hAt.lt _ (by simp [hb])
    have hglt : n.g < w.heap.size := hAt.lt _ (by simp)
    show Calls Tryz.prog 35 #[ptr n.g] w _
    by_cases h0 : ks = []
    · subst h0
      have hl1 : (T.mk n []).leaves = [T.mk n []] := by rw [T.leaves_mk, leavesL_nil]; rfl
      rw [hl1]
      clear hsm hK ih hT hAt hlen
      unfold ptr
      simp only [List.length_nil] at c6
      go_enter Tryz.func35, Tryz.ntmps35
      go_wp2_with fail
      go_ret
      refine ⟨some ⟨w.heap.size, 0, none⟩, 1, rfl, ?_, World.grownBy_alloc w _ none⟩
      exact ⟨by simp [ptrs], .inr ⟨w.heap.size, 1, #[ptr n.g], rfl, Nat.le_refl _, heap_alloc_new w _, Nat.le_refl _, by decide, rfl, rfl⟩⟩
    · have hlv : (T.mk n ks).leaves = leavesL ks := by
        rw [T.leaves_mk, if_neg (by simpa using h0), List.nil_append]
      rw [hlv] at hlen ⊢
      obtain ⟨len, hln⟩ : ∃ len, len = ks.length := ⟨_, rfl⟩
      have hpos : 0 < len := by rw [hln]; exact List.length_pos_iff.2 h0
      obtain ⟨AA, hAA⟩ : ∃ AA, AA = adr n.A := ⟨_, rfl⟩
      rw [← hln] at c6 hsm
      rw [← hAA] at c6
      have hneb : ((len : Int) == 0) = false := by simp; omega
      replace hAA := Lib.hid hAA
      replace hln := Lib.hid hln; replace hAt := Lib.hid hAt; replace hK := Lib.hid hK; replace ih := Lib.hid ih
      clear hT h0 hlv
      unfold ptr
      go_enter Tryz.func35, Tryz.ntmps35
      go_wp2_with fail
      go_loopw [3, 4] (fun ov iv wr => ∃ (j m c : Nat) (A : Option Addr), j ≤ len ∧ iv = .int .i64 j ∧ ov = .slice A m c ∧ Hid (LvI w ks j m ov wr)) (fun _ iv _ => len - (intOf iv).toNat)
      case atStart => exact ⟨0, 0, 0, none, Nat.zero_le _, rfl, rfl, Lib.hid ⟨by simp [leavesL_nil], World.ownsRow_nil _ _ _ _, World.grownBy.refl _ _⟩⟩
      case round =>
        obtain ⟨j, m, c, A, hj, rfl, rfl, hI⟩ := hrel
        have c6' := hI.out.g.cell c6 (by simp)
        by_cases hlt : j < len
        · obtain ⟨k, hk⟩ : ∃ k, ks[j]? = some k := ⟨ks[j]'(by rw [← hln.out]; exact hlt), List.getElem?_eq_getElem _⟩
          obtain ⟨b, hA, hc⟩ := hAt.out.kid hk
          have hc2 := hI.out.g.cell hc (by simp)
          have hmem : k ∈ ks := List.mem_of_getElem? hk
          have hkT : RP wr k := (RPs_iff.1 hK.out k hmem).grown hI.out.g
          have hle : (leavesL (ks.take (j + 1))).length ≤ (leavesL ks).length := len_take_leaves _ _
          have hsn : leavesL (ks.take (j + 1)) = leavesL (ks.take j) ++ k.leaves := by rw [take_succ' hk, leavesL_app, leavesL_cons, leavesL_nil, List.append_nil]
          have hml : m + k.leaves.length ≤ 100000 := by
            rw [hsn, List.length_append, ← hI.out.ln] at hle
            omega
          have CK := Lib.hid (ih.out k hmem wr hkT (by omega))
          have hAb : AA = some ⟨b, 0, none⟩ := by rw [hAA.out, hA]; rfl
          subst hAb
          obtain ⟨kl, hkl⟩ : ∃ kl, kl = k.leaves.length := ⟨_, rfl⟩
          rw [← hkl] at CK hml
          replace hsn := Lib.hid hsn; replace hk := Lib.hid hk; replace hA := Lib.hid hA; replace hkl := Lib.hid hkl
          clear hkT hle
          unfold ptr at hc2 CK
          go_wp2_with fail
          refine CK.out.mono ?_
          rintro e w1 ⟨A2, c2, rfl, O2, g2⟩
          have O1 := own_kept hI.out.r g2
          have R2 := own_Rd O2
          have hsz : w.heap.size ≤ w1.heap.size := Nat.le_trans hI.out.g.size g2.size
          replace O1 := Lib.hid O1; replace O2 := Lib.hid O2; replace g2 := Lib.hid g2; replace R2 := Lib.hid R2
          go_wp2_with (at_builtin; refine apR rfl (.tmp 22) (.tmp 30) rfl w.heap.size (.slice A m c) m _ rfl O1.out A2 kl c2 (ptrs k.leaves) rfl (by rw [ptrs_len, hkl.out]) R2.out (ptrs_one _) (by omega) hsz ?_; intro A3 c3 w3 O3 G3 hh3; replace O3 := Lib.hid O3; replace G3 := Lib.hid G3; replace hh3 := Lib.hid hh3)
          refine ⟨⟨j + 1, m + kl, c3, A3, by omega, by go_num, rfl, Lib.hid ⟨?_, ?_, ?_⟩⟩, by simp [intOf]; omega⟩
          · rw [hsn.out, List.length_append, ← hI.out.ln, hkl.out]
          · rw [hsn.out]
            have := O3.out
            simpa [ptrs] using this
          · exact grown_own (hI.out.g.trans g2.out) G3.out fun b hb => (O1.out.lt b hb).1
        · have : j = len := by omega
          subst this
          go_wp2_with fail
          go_ret
          have hn := hI.out.ln
          have hr := hI.out.r
          rw [List.take_of_length_le (by rw [hln.out]; exact Nat.le_refl _)] at hn hr
          rw [hn] at hr ⊢
          exact ⟨A, c, rfl, hr, hI.out.g⟩
end Go.Proofs.YtcklmkjlbpjojaaGreatDoor
namespace Go.Proofs.YtcklmkjlbpjojaaGreatDoor
open Go.RowKit
set_option linter.unusedSimpArgs false
set_option linter.unusedVariables false

theorem mem_leavesR : ∀ (t : T) (w : World), RP w t → ∀ s ∈ t.leaves, RP w s ∧ s.ks = [] ∧ ∀ b ∈ s.bl, b ∈ t.bl := by
  intro t
  induction t using T.ind with
  | h n ks ih =>
    intro w hT s hs
    rw [T.leaves_mk] at hs
    rcases List.mem_append.1 hs with hs | hs
    · split at hs
      · simp only [List.mem_singleton] at hs
        subst hs
        exact ⟨hT, List.eq_nil_of_length_eq_zero (by assumption), fun b hb => hb⟩
      · cases hs
    · obtain ⟨k, hk, hs⟩ := mem_leavesL.1 hs
      obtain ⟨h1, h2, h3⟩ := ih k hk w (RPs_iff.1 hT.kids k hk) s hs
      exact ⟨h1, h2, fun b hb => by rw [T.bl_mk]; simp only [List.mem_cons, List.mem_append]; exact .inr (.inr (mem_blL.2 ⟨k, hk, h3 b hb⟩))⟩
theorem leafR_at {t s : T} {w : World} (hT : RP w t) (hs : s ∈ t.leaves) : RAt w s.n [] := by
  obtain ⟨h, hk, _⟩ := mem_leavesR t w hT s hs
  cases s with
  | mk n ks => cases hk; exact h.at_
set_option maxHeartbeats 1000000 in
set_option maxRecDepth 100000 in
theorem leafR_any (tr : Nat) (t : T) (pane : Int) (w : World) (hT : RTr w tr t) (hl : t.leaves.length ≤ 100000) :
    Calls Tryz.prog 34 #[ptr tr, .int .i64 pane] w fun e w' => e = .returned (uptr ((t.find pane).map T.g)) ∧ w.grownBy w' none := by
  have c0 := hT.c0
  have CL := Lib.hid (leavesR_any t w hT.p hl)
  obtain ⟨n, hn⟩ : ∃ n, n = t.leaves.length := ⟨_, rfl⟩
  rw [← hn] at CL hl
  replace hT := Lib.hid hT
  replace hn := Lib.hid hn
  unfold ptr at c0 CL ⊢
  go_enter Tryz.func34, Tryz.ntmps34
  go_wp2_with fail
  refine CL.out.mono ?_
  rintro e w1 ⟨A, c, rfl, hO, hG⟩
  have hT1 := hT.out.grown hG
  have hR := own_Rd hO
  replace hO := Lib.hid hO; replace hG := Lib.hid hG; replace hT1 := Lib.hid hT1; replace hR := Lib.hid hR
  clear CL c0
  go_wp2_with fail
  go_loopw [6] (fun iv wr => ∃ j : Nat, j ≤ n ∧ iv = .int .i64 j ∧ wr = w1 ∧ Hid (∀ s' ∈ t.leaves.take j, s'.n.p ≠ pane)) (fun iv _ => n - (intOf iv).toNat)
  case atStart => exact ⟨0, Nat.zero_le _, rfl, rfl, Lib.hid (by simp)⟩
  case round =>
    obtain ⟨j, hj, rfl, rfl, hI⟩ := hrel
    by_cases hlt : j < n
    · obtain ⟨s, hs⟩ : ∃ s, t.leaves[j]? = some s := ⟨t.leaves[j]'(by rw [← hn.out]; exact hlt), List.getElem?_eq_getElem _⟩
      obtain ⟨b, off, hA, _, hcell⟩ := hR.out.at_ (j := j) (u := ptr s.g) (by simp [ptrs, hs])
      subst hA
      have hA0 : wr.cell? ⟨s.g, 0, none⟩ = some (.int .i64 s.n.p) := (leafR_at hT1.out.p (List.mem_of_getElem? hs)).c0
      unfold ptr at hcell
      by_cases hp : s.n.p = pane
      · have hf := Lib.hid (find_of hs hp hI.out)
        replace hs := Lib.hid hs
        clear hI
        subst hp
        go_wp2_with fail
        go_ret
        refine ⟨?_, hG.out⟩
        unfold T.find
        rw [hf.out]; rfl
      · have hpb : (s.n.p == pane) = false := by simpa using hp
        replace hs := Lib.hid hs
        replace hp := Lib.hid hp
        go_wp2_with fail
        refine ⟨⟨j + 1, by omega, by go_num, by first | trivial | rfl, Lib.hid ?_⟩, by simp [intOf]; omega⟩
        intro s' hs'
        rw [take_succ' hs.out] at hs'
        rcases List.mem_append.1 hs' with h | h
        · exact hI.out s' h
        · simp only [List.mem_singleton] at h
          subst h; exact hp.out
    · have : j = n := by omega
      subst this
      go_wp2_with fail
      go_ret
      refine ⟨?_, hG.out⟩
      have : t.find pane = none := by
        unfold T.find; rw [List.find?_eq_none]; intro s hs
        have h := hI.out
        rw [List.take_of_length_le (by rw [hn.out]; exact Nat.le_refl _)] at h
        simpa using h s hs
      rw [this]; rfl
/-- New, at the size of LayoutTexts. -/
theorem newR (w : World) : Calls Tryz.prog 7 #[.int .i64 60, .int .i64 40, .int .i64 1] w fun e w' => ∃ g tr, e = .returned (.tuple #[ptr tr, .bool true]) ∧ w.heap.size ≤ g ∧ w.heap.size ≤ tr ∧ g ≠ tr ∧ RTr w' tr (.mk ⟨g, none, 0, 1, 0, 0, 60, 40, 0⟩ []) ∧ w.grownBy w' none := by
  have CM : Calls Tryz.prog 23 #[.int .i64 60, .int .i64 40] w fun e w' => e = .returned (.bool true) ∧ w' = w := by
    go_enter Tryz.func23, Tryz.ntmps23
    go_wp2_with fail
    go_ret
    exact ⟨rfl, rfl⟩
  replace CM := Lib.hid CM
  go_enter Tryz.func7, Tryz.ntmps7
  go_wp2_with fail
  refine CM.out.mono ?_
  rintro e w1 ⟨rfl, rfl⟩
  go_wp2_with fail
  go_ret2
  refine ⟨w1.heap.size, w1.heap.size + 1, rfl, Nat.le_refl _, by omega, by omega, ?_, (World.grownBy_alloc w1 _ none).trans (World.grownBy_alloc _ _ none)⟩
  refine ⟨?_, .mk ⟨?_, World.ownsRow_nil _ _ _ _⟩ (by rw [RPs]; trivial), by simp [T.bl_mk, blL_nil], by simp [T.bl_mk, blL_nil]⟩
  · have := heap_alloc_new (w1.alloc (.cells #[.int .i64 1, .int .i64 0, .int .i64 0, .int .i64 60, .int .i64 40, .bool false, .slice none 0 0] 55)) (.cells #[.pointer (some ⟨w1.heap.size, 0, none⟩)] 57)
    rw [show (w1.alloc (.cells #[.int .i64 1, .int .i64 0, .int .i64 0, .int .i64 60, .int .i64 40, .bool false, .slice none 0 0] 55)).heap.size = w1.heap.size + 1 by simp] at this
    exact this
  · have h1 := heap_alloc_new w1 (.cells #[.int .i64 1, .int .i64 0, .int .i64 0, .int .i64 60, .int .i64 40, .bool false, .slice none 0 0] 55)
    have g := World.grownBy_alloc (w1.alloc (.cells #[.int .i64 1, .int .i64 0, .int .i64 0, .int .i64 60, .int .i64 40, .bool false, .slice none 0 0] 55)) (.cells #[.pointer (some ⟨w1.heap.size, 0, none⟩)] 57) none
    exact (g.block _ (by simp) (by simp)).trans h1
end Go.Proofs.YtcklmkjlbpjojaaGreatDoor
namespace Go.Proofs.YtcklmkjlbpjojaaGreatDoor
open Go.RowKit
set_option linter.unusedSimpArgs false
set_option linter.unusedVariables false

set_option maxHeartbeats 1000000 in
set_option maxRecDepth 100000 in
theorem sumR_any (l : List UInt8) (w : World) (hl : l.length ≤ 9223372036854775807) : Calls Tryz.prog 12 #[.string (st l)] w fun e w' => e = .returned (.int .i64 (sumB l)) ∧ w' = w := by
  obtain ⟨s, hs⟩ : ∃ s, s = st l := ⟨_, rfl⟩
  obtain ⟨len, hln⟩ : ∃ len, len = l.length := ⟨_, rfl⟩
  have hsz : s.size = len := by rw [hs, st_size, hln]
  have hl2 : len ≤ 9223372036854775807 := by omega
  rw [← hs]
  replace hs := Lib.hid hs; replace hln := Lib.hid hln; replace hl := Lib.hid hl
  go_enter Tryz.func12, Tryz.ntmps12
  go_wp2_with fail
  go_loopw [3, 4] (fun sv iv wr => ∃ j : Nat, j ≤ len ∧ iv = .int .i64 j ∧ sv = .int .i64 (sumB (l.take j)) ∧ wr = w) (fun _ iv _ => len - (intOf iv).toNat)
  case atStart => exact ⟨0, Nat.zero_le _, rfl, rfl, rfl⟩
  case round =>
    obtain ⟨j, hj, rfl, rfl, rfl⟩ := hrel
    by_cases hlt : j < len
    · obtain ⟨b, hb⟩ : ∃ b, l[j]? = some b := ⟨l[j]'(by rw [← hln.out]; exact hlt), List.getElem?_eq_getElem _⟩
      have hsb : s.data[j]? = some b := by rw [hs.out]; simpa [st] using hb
      have hG : ∀ h, s[j]'h = b := by
        intro h
        have := hsb
        rw [Array.getElem?_eq_getElem (by show j < s.size; omega)] at this
        injection this
      have hn := sumB_lt (l.take j)
      have hstep := sumB_take hb
      have hb2 := b.toNat_lt
      generalize sumB (l.take j) = n at *
      replace hb := Lib.hid hb; replace hstep := Lib.hid hstep
      go_wp2_with fail
      refine ⟨⟨j + 1, by omega, by go_num, ?_, by first | trivial | rfl⟩, by simp [intOf]; omega⟩
      rw [hstep.out]
      unfold sumS
      congr 1
    · have : j = len := by omega
      subst this
      go_wp2_with fail
      go_ret
      rw [List.take_of_length_le (by rw [hln.out]; exact Nat.le_refl _)]
      exact ⟨rfl, rfl⟩
theorem dig_ext : ∀ n, n < 10 → (⟨#[48, 49, 50, 51, 52, 53, 54, 55, 56, 57]⟩ : ByteArray).extract n (n + 1) = st [UInt8.ofNat (48 + n)] := by decide
theorem add_run (a b : List UInt8) (h : a.length + b.length ≤ 1000000) (w : World) : Sem.run Tryz.prog (Op.stringOp .add (st a) (st b)) w = .ok (.string (st (a ++ b))) w := by
  have := run_string_add_sum (P := Tryz.prog) w (st a) (st b) (by rw [st_size, st_size]; omega)
  rw [st_app0] at this
  exact this
theorem dd_len (n : Nat) (h : n < 10 ^ 18) : (Lib.decDigits n).length ≤ 18 := by
  have key : ∀ k n, n < 10 ^ (k + 1) → (Lib.decDigits n).length ≤ k + 1 := by
    intro k
    induction k with
    | zero => intro n h; rw [Lib.decDigits_one (by omega)]; simp
    | succ k ih =>
      intro n h
      rw [Lib.decDigits]
      split
      · simp
      · have := ih (n / 10) (by rw [Nat.pow_succ] at h; omega)
        simp; omega
  exact key 17 n h
set_option maxHeartbeats 1000000 in
set_option maxRecDepth 100000 in
theorem digitsR_any : ∀ (n : Nat) (w : World), n < 10 ^ 18 → Calls Tryz.prog 113 #[.int .i64 n] w fun e w' => e = .returned (.string (st (Lib.decDigits n))) ∧ ∃ k, w' = w.drewN k := by
  intro n
  induction n using Nat.strongRecOn with
  | ind n ih =>
    intro w hn
    by_cases h : n < 10
    · have hX := dig_ext n h
      rw [← Lib.decDigits_one h] at hX
      generalize Lib.decDigits n = d at *
      clear ih
      go_enter Tryz.func113, Tryz.ntmps113
      go_wp2_with fail
      go_ret
      exact ⟨rfl, 0, rfl⟩
    · have hX := dig_ext (n % 10) (by omega)
      have hd : Lib.decDigits n = Lib.decDigits (n / 10) ++ [UInt8.ofNat (48 + n % 10)] := by
        rw [Lib.decDigits, dif_neg h]
      have hl := dd_len (n / 10) (by omega)
      rw [hd]
      have hA := add_run (Lib.decDigits (n / 10)) [UInt8.ofNat (48 + n % 10)] (by simp; omega)
      have CK := Lib.hid (fun k => (ih (n / 10) (by omega) (w.drewN k) (by omega)).mono (fun e w' (h : e = .returned (.string (st (Lib.decDigits (n / 10)))) ∧ ∃ m, w' = (w.drewN k).drewN m) => (⟨h.1, by obtain ⟨m, hm⟩ := h.2; exact ⟨k + m, by rw [hm]; simp⟩⟩ : e = .returned (.string (st (Lib.decDigits (n / 10)))) ∧ ∃ m, w' = w.drewN m)))
      generalize Lib.decDigits (n / 10) = d at *
      have e10 : (n : Int) / 10 = ((n / 10 : Nat) : Int) := by omega
      have e11 : (n : Int) % 10 = ((n % 10 : Nat) : Int) := by omega
      clear ih hd hl
      generalize UInt8.ofNat (48 + n % 10) = ch at *
      generalize hq : n / 10 = q at *
      generalize hr : n % 10 = r at *
      have hr10 : r < 10 := by omega
      have b1 : (0 : Int) ≤ (r : Int) := by omega
      have b2 : (r : Int) + 1 ≤ 10 := by omega
      have b3 : (r : Int) ≤ (r : Int) + 1 := by omega
      have b4 : IntKind.i64.wrap ((r : Int) + 1) = (r : Int) + 1 := IntWalk.i64_in _ (by omega)
      have b5 : (0 : Int) ≤ (r : Int) + 1 := by omega
      clear hq hr
      go_enter Tryz.func113, Tryz.ntmps113
      go_wp2_with fail
      go_big_quiet ((go_at_call 113; exact CK.out _))
      go_wp2_with fail
      go_ret
      exact ⟨rfl, nq, rfl⟩
end Go.Proofs.YtcklmkjlbpjojaaGreatDoor
