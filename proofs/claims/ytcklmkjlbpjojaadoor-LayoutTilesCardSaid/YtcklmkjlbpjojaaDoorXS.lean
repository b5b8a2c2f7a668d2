/- Layout: slices.Chunk, and what it hands to each round. -/
import Derived.RangeFuncNested
import Derived.RangeFuncBound
import Derived.RangeFuncCalls
import Derived.RangeFuncLeaves
import Derived.Shelf.Abstract
import Derived.Shelf.RegionOpen
import Derived.WalkKit
import Derived.OwnWalkIn
import Derived.TacticsInMore
import Derived.LoopNIn
import Derived.LoopIn
import Derived.Test.YtcklmkjlbpjojaaDoorXP
namespace Go.Proofs.YtcklmkjlbpjojaaDoor.X
open Go.RowKit Go.Shelf
set_option linter.unusedSimpArgs false
set_option linter.unusedVariables false
attribute [local go_sem] Oper.semAt_some

theorem wrap_in {z : Int} (h : -1000000 ≤ z ∧ z ≤ 1000000) : wrap64 z = z := by unfold wrap64; omega
theorem chunk_dec {i n c : Nat} (h : i < n) (hc : 1 ≤ c) : n + c - (intOf (.int .i64 ((i : Int) + (c : Int)))).toNat < n + c - (intOf (.int .i64 (i : Int))).toNat := by
  have e1 : intOf (.int .i64 ((i : Int) + (c : Int))) = (i : Int) + (c : Int) := rfl
  have e2 : intOf (.int .i64 (i : Int)) = (i : Int) := rfl
  rw [e1, e2]; omega
theorem chunk_ar {i n c pl : Nat} (h : i < n) (hn : n ≤ 1000) (hc : c ≤ 1000) (hp : pl ≤ c) : wrap64 ((n : Int) - (i : Int)) = (n : Int) - (i : Int) ∧ wrap64 ((i : Int) + (pl : Int)) = (i : Int) + (pl : Int) ∧ wrap64 ((i : Int) + (c : Int)) = (i : Int) + (c : Int) :=
  ⟨wrap_in ⟨by omega, by omega⟩, wrap_in ⟨by omega, by omega⟩, wrap_in ⟨by omega, by omega⟩⟩
/-- A piece of n in pieces of c: its number. -/
abbrev Pc (n c : Nat) : Type := { x : Nat // x * c < n }
/-- How long piece x is. -/
def plen (n c x : Nat) : Nat := min c (n - x * c)
def pcV (B n c x : Nat) : Value := .slice (some ⟨B, x * c, none⟩) (plen n c x) (plen n c x)
/-- How many pieces there are. -/
def pnum (n c : Nat) : Nat := (n + c - 1) / c
theorem pnum_iff {n c x : Nat} (hc : 1 ≤ c) : x < pnum n c ↔ x * c < n := by
  unfold pnum
  rw [Nat.lt_iff_add_one_le, Nat.le_div_iff_mul_le (by omega), Nat.add_mul, Nat.one_mul]
  omega
/-- The first k pieces. -/
def pcs (n c : Nat) (hc : 1 ≤ c) (k : Nat) (hk : k ≤ pnum n c) : List (Pc n c) := (List.finRange k).map fun i => ⟨i.1, (pnum_iff hc).1 (Nat.lt_of_lt_of_le i.2 hk)⟩
theorem pcs_len {n c : Nat} (hc : 1 ≤ c) (k : Nat) (hk : k ≤ pnum n c) : (pcs n c hc k hk).length = k := by simp [pcs]
theorem pcs_succ {n c : Nat} (hc : 1 ≤ c) (k : Nat) (hk : k + 1 ≤ pnum n c) : pcs n c hc (k + 1) hk = pcs n c hc k (by omega) ++ [⟨k, (pnum_iff hc).1 hk⟩] := by
  unfold pcs
  rw [List.finRange_succ_last, List.map_append, List.map_map]
  rfl
theorem pcs_get {n c : Nat} (hc : 1 ≤ c) (k : Nat) (hk : k ≤ pnum n c) (i : Nat) (hi : i < k) : (pcs n c hc k hk)[i]? = some ⟨i, (pnum_iff hc).1 (by omega)⟩ := by
  unfold pcs
  rw [List.getElem?_map, List.getElem?_eq_getElem (by simp [hi])]
  simp
/-- What a round keeps for the iterator. -/
def ChK (sB nB : Nat) (W W' : World) : Prop := W'.heap[sB]? = W.heap[sB]? ∧ W'.heap[nB]? = W.heap[nB]?
theorem chK_t {sB nB : Nat} {A B C : World} (h : ChK sB nB A B) (k : ChK sB nB B C) : ChK sB nB A C := ⟨k.1.trans h.1, k.2.trans h.2⟩
theorem chK_b {sB nB : Nat} {w : World} (h1 : sB < w.heap.size) (h2 : nB < w.heap.size) (W : World) (l : Nat) (o o' : Obj) (hl : w.heap.size ≤ l) (_ : W.heap[l]? = some o) (_ : o.isCells = false) (_ : o.isWalk = false) : ChK sB nB W (W.putObj l o') :=
  ⟨World.putObj_heap_other (by omega), World.putObj_heap_other (by omega)⟩

set_option maxHeartbeats 1000000 in
theorem chunk_any (B n cap c : Nat) (w : World) (hc : 1 ≤ c) : CallsIn Fence.wide 5 Tryd.prog 63 #[.slice (some ⟨B, 0, none⟩) n cap, .int .i64 c] w fun e w' =>
    e = .returned (.func (.func 80) #[] #[.pointer (some ⟨w.heap.size, 0, none⟩), .pointer (some ⟨w.heap.size + 1, 0, none⟩)]) ∧ w' = (w.alloc (.cells #[.slice (some ⟨B, 0, none⟩) n cap] 53)).alloc (.cells #[.int .i64 c] 3) := by
  refine callsIn_wide.2 ?_
  have h1 : ¬ ((c : Int) < 1) := by omega
  go_enter Tryd.func63, Tryd.ntmps63
  go_wp2_with fail
  go_ret
  exact ⟨rfl, rfl⟩

set_option maxRecDepth 100000 in
set_option maxHeartbeats 4000000 in
theorem chunk1_in (m : Nat) (hm : 1 ≤ m) (l sB nB B n cap c : Nat) (hc : 1 ≤ c ∧ c ≤ 1000) (hn : n ≤ cap ∧ n ≤ 1000 ∧ 1 ≤ n) (J Jx : List (Pc n c) → World → Prop) (hdr : ∀ s W, J s W → J s W.drew)
    (hY : ∀ pre (x : Pc n c) W, J pre W → pre.length < pnum n c → YieldAt Fence.wide (m - 1) Tryd.prog l #[pcV B n c x.1] W fun e W' =>
      (e = .returned (.bool true) ∧ J (pre ++ [x]) W' ∧ ChK sB nB W W') ∨ (e = .returned (.bool false) ∧ Jx (pre ++ [x]) W'))
    (W : World) (hs : W.heap[sB]? = some (.cells #[.slice (some ⟨B, 0, none⟩) n cap] 53 (0, 0))) (hnB : W.heap[nB]? = some (.cells #[.int .i64 c] 3 (0, 0))) (h0 : J [] W) :
    CallsIn Fence.wide m Tryd.prog 80 #[.func (.yield l) #[] #[], .pointer (some ⟨sB, 0, none⟩), .pointer (some ⟨nB, 0, none⟩)] W fun e W' => (∃ v, e = .returned v) ∧
      ((∃ ys, ys = pcs n c hc.1 (pnum n c) (Nat.le_refl _) ∧ J ys W') ∨ (∃ pre, True ∧ Jx pre W')) := by
  have hc2 := hc; have hn2 := hn
  refine callsIn_of_wp Tryd.func80 rfl trivial ?_ rfl
  simp only [Tryd.ntmps80, List.size_toArray, List.length_cons, List.length_nil, Nat.reduceAdd, Nat.reduceSub, Array.replicate_succ, Array.replicate_zero, List.push_toArray, List.append_toArray, List.nil_append, List.cons_append]
  gi_wp2
  gi_loopw [4] (fun i wr => ∃ k : Nat, ∃ hk : k ≤ pnum n c, i = .int .i64 ((k * c : Nat) : Int) ∧ Hid (J (pcs n c hc.1 k hk) wr ∧ ChK sB nB W wr))
    (fun i _ => n + c - (intOf i).toNat)
  case atStart => exact ⟨0, Nat.zero_le _, by simp, Lib.hid ⟨h0, rfl, rfl⟩⟩
  case round =>
    obtain ⟨k, hk, rfl, hJs⟩ := hrel
    have e1 := hJs.out.2.1.trans hs
    have e2 := hJs.out.2.2.trans hnB
    have c1 : wr.cell? ⟨sB, 0, none⟩ = some (.slice (some ⟨B, 0, none⟩) n cap) := by rw [cell_of_heap e1]; rfl
    have c2 : wr.cell? ⟨nB, 0, none⟩ = some (.int .i64 c) := by rw [cell_of_heap e2]; rfl
    obtain ⟨i, hi⟩ : ∃ i, i = k * c := ⟨_, rfl⟩
    rw [← hi]
    replace hi := Lib.hid hi
    by_cases hlt : i < n
    · have hkp : k + 1 ≤ pnum n c := (pnum_iff hc.1).2 (by rw [← hi.out]; exact hlt)
      replace hkp := Lib.hid hkp
      have hx0 : k * c < n := by rw [← hi.out]; exact hlt
      obtain ⟨pl, hpl⟩ : ∃ pl, pl = plen n c k := ⟨_, rfl⟩
      have hpl2 : pl = min c (n - i) := by rw [hpl, hi.out]; rfl
      have hyy := hY _ ⟨k, hx0⟩ wr.drew (hdr _ _ hJs.out.1) (by rw [pcs_len]; exact hkp.out)
      have hpe : pcV B n c k = .slice (some ⟨B, i, none⟩) pl pl := by rw [hpl, hi.out]; rfl
      dsimp only at hyy
      rw [hpe] at hyy
      obtain ⟨fn, tmps, assign, body, hy, hR⟩ := hyy
      have hi3 : (i : Int) < n := by omega
      have hne : ¬ (cap = i) := by omega
      have hmn : min (c : Int) (((n - i : Nat) : Int)) = pl := by omega
      have hge : 1 ≤ pl := by omega
      have hb1 : i + pl ≤ n := by omega
      have hb2 : ((i : Int) + (pl : Int)).toNat = i + pl := by omega
      have hb3 : ¬ ((i : Int) + (pl : Int) < (i : Int)) := by omega
      have hb4 : ¬ ((cap : Int) < (i : Int) + (pl : Int)) := by omega
      have hb5 : i + pl - i = pl := by omega
      obtain ⟨hw1, hw2, hw3⟩ := chunk_ar (pl := pl) hlt hn.2.1 hc.2 (by rw [hpl2]; exact Nat.min_le_left _ _)
      have hyy0 := Lib.hid hx0
      clear hpl hpl2 hpe
      have hin : i ≤ n := Nat.le_of_lt hlt
      have hncap : n ≤ cap := hn.1
      replace hb1 := Lib.hid hb1; replace hb2 := Lib.hid hb2; replace hb3 := Lib.hid hb3; replace hb4 := Lib.hid hb4; replace hb5 := Lib.hid hb5; replace hw1 := Lib.hid hw1; replace hw2 := Lib.hid hw2; replace hw3 := Lib.hid hw3; replace hge := Lib.hid hge; replace hy := Lib.hid hy; replace hR := Lib.hid hR; replace hn := Lib.hid hn; replace hn2 := Lib.hid hn2; replace hk := Lib.hid hk
      gi_wp2
      gi_region
      obtain ⟨e4, he4⟩ : ∃ e4, e4 = i + pl := ⟨_, rfl⟩
      have hw4 : wrap64 ((i : Int) + (pl : Int)) = (e4 : Int) := by rw [hw2.out, he4, Int.natCast_add]
      have hie : i < e4 := by rw [he4]; exact Nat.lt_add_of_pos_right hge.out
      have hec : e4 ≤ cap := by rw [he4]; exact Nat.le_trans hb1.out hncap
      have hei : e4 - i = pl := by rw [he4]; exact Nat.add_sub_cancel_left _ _
      have hy := hy.out
      replace hmn := Lib.hid hmn; replace he4 := Lib.hid he4
      clear hi3 hin hncap
      gi_wp2
      refine hR.out.mono ?_
      rintro e W3 (⟨rfl, hJ3, hk3⟩ | ⟨rfl, hJx3⟩)
      · have f1 : W3.heap[sB]? = W.heap[sB]? := hk3.1.trans hJs.out.2.1
        have f2 : W3.heap[nB]? = W.heap[nB]? := hk3.2.trans hJs.out.2.2
        have g2 : W3.cell? ⟨nB, 0, none⟩ = some (.int .i64 c) := by rw [cell_of_heap (f2.trans hnB)]; rfl
        replace hJ3 := Lib.hid hJ3
        gi_wp2
        go_roundw
        case rel => exact ⟨k + 1, hkp.out, by rw [Nat.add_mul, Nat.one_mul, ← hi.out, Int.natCast_add]; first | rw [hw3.out] | rfl, Lib.hid ⟨by rw [pcs_succ]; exact hJ3.out, f1, f2⟩⟩
        case measure =>
          simp only [hw3.out]
          exact chunk_dec hlt hc.1
      · gi_wp2
        refine bodyPost_ret (results_none rfl _ _ _) rfl ?_
        exact ⟨⟨_, rfl⟩, .inr ⟨_, trivial, hJx3⟩⟩
    · gi_wp2
      go_end0
      have hke : k = pnum n c := by
        refine Nat.le_antisymm hk (Nat.le_of_not_lt fun h => hlt ?_)
        rw [hi.out]
        exact (pnum_iff hc.1).1 h
      subst hke
      exact ⟨⟨_, rfl⟩, .inl ⟨_, rfl, hJs.out.1⟩⟩

/-- The value that Chunk hands back, by its contract. -/
theorem chunk_stops (sB nB B n cap c : Nat) (hc : 1 ≤ c ∧ c ≤ 1000) (hn : n ≤ cap ∧ n ≤ 1000 ∧ 1 ≤ n) (w : World) (h1 : sB < w.heap.size) (h2 : nB < w.heap.size)
    (hs : w.heap[sB]? = some (.cells #[.slice (some ⟨B, 0, none⟩) n cap] 53 (0, 0))) (hnB : w.heap[nB]? = some (.cells #[.int .i64 c] 3 (0, 0))) (m : Nat) (hm : 1 ≤ m) :
    SeqStopsK Fence.wide m Tryd.prog 80 #[.pointer (some ⟨sB, 0, none⟩), .pointer (some ⟨nB, 0, none⟩)] (fun x : Pc n c => #[pcV B n c x.1]) (ChK sB nB) (fun ys => ys = pcs n c hc.1 (pnum n c) (Nat.le_refl _)) (fun _ => True) (pnum n c) w :=
  fun l J Jx W hW hA _ hY h0 =>
    chunk1_in m hm l sB nB B n cap c hc hn J Jx (fun s W1 h => hA s W1 W1.drew none h ⟨rfl, rfl, rfl, Nat.le_refl _, fun _ _ _ => rfl⟩ (fun r e => by cases e)) hY W ((hW.block sB h1).trans hs) ((hW.block nB h2).trans hnB) h0
end Go.Proofs.YtcklmkjlbpjojaaDoor.X
