/- Layout: right. -/
import Derived.Test.YtcklmkjlbpjojaaGreatDoorR4
import Derived.Deep.RegionHeld3
import Derived.BigQuiet
namespace Go.Proofs.YtcklmkjlbpjojaaGreatDoor
open Go.RowKit
set_option linter.unusedSimpArgs false
set_option linter.unusedVariables false

mutual
/-- May a tree lie at a place? -/
def T.right : T → Int → Int → Bool
  | .mk n ks, x, y => decide (n.x = x ∧ n.y = y ∧ 1 ≤ n.a ∧ 1 ≤ n.b) && (decide (ks.length = 0) || (rightL n ks x y && decide (1 < ks.length ∧ (ks.map fun k => k.sz n.way + 1).sum = n.sz n.way + 1)))
def rightL (n : Nd) : List T → Int → Int → Bool
  | [], _, _ => true
  | k :: ks, x, y => k.right x y && !(decide (k.ks.length ≠ 0 ∧ k.n.way = n.way)) && decide (k.sz (1 - n.way) = n.sz (1 - n.way)) && rightL n ks (if n.way = 0 then x + (k.sz n.way + 1) else x) (if n.way = 0 then y else y + (k.sz n.way + 1))
end
theorem T.right_mk (n : Nd) (ks : List T) (x y : Int) : (T.mk n ks).right x y = (decide (n.x = x ∧ n.y = y ∧ 1 ≤ n.a ∧ 1 ≤ n.b) && (decide (ks.length = 0) || (rightL n ks x y && decide (1 < ks.length ∧ (ks.map fun k => k.sz n.way + 1).sum = n.sz n.way + 1)))) := by rw [T.right]
theorem rightL_nil (n : Nd) (x y : Int) : rightL n [] x y = true := by rw [rightL]
theorem rightL_cons (n : Nd) (k : T) (ks : List T) (x y : Int) : rightL n (k :: ks) x y = (k.right x y && !(decide (k.ks.length ≠ 0 ∧ k.n.way = n.way)) && decide (k.sz (1 - n.way) = n.sz (1 - n.way)) && rightL n ks (if n.way = 0 then x + (k.sz n.way + 1) else x) (if n.way = 0 then y else y + (k.sz n.way + 1))) := by rw [rightL]
/-- What a tree that was read bears. -/
def T.bd (t : T) : Prop := ∀ m ∈ t.nds, (0 ≤ m.x ∧ m.x < 1000000000) ∧ (0 ≤ m.y ∧ m.y < 1000000000) ∧ (0 ≤ m.a ∧ m.a < 1000000000) ∧ (0 ≤ m.b ∧ m.b < 1000000000) ∧ (m.way = 0 ∨ m.way = 1)
theorem T.bd.k {n : Nd} {ks : List T} (h : (T.mk n ks).bd) {k : T} (hk : k ∈ ks) : k.bd := fun m hm => h m (by rw [T.nds_mk]; simp [mem_ndsL.2 ⟨k, hk, hm⟩])

@[go_sem] theorem eq56 (a b c d : Int) (w : World) : (Op.equalIn 10000 64 (.agg #[.int .i64 a, .int .i64 b]) (.agg #[.int .i64 c, .int .i64 d])).run Tryz.prog w = .ok (a == c && b == d) w := by
  have u3 := Tryz.underlying3
  have a3 := Tryz.isAgg3
  have z3 := Tryz.sizeOf3
  rw [show (10000 : Nat) = 9999 + 1 from rfl, Op.equalIn]
  simp only [Sem.run_bind, run_underlying Tryz.underlying64, Result.andThen_ok]
  simp only [Std.Legacy.Range.forIn_eq_forIn_range', Std.Legacy.Range.size, Nat.sub_zero, Nat.add_sub_cancel, Nat.div_one, List.range'_succ, List.range'_zero, List.forIn_cons, List.forIn_nil]
  go_simp
  by_cases h1 : a = c <;> by_cases h2 : b = d <;> simp [h1, h2]

/-- The worlds that have grown out of one: a call that only makes memory is quiet among them. -/
structure Gn (w : World) where
  V : World
  h : w.grownBy V none
instance gn_some (w : World) : Nonempty (Gn w) := ⟨⟨w, World.grownBy.refl w none⟩⟩
theorem wp_region_gr {P : Program} {id : Nat} {Q : Exit → Act → World → Prop} {a : Act} {w : World} {l : List Oper} (hm : P.follows .mixedOrders = true) (hB : Region.lexB .any l.toArray = true)
    (h : wpQuiet P l.toArray (fun w' => ∃ x : Gn w, w' = x.V) (fun a' => ∀ w', (∃ x : Gn w, w' = x.V) → Q .normal a' w') l a) : (Code.region id l.toArray true).wp P Q a w :=
  wp_region_quiet (C := fun w' => ∃ x : Gn w, w' = x.V) hm hB ⟨⟨w.drew, g_drew (World.grownBy.refl w none)⟩, rfl⟩ (by simpa using h)
theorem drop_cons {l : List T} {j : Nat} {k : T} (h : l[j]? = some k) : l.drop j = k :: l.drop (j + 1) := by
  obtain ⟨h1, h2⟩ := List.getElem?_eq_some_iff.1 h
  rw [List.drop_eq_getElem_cons h1, h2]

structure RI0 (w : World) (n : Nd) (ks : List T) (bx : Nat) (x y : Int) (j : Nat) (S : Int) (wr : World) : Prop where
  b : wr.heap[bx]? = some (.cells #[.int .i64 (x + S), .int .i64 (y)] 64 (0, 0))
  g : w.grownBy wr none
  l : w.heap.size ≤ bx
  s : S = ((ks.take j).map fun k => k.sz n.way + 1).sum
  r : rightL n ks x y = rightL n (ks.drop j) (x + S) (y)
  u : 0 ≤ S ∧ (x) + S ≤ 3000000000
theorem RI0.drewN {w : World} {n : Nd} {ks : List T} {bx : Nat} {x y : Int} {j : Nat} {S : Int} {wr : World} (h : RI0 w n ks bx x y j S wr) (q : Nat) : RI0 w n ks bx x y j S (wr.drewN q) :=
  ⟨h.b, g_drewN h.g q, h.l, h.s, h.r, h.u⟩
theorem RI0.next {w : World} {n : Nd} {ks : List T} {bx : Nat} {x y : Int} {j : Nat} {S : Int} {wr w2 : World} (h : RI0 w n ks bx x y j S wr) {k : T} (hk : ks[j]? = some k) (hw : n.way = 0)
    (h1 : k.right (x + S) (y) = true) (h2 : ¬ (k.ks.length ≠ 0 ∧ k.n.way = 0)) (h3 : k.n.b = n.b) (hbd : k.bd) (g2 : wr.grownBy w2 none) (a : Int) (ha : a = k.n.a)
    (v : Value) (hv : v = .int .i64 ((x) + S + (a + 1))) : RI0 w n ks bx x y (j + 1) (S + (a + 1)) (w2.setCell ⟨bx, 0, none⟩ v) := by
  subst ha
  subst hv
  have hlt : bx < wr.heap.size := lt_of_heap h.b
  have hb2 : w2.heap[bx]? = _ := (g2.block bx hlt (by simp)).trans h.b
  have hs := h.s
  have e1 : k.sz n.way = k.n.a := by rw [hw]; rfl
  have e2 : k.sz (1 - n.way) = k.n.b := by rw [hw]; rfl
  have e3 : n.sz (1 - n.way) = n.b := by rw [hw]; rfl
  refine ⟨?_, ?_, h.l, ?_, ?_, ?_⟩
  · have := heap_set (j := 0) hb2 (.int .i64 ((x) + S + (k.n.a + 1)))
    rw [this]
    simp [Int.add_assoc]
  · have o : Off [bx] w (w2.setCell ⟨bx, 0, none⟩ (.int .i64 ((x) + S + (k.n.a + 1)))) := (Off.of_grown (S := [bx]) (h.g.trans g2)).trans (Off.set w2 ⟨bx, 0, none⟩ _) (by simp)
    exact o.grown (by simp; exact h.l)
  · rw [take_succ' hk, List.map_append, List.sum_append, ← hs]
    simp [e1]
  · rw [h.r, drop_cons hk, rightL_cons, h1, e1, e2, e3, hw, if_pos rfl, if_pos rfl]
    rw [decide_eq_true h3, decide_eq_false h2]
    simp [Int.add_assoc]
  · obtain ⟨n', ks'⟩ := k
    rw [T.right_mk] at h1
    have h4 : n'.x = x + S ∧ n'.y = y ∧ 1 ≤ n'.a ∧ 1 ≤ n'.b := by
      have := Bool.and_eq_true_iff.1 h1
      exact of_decide_eq_true this.1
    have h5 := hbd n' (by rw [T.nds_mk]; simp)
    have h6 := h.u
    show 0 ≤ S + (n'.a + 1) ∧ (x) + (S + (n'.a + 1)) ≤ 3000000000
    obtain ⟨q1, q2, q3, q4⟩ := h4
    obtain ⟨⟨p1, p2⟩, ⟨p3, p4⟩, ⟨p5, p6⟩, ⟨p7, p8⟩, _⟩ := h5
    omega

structure RI1 (w : World) (n : Nd) (ks : List T) (bx : Nat) (x y : Int) (j : Nat) (S : Int) (wr : World) : Prop where
  b : wr.heap[bx]? = some (.cells #[.int .i64 (x), .int .i64 (y + S)] 64 (0, 0))
  g : w.grownBy wr none
  l : w.heap.size ≤ bx
  s : S = ((ks.take j).map fun k => k.sz n.way + 1).sum
  r : rightL n ks x y = rightL n (ks.drop j) (x) (y + S)
  u : 0 ≤ S ∧ (y) + S ≤ 3000000000
theorem RI1.drewN {w : World} {n : Nd} {ks : List T} {bx : Nat} {x y : Int} {j : Nat} {S : Int} {wr : World} (h : RI1 w n ks bx x y j S wr) (q : Nat) : RI1 w n ks bx x y j S (wr.drewN q) :=
  ⟨h.b, g_drewN h.g q, h.l, h.s, h.r, h.u⟩
theorem RI1.next {w : World} {n : Nd} {ks : List T} {bx : Nat} {x y : Int} {j : Nat} {S : Int} {wr w2 : World} (h : RI1 w n ks bx x y j S wr) {k : T} (hk : ks[j]? = some k) (hw : n.way = 1)
    (h1 : k.right (x) (y + S) = true) (h2 : ¬ (k.ks.length ≠ 0 ∧ k.n.way = 1)) (h3 : k.n.a = n.a) (hbd : k.bd) (g2 : wr.grownBy w2 none) (a : Int) (ha : a = k.n.b)
    (v : Value) (hv : v = .int .i64 ((y) + S + (a + 1))) : RI1 w n ks bx x y (j + 1) (S + (a + 1)) (w2.setCell ⟨bx, 1, none⟩ v) := by
  subst ha
  subst hv
  have hlt : bx < wr.heap.size := lt_of_heap h.b
  have hb2 : w2.heap[bx]? = _ := (g2.block bx hlt (by simp)).trans h.b
  have hs := h.s
  have e1 : k.sz n.way = k.n.b := by rw [hw]; rfl
  have e2 : k.sz (1 - n.way) = k.n.a := by rw [hw]; rfl
  have e3 : n.sz (1 - n.way) = n.a := by rw [hw]; rfl
  refine ⟨?_, ?_, h.l, ?_, ?_, ?_⟩
  · have := heap_set (j := 1) hb2 (.int .i64 ((y) + S + (k.n.b + 1)))
    rw [this]
    simp [Int.add_assoc]
  · have o : Off [bx] w (w2.setCell ⟨bx, 1, none⟩ (.int .i64 ((y) + S + (k.n.b + 1)))) := (Off.of_grown (S := [bx]) (h.g.trans g2)).trans (Off.set w2 ⟨bx, 1, none⟩ _) (by simp)
    exact o.grown (by simp; exact h.l)
  · rw [take_succ' hk, List.map_append, List.sum_append, ← hs]
    simp [e1]
  · rw [h.r, drop_cons hk, rightL_cons, h1, e1, e2, e3, hw, if_neg (by decide), if_neg (by decide)]
    rw [decide_eq_true h3, decide_eq_false h2]
    simp [Int.add_assoc]
  · obtain ⟨n', ks'⟩ := k
    rw [T.right_mk] at h1
    have h4 : n'.x = x ∧ n'.y = y + S ∧ 1 ≤ n'.a ∧ 1 ≤ n'.b := by
      have := Bool.and_eq_true_iff.1 h1
      exact of_decide_eq_true this.1
    have h5 := hbd n' (by rw [T.nds_mk]; simp)
    have h6 := h.u
    show 0 ≤ S + (n'.b + 1) ∧ (y) + (S + (n'.b + 1)) ≤ 3000000000
    obtain ⟨q1, q2, q3, q4⟩ := h4
    obtain ⟨⟨p1, p2⟩, ⟨p3, p4⟩, ⟨p5, p6⟩, ⟨p7, p8⟩, _⟩ := h5
    omega


end Go.Proofs.YtcklmkjlbpjojaaGreatDoor
