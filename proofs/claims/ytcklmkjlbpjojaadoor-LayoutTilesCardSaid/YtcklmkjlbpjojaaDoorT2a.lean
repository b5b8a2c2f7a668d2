/- Layout: a tree whose rows share no block, said by ghosts. Layout: the plain law of LayoutTiles: panes lie apart and hold the window's corners. No walk. Layout: the grid that tiles fills. No walk. -/
import Derived.Test.YtcklmkjlbpjojaaDoorXC
import Derived.Test.YtcklmkjlbpjojaaDoorM13
import Derived.Test.YtcklmkjlbpjojaaDoorM11
import Derived.Laws.MakeOwn
namespace Go.Proofs.YtcklmkjlbpjojaaDoor.X
open Go.RowKit
set_option linter.unusedSimpArgs false
set_option linter.unusedVariables false

theorem at_x {w : World} {up : Option Nat} {n : Nd} {ks : List T} (base : Nat) (h : Go.Proofs.YtcklmkjlbpjojaaDoor.At w up n ks) : At (gh0 base) w up n ks := by
  refine ⟨?_, gh0_wh base n.g, ⟨ptrs_len ks, ?_⟩, Nat.zero_le _⟩
  · rw [h.h]; rfl
  · rcases h.r.2 with ⟨e, h0⟩ | ⟨g, cap, cur, hv, _, hg, hn, hm, hs, hx⟩
    · left
      rcases hA : n.A with _ | b
      · rw [Nd.row, hA] at e
        injection e with e1 e2 e3
        exact ⟨rfl, e3, h0⟩
      · rw [Nd.row, hA] at e
        injection e with e1 e2 e3
        cases e1
    · right
      rcases hA : n.A with _ | b
      · rw [Nd.row, hA] at hv
        injection hv with e1 e2 e3
        cases e1
      · rw [Nd.row, hA] at hv
        injection hv with e1 e2 h2
        obtain rfl : b = g := by injection e1 with e1; injection e1
        subst h2
        refine ⟨b, cur.toList, rfl, lt_of_heap hg, ⟨0, rfl⟩, ⟨by show w.heap[b]? = _; simpa using hg, hn, by unfold maxLen at hm; omega, ?_, ?_⟩, fun _ _ => rfl⟩
        · show 0 + n.c ≤ cur.toList.length
          rw [Array.length_toList]; omega
        · show (cur.toList.drop 0).take ks.length = ptrs ks
          rw [List.drop_zero]; simpa using hx
theorem tp_x {w : World} (base : Nat) : ∀ (t : T) (up : Option Nat), Go.Proofs.YtcklmkjlbpjojaaDoor.TP w up t → TP (gh0 base) w up t := by
  intro t
  induction t using T.ind with
  | h n ks ih => exact fun up h => .mk (at_x base h.at_) (TPs_iff.2 fun k hk => ih k hk _ (Go.Proofs.YtcklmkjlbpjojaaDoor.TPs_iff.1 h.kids k hk))
theorem tr_x {base tr : Nat} {w : World} {t : T} (h : Go.Proofs.YtcklmkjlbpjojaaDoor.Tr base w tr t) : Tr (gh0 base) base w tr t :=
  ⟨h.h, tp_x base t none h.p, h.nd, h.nt, h.lo, gh0_wh base tr, Nat.le_refl _⟩
end Go.Proofs.YtcklmkjlbpjojaaDoor.X
namespace Go.Proofs.YtcklmkjlbpjojaaDoor
open Go.RowKit
set_option linter.unusedSimpArgs false
set_option linter.unusedVariables false

/-- A place is a node's. -/
def cov (m : Nd) (x y : Int) : Prop := m.x ≤ x ∧ x < m.x + m.a ∧ m.y ≤ y ∧ y < m.y + m.b
def apart (m m' : Nd) : Prop := m.x + m.a ≤ m'.x ∨ m'.x + m'.a ≤ m.x ∨ m.y + m.b ≤ m'.y ∨ m'.y + m'.b ≤ m.y
/-- What a placed tree's panes do. -/
structure Laid (t : T) (x y : Int) : Prop where
  ap : ((t.place x y).leaves.map T.n).Pairwise apart
  cn : ∀ cx cy, (cx = x ∨ cx = x + t.n.a - 1) → (cy = y ∨ cy = y + t.n.b - 1) → ∃ s ∈ (t.place x y).leaves, cov s.n cx cy
theorem leaf_within {t s : T} {x y : Int} (hok : t.er.ok) (hx : 0 ≤ x) (hy : 0 ≤ y) (hxa : x + t.n.a ≤ 1000) (hyb : y + t.n.b ≤ 1000) (hs : s ∈ (t.place x y).leaves) : within x y (x + t.n.a) (y + t.n.b) s.n :=
  nds_place t x y hok hx hy hxa hyb _ (leaf_nds hs)
theorem row_0 : ∀ (l : List T) (x y B : Int), (∀ k ∈ l, k.er.ok ∧ k.n.b = B ∧ ∀ x y : Int, 0 ≤ x → 0 ≤ y → x + k.n.a ≤ 1000 → y + k.n.b ≤ 1000 → Laid k x y) → 0 ≤ x → 0 ≤ y → (l.map fun k => k.n.a + 1).sum + x ≤ 1001 → 1 ≤ B → y + B ≤ 1000 →
    ((leavesL (placeL 0 l x y)).map T.n).Pairwise apart ∧ (∀ s ∈ leavesL (placeL 0 l x y), x ≤ s.n.x) ∧
    (l ≠ [] → ∀ c, (c = y ∨ c = y + B - 1) → (∃ s ∈ leavesL (placeL 0 l x y), cov s.n x c) ∧ ∃ s ∈ leavesL (placeL 0 l x y), cov s.n (x + (l.map fun k => k.n.a + 1).sum - 2) c)
  | [], x, y, B, _, _, _, _, _, _ => by rw [placeL_nil, leavesL_nil]; simp
  | k :: l, x, y, B, h, hx, hy, hs, hB, hyB => by
    obtain ⟨hk, hkb, hL⟩ := h k (by simp)
    have hg := hk.ge
    rw [T.er_a, T.er_b] at hg
    simp only [List.map_cons, List.sum_cons] at hs
    have hrest : 0 ≤ (l.map fun k => k.n.a + 1).sum := sum_nn (fun k => k.n.a + 1) l fun j hj => by
      have := (h j (by simp [hj])).1.ge
      rw [T.er_a, T.er_b] at this; omega
    have hxa : x + k.n.a ≤ 1000 := by omega
    have hyb : y + k.n.b ≤ 1000 := by omega
    have hLk := hL x y hx hy hxa hyb
    have e1 : nx 0 k.n x = x + (k.n.a + 1) := by
      unfold nx; rw [if_pos rfl, wr_of (z := k.n.a + 1) (by omega), wr_of (by omega)]
    have e2 : ny 0 k.n y = y := by
      unfold ny; rw [if_pos rfl]
    rw [placeL_cons, leavesL_cons, e1, e2]
    obtain ⟨i1, i2, i3⟩ := row_0 l (x + (k.n.a + 1)) y B (fun j hj => h j (by simp [hj])) (by omega) (by omega) (by omega) hB (by omega)
    have hw : ∀ s ∈ (k.place x y).leaves, within x y (x + k.n.a) (y + k.n.b) s.n := fun s hs => leaf_within hk hx hy hxa hyb hs
    refine ⟨?_, ?_, ?_⟩
    · rw [List.map_append, List.pairwise_append]
      refine ⟨hLk.ap, i1, ?_⟩
      intro a ha b hb
      obtain ⟨s, hs, rfl⟩ := List.mem_map.1 ha
      obtain ⟨r, hr, rfl⟩ := List.mem_map.1 hb
      have q1 := hw s hs
      have q2 := i2 r hr
      unfold within at q1
      unfold apart
      omega
    · intro s hs
      rcases List.mem_append.1 hs with hs | hs
      · have q1 := hw s hs
        unfold within at q1
        omega
      · have := i2 s hs; omega
    · intro _ c hc
      constructor
      · obtain ⟨s, hs, hcv⟩ := hLk.cn x c (.inl rfl) (by omega)
        exact ⟨s, by simp [hs], hcv⟩
      · cases l with
        | nil =>
          obtain ⟨s, hs, hcv⟩ := hLk.cn (x + k.n.a - 1) c (.inr rfl) (by omega)
          refine ⟨s, by simp [hs], ?_⟩
          unfold cov at hcv ⊢
          simp only [List.map_cons, List.map_nil, List.sum_cons, List.sum_nil]
          omega
        | cons k2 l2 =>
          obtain ⟨_, s, hs, hcv⟩ := i3 (by simp) c (by omega)
          refine ⟨s, by simp [hs], ?_⟩
          unfold cov at hcv ⊢
          simp only [List.map_cons, List.sum_cons] at hcv ⊢
          omega
theorem row_1 : ∀ (l : List T) (x y B : Int), (∀ k ∈ l, k.er.ok ∧ k.n.a = B ∧ ∀ x y : Int, 0 ≤ x → 0 ≤ y → x + k.n.a ≤ 1000 → y + k.n.b ≤ 1000 → Laid k x y) → 0 ≤ x → 0 ≤ y → (l.map fun k => k.n.b + 1).sum + y ≤ 1001 → 1 ≤ B → x + B ≤ 1000 →
    ((leavesL (placeL 1 l x y)).map T.n).Pairwise apart ∧ (∀ s ∈ leavesL (placeL 1 l x y), y ≤ s.n.y) ∧
    (l ≠ [] → ∀ c, (c = x ∨ c = x + B - 1) → (∃ s ∈ leavesL (placeL 1 l x y), cov s.n c y) ∧ ∃ s ∈ leavesL (placeL 1 l x y), cov s.n c (y + (l.map fun k => k.n.b + 1).sum - 2))
  | [], x, y, B, _, _, _, _, _, _ => by rw [placeL_nil, leavesL_nil]; simp
  | k :: l, x, y, B, h, hx, hy, hs, hB, hyB => by
    obtain ⟨hk, hkb, hL⟩ := h k (by simp)
    have hg := hk.ge
    rw [T.er_a, T.er_b] at hg
    simp only [List.map_cons, List.sum_cons] at hs
    have hrest : 0 ≤ (l.map fun k => k.n.b + 1).sum := sum_nn (fun k => k.n.b + 1) l fun j hj => by
      have := (h j (by simp [hj])).1.ge
      rw [T.er_a, T.er_b] at this; omega
    have hxa : x + k.n.a ≤ 1000 := by omega
    have hyb : y + k.n.b ≤ 1000 := by omega
    have hLk := hL x y hx hy hxa hyb
    have e1 : nx 1 k.n x = x := by
      unfold nx; rw [if_neg (by decide)]
    have e2 : ny 1 k.n y = y + (k.n.b + 1) := by
      unfold ny; rw [if_neg (by decide), wr_of (z := k.n.b + 1) (by omega), wr_of (by omega)]
    rw [placeL_cons, leavesL_cons, e1, e2]
    obtain ⟨i1, i2, i3⟩ := row_1 l x (y + (k.n.b + 1)) B (fun j hj => h j (by simp [hj])) (by omega) (by omega) (by omega) hB (by omega)
    have hw : ∀ s ∈ (k.place x y).leaves, within x y (x + k.n.a) (y + k.n.b) s.n := fun s hs => leaf_within hk hx hy hxa hyb hs
    refine ⟨?_, ?_, ?_⟩
    · rw [List.map_append, List.pairwise_append]
      refine ⟨hLk.ap, i1, ?_⟩
      intro a ha b hb
      obtain ⟨s, hs, rfl⟩ := List.mem_map.1 ha
      obtain ⟨r, hr, rfl⟩ := List.mem_map.1 hb
      have q1 := hw s hs
      have q2 := i2 r hr
      unfold within at q1
      unfold apart
      omega
    · intro s hs
      rcases List.mem_append.1 hs with hs | hs
      · have q1 := hw s hs
        unfold within at q1
        omega
      · have := i2 s hs; omega
    · intro _ c hc
      constructor
      · obtain ⟨s, hs, hcv⟩ := hLk.cn c y (by omega) (.inl rfl)
        exact ⟨s, by simp [hs], hcv⟩
      · cases l with
        | nil =>
          obtain ⟨s, hs, hcv⟩ := hLk.cn c (y + k.n.b - 1) (by omega) (.inr rfl)
          refine ⟨s, by simp [hs], ?_⟩
          unfold cov at hcv ⊢
          simp only [List.map_cons, List.map_nil, List.sum_cons, List.sum_nil]
          omega
        | cons k2 l2 =>
          obtain ⟨_, s, hs, hcv⟩ := i3 (by simp) c (by omega)
          refine ⟨s, by simp [hs], ?_⟩
          unfold cov at hcv ⊢
          simp only [List.map_cons, List.sum_cons] at hcv ⊢
          omega
theorem laid_tree (t : T) : ∀ x y : Int, t.er.ok → 0 ≤ x → 0 ≤ y → x + t.n.a ≤ 1000 → y + t.n.b ≤ 1000 → Laid t x y := by
  induction t using T.ind with
  | h n ks ih =>
    intro x y hok hx hy hxa hyb
    change x + n.a ≤ 1000 at hxa
    change y + n.b ≤ 1000 at hyb
    rcases ok_T.1 hok with ⟨h1, h2, h3, h4, h5⟩ | ⟨h1, h2, h3, h4, h5, h6, h7, h8⟩
    · subst h1
      have e : ((T.mk n []).place x y).leaves = [.mk { n with x := x, y := y } []] := by rw [T.place_mk, placeL_nil, leaves_leaf]
      refine ⟨by rw [e]; simp, fun cx cy hcx hcy => ⟨_, by rw [e]; exact List.mem_singleton.2 rfl, ?_⟩⟩
      change cx = x ∨ cx = x + n.a - 1 at hcx
      change cy = y ∨ cy = y + n.b - 1 at hcy
      unfold cov T.n
      dsimp only
      omega
    · have hne : ks ≠ [] := by rintro rfl; simp at h4
      have e : ((T.mk n ks).place x y).leaves = leavesL (placeL n.way ks x y) := by
        rw [T.place_mk, T.leaves_mk, placeL_len, if_neg (by omega)]; rfl
      have hks : ∀ k ∈ ks, k.er.ok ∧ ∀ x y : Int, 0 ≤ x → 0 ≤ y → x + k.n.a ≤ 1000 → y + k.n.b ≤ 1000 → Laid k x y := fun k hk => ⟨h8 k hk, fun x y q1 q2 q3 q4 => ih k hk x y (h8 k hk) q1 q2 q3 q4⟩
      rcases h5 with hw | hw
      · rw [hw] at h6 h7 e
        have h7' : (ks.map fun k => k.n.a + 1).sum = n.a + 1 := h7
        obtain ⟨r1, r2, r3⟩ := row_0 ks x y n.b (fun k hk => ⟨(hks k hk).1, h6 k hk, (hks k hk).2⟩) hx hy (by omega) h3 hyb
        refine ⟨by rw [e]; exact r1, fun cx cy hcx hcy => ?_⟩
        change cx = x ∨ cx = x + n.a - 1 at hcx
        rw [e]
        obtain ⟨q1, q2⟩ := r3 hne cy hcy
        rw [h7', show x + (n.a + 1) - 2 = x + n.a - 1 by omega] at q2
        rcases hcx with rfl | rfl
        · exact q1
        · exact q2
      · rw [hw] at h6 h7 e
        have h7' : (ks.map fun k => k.n.b + 1).sum = n.b + 1 := h7
        obtain ⟨r1, r2, r3⟩ := row_1 ks x y n.a (fun k hk => ⟨(hks k hk).1, h6 k hk, (hks k hk).2⟩) hx hy (by omega) h2 hxa
        refine ⟨by rw [e]; exact r1, fun cx cy hcx hcy => ?_⟩
        change cy = y ∨ cy = y + n.b - 1 at hcy
        rw [e]
        obtain ⟨q1, q2⟩ := r3 hne cx hcx
        rw [h7', show y + (n.b + 1) - 2 = y + n.b - 1 by omega] at q2
        rcases hcy with rfl | rfl
        · exact q1
        · exact q2
/-- What tiles asks of a tree that lies well. -/
structure TileOk (t : T) : Prop where
  sz : 1 ≤ t.n.a ∧ t.n.a ≤ 250 ∧ 1 ≤ t.n.b ∧ t.n.b ≤ 120
  inn : ∀ s ∈ t.leaves, 1 ≤ s.n.p ∧ 0 ≤ s.n.x ∧ 1 ≤ s.n.a ∧ s.n.x + s.n.a ≤ t.n.a ∧ 0 ≤ s.n.y ∧ 1 ≤ s.n.b ∧ s.n.y + s.n.b ≤ t.n.b
  ap : (t.leaves.map T.n).Pairwise apart
  cn : ∀ cx cy, (cx = 0 ∨ cx = t.n.a - 1) → (cy = 0 ∨ cy = t.n.b - 1) → ∃ s ∈ t.leaves, cov s.n cx cy
theorem Fine.tile {t : T} {k : Int} (h : Fine t k) : TileOk t := by
  have hg := h.ok.ge
  rw [T.er_a, T.er_b] at hg
  have hsz := h.sz
  have hL := laid_tree t 0 0 h.ok (Int.le_refl _) (Int.le_refl _) (by omega) (by omega)
  rw [← h.pl] at hg hsz ⊢
  have e := h.pl
  refine ⟨?_, fun s hs => ?_, hL.ap, fun cx cy h1 h2 => ?_⟩
  · omega
  · have hw := leaf_within h.ok (Int.le_refl 0) (Int.le_refl 0) (by have := h.sz; omega) (by have := h.sz; omega) hs
    unfold within at hw
    have hnd := nds_ok t h.ok s.n (by rw [e] at hs; exact leaf_nds hs)
    have hp := h.pk s.n.p (by rw [← T.leaves_ps]; rw [e] at hs; exact List.mem_map_of_mem hs)
    rw [e]
    omega
  · rw [e] at h1 h2
    exact hL.cn cx cy (by omega) (by omega)
end Go.Proofs.YtcklmkjlbpjojaaDoor
namespace Go.Proofs.YtcklmkjlbpjojaaDoor
open Go.RowKit
set_option linter.unusedSimpArgs false
set_option linter.unusedVariables false

/-- A row of A times B ints that reads as f. -/
def Grid (gb : Nat) (A B : Int) (f : Int → Int → Int) (w : World) : Prop :=
  ∃ arr : List Int, (arr.length : Int) = A * B ∧ w.heap[gb]? = some (.cells (arr.map (Value.int .i64)).toArray 3 (0, 0)) ∧ ∀ x y : Int, 0 ≤ x → x < A → 0 ≤ y → y < B → arr[(y * A + x).toNat]? = some (f x y)
theorem idx_bd {A B x y : Int} (hx : 0 ≤ x) (hxa : x < A) (hy : 0 ≤ y) (hyb : y < B) : 0 ≤ y * A ∧ y * A + x < A * B := by
  have h1 : 0 ≤ y * A := Int.mul_nonneg hy (by omega)
  have h2 : (y + 1) * A ≤ B * A := Int.mul_le_mul_of_nonneg_right (by omega) (by omega)
  rw [Int.add_mul, Int.one_mul] at h2
  rw [Int.mul_comm A B]
  omega
theorem idx_inj {A x y x' y' : Int} (hx : 0 ≤ x) (hxa : x < A) (hx' : 0 ≤ x') (hxa' : x' < A) (h : y * A + x = y' * A + x') : x = x' ∧ y = y' := by
  have e1 : (y * A + x) / A = y := by rw [Int.add_comm, Int.add_mul_ediv_right _ _ (by omega), Int.ediv_eq_zero_of_lt hx hxa]; omega
  have e2 : (y' * A + x') / A = y' := by rw [Int.add_comm, Int.add_mul_ediv_right _ _ (by omega), Int.ediv_eq_zero_of_lt hx' hxa']; omega
  have e3 : y = y' := by rw [← e1, ← e2, h]
  subst e3
  omega
theorem Grid.cell {gb : Nat} {A B : Int} {f : Int → Int → Int} {w : World} (h : Grid gb A B f w) {x y : Int} (hx : 0 ≤ x) (hxa : x < A) (hy : 0 ≤ y) (hyb : y < B) :
    w.cell? ⟨gb, (y * A + x).toNat, none⟩ = some (.int .i64 (f x y)) ∧ w.frozen? ⟨gb, (y * A + x).toNat, none⟩ = false := by
  obtain ⟨arr, h1, h2, h3⟩ := h
  refine ⟨?_, free_of_heap h2 _⟩
  rw [cell_of_heap h2]
  have := h3 x y hx hxa hy hyb
  simp [this]
theorem Grid.off {gb : Nat} {A B : Int} {f : Int → Int → Int} {w w' : World} {S : List Nat} (h : Grid gb A B f w) (o : Off S w w') (hS : gb ∉ S) : Grid gb A B f w' := by
  obtain ⟨arr, h1, h2, h3⟩ := h
  exact ⟨arr, h1, (o.block gb (lt_of_heap h2) hS).trans h2, h3⟩
theorem Grid.congr {gb : Nat} {A B : Int} {f g : Int → Int → Int} {w : World} (h : Grid gb A B f w) (e : ∀ x y : Int, 0 ≤ x → x < A → 0 ≤ y → y < B → f x y = g x y) : Grid gb A B g w := by
  obtain ⟨arr, h1, h2, h3⟩ := h
  exact ⟨arr, h1, h2, fun x y a b c d => by rw [h3 x y a b c d, e x y a b c d]⟩
theorem Grid.set {gb : Nat} {A B : Int} {f : Int → Int → Int} {w : World} (h : Grid gb A B f w) {X Y : Int} (hx : 0 ≤ X) (hxa : X < A) (hy : 0 ≤ Y) (hyb : Y < B) (v : Int) :
    Grid gb A B (fun x y => if x = X ∧ y = Y then v else f x y) (w.setCell ⟨gb, (Y * A + X).toNat, none⟩ (.int .i64 v)) := by
  obtain ⟨arr, h1, h2, h3⟩ := h
  refine ⟨arr.set (Y * A + X).toNat v, by rw [List.length_set]; exact h1, ?_, fun x y a b c d => ?_⟩
  · rw [heap_set h2, List.setIfInBounds_toArray, ← List.map_set]
  · obtain ⟨p1, p2⟩ := idx_bd hx hxa hy hyb
    obtain ⟨q1, q2⟩ := idx_bd a b c d
    rw [List.getElem?_set]
    by_cases e : x = X ∧ y = Y
    · obtain ⟨rfl, rfl⟩ := e
      rw [if_pos rfl, if_pos (by omega)]
      show some v = some (if x = x ∧ y = y then v else f x y)
      rw [if_pos ⟨rfl, rfl⟩]
    · rw [if_neg]
      · show _ = some (if x = X ∧ y = Y then v else f x y)
        rw [if_neg e]
        exact h3 x y a b c d
      · intro e2
        refine e ?_
        have e3 : y * A + x = Y * A + X := by omega
        exact idx_inj a b hx hxa e3
theorem made_one (v : Value) (n : Nat) : madeCells #[v] n = (List.replicate n v).toArray := by
  apply Array.ext'
  simp [madeCells, Nat.mod_one]
  refine List.ext_getElem? fun i => ?_
  rw [List.getElem?_map, List.getElem?_replicate]
  by_cases h : i < n
  · rw [List.getElem?_range h, if_pos h]; rfl
  · rw [if_neg h, List.getElem?_eq_none (by simpa using h)]; rfl
theorem Grid.new {gb N : Nat} {A B : Int} {w : World} (hN : (N : Int) = A * B) (h : w.heap[gb]? = some (.cells (List.replicate N (Value.int .i64 0)).toArray 3 (0, 0))) : Grid gb A B (fun _ _ => 0) w := by
  refine ⟨List.replicate N 0, by simpa using hN, by simpa using h, fun x y a b c d => ?_⟩
  obtain ⟨p1, p2⟩ := idx_bd a b c d
  rw [List.getElem?_replicate, if_pos (by omega)]

instance covDec (m : Nd) (x y : Int) : Decidable (cov m x y) := by unfold cov; infer_instance
/-- Whose a place is among some panes. -/
def fcov (ls : List T) (x y : Int) : Int := match ls.find? (fun s => decide (cov s.n x y)) with | some s => s.n.p | none => 0
theorem cov_apart {m m' : Nd} (h : apart m m') {x y : Int} (h1 : cov m x y) : ¬ cov m' x y := by unfold apart at h; unfold cov at *; omega
theorem fcov_nil (x y : Int) : fcov [] x y = 0 := rfl
theorem fcov_none {ls : List T} {x y : Int} (h : ∀ s ∈ ls, ¬ cov s.n x y) : fcov ls x y = 0 := by
  unfold fcov
  rw [List.find?_eq_none.2 fun s hs => by simpa using h s hs]
theorem fcov_some {ls : List T} {x y : Int} {s : T} (hs : s ∈ ls) (hc : cov s.n x y) (hp : ∀ r ∈ ls, 1 ≤ r.n.p) : fcov ls x y ≠ 0 := by
  unfold fcov
  cases h : ls.find? (fun s => decide (cov s.n x y)) with
  | none => have := List.find?_eq_none.1 h s hs; simp [hc] at this
  | some r => have := hp r (List.mem_of_find?_eq_some h); show r.n.p ≠ 0; omega
theorem fcov_snoc (ls : List T) (s : T) (h : ∀ r ∈ ls, apart r.n s.n) (x y : Int) : (cov s.n x y → fcov ls x y = 0 ∧ fcov (ls ++ [s]) x y = s.n.p) ∧ (¬ cov s.n x y → fcov (ls ++ [s]) x y = fcov ls x y) := by
  constructor
  · intro hc
    have hno : ∀ r ∈ ls, ¬ cov r.n x y := fun r hr h1 => cov_apart (h r hr) h1 hc
    refine ⟨fcov_none hno, ?_⟩
    unfold fcov
    rw [List.find?_append, List.find?_eq_none.2 fun s hs => by simpa using hno s hs]
    simp [hc]
  · intro hc
    unfold fcov
    rw [List.find?_append]
    cases h1 : ls.find? (fun s => decide (cov s.n x y)) with
    | some r => simp
    | none => simp [hc]
/-- The grid while pane s is being drawn. -/
def fmid (ls : List T) (s : T) (X Y : Int) (x y : Int) : Int := if cov s.n x y ∧ (y < Y ∨ (y = Y ∧ x < X)) then s.n.p else fcov ls x y
theorem take_apart {l : List T} (hp : (l.map T.n).Pairwise apart) {j : Nat} {s : T} (hs : l[j]? = some s) : ∀ r ∈ l.take j, apart r.n s.n := by
  intro r hr
  have h := hp
  rw [split_at hs, List.map_append, List.map_cons, List.pairwise_append] at h
  exact h.2.2 _ (List.mem_map_of_mem hr) _ (by simp)
end Go.Proofs.YtcklmkjlbpjojaaDoor
