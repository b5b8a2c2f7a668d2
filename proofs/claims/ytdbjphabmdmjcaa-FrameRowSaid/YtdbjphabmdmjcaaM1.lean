/- Words for a slice in the midst of a block of the call's own (one-cell elements): appends onto it, cuts of it. No program in sight. -/
import Derived.Test.YtdbjphabmdmjcaaBase
import Derived.Deep.AppendSrc
import Derived.Deep.Upon
import Derived.Laws.IdiomCopy
namespace Go.Proofs.Ytdbjphabmdmjcaa
open Go.RowKit
set_option linter.unusedSimpArgs false
set_option linter.unusedVariables false

/-- The slice lies in a block of the call's own (of blocks from base on), has n one-cell elements xs, and room for c. -/
def Mid (w : World) (base : Nat) (e : TypeId) (A : Option Addr) (n c : Nat) (xs : List Value) : Prop :=
  xs.length = n ∧ n ≤ c ∧ c ≤ maxLen ∧ Rd w A xs ∧ ((A = none ∧ c = 0) ∨ ∃ g off cur, A = some ⟨g, off, none⟩ ∧ base ≤ g ∧ w.heap[g]? = some (.cells cur e (0, 0)) ∧ off + c ≤ cur.size)
def cutA (A : Option Addr) (c k : Nat) : Option Addr := if c = k then A else A.map fun a => a.add k
theorem map_add0 (A : Option Addr) : (A.map fun a => a.add 0) = A := by cases A <;> simp [Addr.add]
section
variable {w w' : World} {base : Nat} {e : TypeId} {A : Option Addr} {n c : Nat} {xs : List Value}
theorem Mid.nil (w : World) (base : Nat) (e : TypeId) : Mid w base e none 0 0 [] := ⟨rfl, Nat.le_refl _, Nat.zero_le _, Rd.nil _ _, .inl ⟨rfl, rfl⟩⟩
theorem Mid.rd (h : Mid w base e A n c xs) : Rd w A xs := h.2.2.2.1
theorem Mid.block (h : Mid w base e A n c xs) : ∀ b, ablk A = some b → base ≤ b ∧ b < w.heap.size ∧ ∃ cur, w.heap[b]? = some (.cells cur e (0, 0)) := by
  intro b hb
  obtain ⟨_, _, _, _, ⟨rfl, _⟩ | ⟨g, off, cur, rfl, h1, h2, _⟩⟩ := h
  · cases hb
  · injection hb with hb
    subst hb
    refine ⟨h1, ?_, cur, h2⟩
    rcases Nat.lt_or_ge g w.heap.size with hlt | hge
    · exact hlt
    · rw [Array.getElem?_eq_none hge] at h2; cases h2
theorem Mid.grown (h : Mid w base e A n c xs) {row : Option Nat} (hg : w.grownBy w' row) (hne : row = none ∨ ablk A ≠ row) : Mid w' base e A n c xs := by
  have hb := h.block
  obtain ⟨h1, h2, h3, h4, h5⟩ := h
  refine ⟨h1, h2, h3, h4.grown hg hne, ?_⟩
  rcases h5 with h5 | ⟨g, off, cur, rfl, k1, k2, k3⟩
  · exact .inl h5
  · refine .inr ⟨g, off, cur, rfl, k1, (hg.block g (hb g rfl).2.1 ?_).trans k2, k3⟩
    rcases hne with rfl | hne
    · simp
    · exact hne
theorem Mid.cut (h : Mid w base e A n c xs) (k : Nat) (hk : k ≤ n) : Mid w base e (cutA A c k) (n - k) (c - k) (xs.drop k) := by
  unfold cutA
  obtain ⟨h1, h2, h3, h4, h5⟩ := h
  rcases h5 with ⟨rfl, rfl⟩ | ⟨g, off, cur, rfl, k1, k2, k3⟩
  · have e1 : k = 0 := by omega
    have e2 : n = 0 := by omega
    subst e1; subst e2
    exact ⟨by rw [List.length_drop, h1], Nat.le_refl _, Nat.zero_le _, by simpa using h4, .inl ⟨by simp, rfl⟩⟩
  · have hc := Rd.cut k c h4 (by omega)
    by_cases hck : c = k
    · subst hck
      simp only [if_true] at hc ⊢
      exact ⟨by rw [List.length_drop, h1], by omega, by omega, hc, .inr ⟨g, off, cur, rfl, k1, k2, by omega⟩⟩
    · simp only [if_neg hck] at hc ⊢
      refine ⟨by rw [List.length_drop, h1], by omega, by omega, ?_, .inr ⟨g, off + k, cur, by simp [Addr.add_lit], k1, k2, by omega⟩⟩
      simpa [Addr.add_lit] using hc
theorem Mid.le (h : Mid w base e A n c xs) {base' : Nat} (hb : base' ≤ base) : Mid w base' e A n c xs := by
  obtain ⟨h1, h2, h3, h4, h5⟩ := h
  refine ⟨h1, h2, h3, h4, ?_⟩
  rcases h5 with h5 | ⟨g, off, cur, hA, k1, k2, k3⟩
  · exact .inl h5
  · exact .inr ⟨g, off, cur, hA, by omega, k2, k3⟩
end
theorem setCells_g (g : Nat) : ∀ (vs : List Value) (o : Nat) (w : World), w.grownBy (w.setCells g o vs) (some g)
  | [], _, w => World.grownBy.refl w _
  | v :: r, o, w => by
    have h1 : w.grownBy (w.setCell ⟨g, o, none⟩ v) (some g) := ⟨rfl, rfl, rfl, by simp [World.setCell], fun k hk hne => by
      have : k ≠ g := fun e => hne (by rw [e])
      exact Below.heap_setCell _ _ _ _ this⟩
    exact h1.trans (setCells_g g r (o + 1) _)
theorem setCells_heap (g : Nat) (e : TypeId) : ∀ (vs : List Value) (o : Nat) (w : World) (cur : Array Value), w.heap[g]? = some (.cells cur e (0, 0)) → ∃ cur', (w.setCells g o vs).heap[g]? = some (.cells cur' e (0, 0)) ∧ cur'.size = cur.size
  | [], _, w, cur, h => ⟨cur, h, rfl⟩
  | v :: r, o, w, cur, h => by
    have h1 : (w.setCell ⟨g, o, none⟩ v).heap[g]? = some (.cells (cur.setIfInBounds o v) e (0, 0)) := by simp [World.setCell, Array.getElem?_modify, h]
    obtain ⟨cur', h2, h3⟩ := setCells_heap g e r (o + 1) _ _ h1
    exact ⟨cur', h2, by rw [h3]; simp⟩

section
variable {P : Program} (w : World)
theorem run_append_mid (base : Nat) (t tx ty e : TypeId) (i : TypeInfo) (z : Value) (ht : P.underlying t = some (.slice e)) (hi : P.info? e = some i) (hz : i.zero = some z) (hsize : i.size = 1) (hby : i.bytes ≤ 16) (hzs : z.cells.size = 1)
    (A : Option Addr) (n c : Nat) (xs : List Value) (hm : Mid w base e A n c xs) (x : Value) (m : Nat) (news : List Value) (hs : Src P 1 tx x m news w) (hbytes : (n + m) * i.bytes ≤ 140737488355328) (h63 : n + m ≤ maxLen) (hbase : base ≤ w.heap.size) :
    ∃ A' c' w', (Builtin.append_ #[t, tx] ty #[.slice A n c, x]).run P w = .ok (.slice A' (n + m) c') w' ∧ Mid w' base e A' (n + m) c' (xs ++ news) ∧ w.grownBy w' (ablk A) ∧ (ablk A' = ablk A ∨ ablk A' = some w.heap.size) := by
  have hl := hs.newsLen
  rw [Nat.mul_one] at hl
  obtain ⟨h1, h2, h3, h4, h5⟩ := hm
  have hlen : (xs ++ news).length = n + m := by rw [List.length_append, h1, hl]
  by_cases hm0 : m = 0
  · subst hm0
    have hn : news = [] := List.eq_nil_of_length_eq_zero hl
    subst hn
    refine ⟨A, c, w, run_append_nothing w t tx ty e i ht hi A n c h2 x (by rw [hsize]; exact hs), ⟨by simpa using h1, by omega, h3, by simpa using h4, h5⟩, World.grownBy.refl w _, .inl rfl⟩
  by_cases hroom : n + m ≤ c
  · rcases h5 with ⟨rfl, rfl⟩ | ⟨g, off, cur, rfl, k1, k2, k3⟩
    · omega
    · have hc : ∀ j, j < news.length → (w.cell? ⟨g, off + n + j, none⟩).isSome = true := by
        intro j hj
        simp only [World.cell?, k2]
        rw [Array.getElem?_eq_getElem (by omega)]; rfl
      have hf : ∀ j, j < news.length → w.frozen? ⟨g, off + n + j, none⟩ = false := by
        intro j hj
        simp [World.frozen?, k2]
      have hr := run_append_room_src (P := P) w t tx ty e i ht hi g off n c x m news (by rw [hsize]; exact hs) hroom (by rw [hsize, Nat.mul_one]; exact hc) (by rw [hsize, Nat.mul_one]; exact hf)
      rw [hsize, Nat.mul_one] at hr
      obtain ⟨cur', q1, q2⟩ := setCells_heap g e news (off + n) w cur k2
      refine ⟨_, _, _, hr, ⟨hlen, hroom, h3, ?_, .inr ⟨g, off, cur', rfl, k1, q1, by omega⟩⟩, setCells_g g news (off + n) w, .inl rfl⟩
      intro _
      refine ⟨g, off, rfl, ?_, fun j u hj => ?_⟩
      · have hlt : g < w.heap.size := by
          rcases Nat.lt_or_ge g w.heap.size with hlt | hge
          · exact hlt
          · rw [Array.getElem?_eq_none hge] at k2; cases k2
        exact Nat.lt_of_lt_of_le hlt (setCells_g g news (off + n) w).size
      · by_cases hjn : j < n
        · rw [World.cell?_setCells_out g news (off + n) w ⟨g, off + j, none⟩ (fun _ _ => .inl (by show off + j < off + n; omega))]
          rw [List.getElem?_append_left (by omega)] at hj
          obtain ⟨b', o', e1, _, k⟩ := h4.at_ hj
          injection e1 with e1; injection e1 with e1 e2
          subst e1; subst e2
          exact k
        · rw [List.getElem?_append_right (by omega), h1] at hj
          have hj2 : j - n < news.length := (List.getElem?_eq_some_iff.1 hj).1
          have := World.cell?_setCells_in g news (off + n) w hc (j - n) hj2
          have e1 : off + n + (j - n) = off + j := by omega
          rw [e1] at this
          rw [this, ← hj, List.getElem?_eq_getElem hj2]
  · have hold : (Builtin.firstCells i.size n (.slice A n c)).run P w.drew = .ok xs.toArray w.drew := by
      rw [hsize]
      rcases h5 with ⟨rfl, rfl⟩ | ⟨g, off, cur, rfl, k1, k2, k3⟩
      · have e0 : n = 0 := by omega
        subst e0
        have : xs = [] := List.eq_nil_of_length_eq_zero h1
        subst this
        exact run_firstCells_none w.drew 1 0 0 0
      · refine run_firstCells_some w.drew 1 n ⟨g, off, none⟩ n c xs (by rw [h1, Nat.mul_one]) fun j v hj => ?_
        obtain ⟨b', o', e1, _, k⟩ := h4.at_ hj
        injection e1 with e1; injection e1 with e1 e2
        subst e1; subst e2
        rw [Addr.add_lit]
        exact k
    have hr := run_append_grow_src (P := P) w t tx ty e i z ht hi hz A n c xs hold x m news (by rw [hsize]; exact hs) (by omega) (by unfold maxLen at h63; omega) (growslice_fits (by omega) hbytes)
    have hge := grownCap_ge w (n + m) c e
    have hcm : grownCap w (n + m) c e ≤ maxLen := grownCap_le_maxLen w (n + m) c e h63
    refine ⟨_, _, _, hr, ⟨hlen, hge, hcm, ?_, .inr ⟨w.heap.size, 0, _, rfl, hbase, heap_alloc_new w.drew _, ?_⟩⟩, ⟨rfl, rfl, rfl, by simp, fun k hk _ => heap_alloc_old w.drew _ hk⟩, .inr rfl⟩
    · intro _
      refine ⟨_, _, rfl, by simp, fun j u hj => ?_⟩
      have hh : (w.drew.alloc (.cells ((xs ++ news).toArray ++ Builtin.zeroCells z.cells (grownCap w (n + m) c e - (n + m))) e)).heap[w.heap.size]? = some (.cells ((xs ++ news).toArray ++ Builtin.zeroCells z.cells (grownCap w (n + m) c e - (n + m))) e) := heap_alloc_new w.drew _
      have hjl := (List.getElem?_eq_some_iff.1 hj).1
      simp only [World.cell?, hh, Nat.zero_add]
      rw [Array.getElem?_append_left (by simpa using hjl)]
      simpa using hj
    · rw [Array.size_append, List.size_toArray, hlen, size_zeroCells, hzs]
      omega

theorem wpList_append_mid {ops : Array Oper} {rest : List Oper} {o : Oper} {a : Act} {Q : Exit → Act → World → Prop} (hgd : o.guard = none) (s x : Operand) (t tx : TypeId)
    (ho : o.op = .call { callee := .builtin .append, args := #[s, x], argTypes := #[t, tx] })
    (base : Nat) (e : TypeId) (i : TypeInfo) (z : Value) (ht : P.underlying t = some (.slice e)) (hi : P.info? e = some i) (hz : i.zero = some z) (hsize : i.size = 1) (hby : i.bytes ≤ 16) (hzs : z.cells.size = 1)
    (A : Option Addr) (n c : Nat) (xs : List Value) (hev : a.eval s = .slice A n c) (hm : Mid w base e A n c xs) (m : Nat) (news : List Value) (hs : Src P 1 tx (a.eval x) m news w) (hbytes : (n + m) * i.bytes ≤ 140737488355328) (h63 : n + m ≤ maxLen) (hbase : base ≤ w.heap.size)
    (h : ∀ A' c' w', Mid w' base e A' (n + m) c' (xs ++ news) → w.grownBy w' (ablk A) → (ablk A' = ablk A ∨ ablk A' = some w.heap.size) → wpList P ops Q rest (a.put o.dst (.slice A' (n + m) c')) w') : wpList P ops Q (o :: rest) a w := by
  refine wpList_plain hgd fun K hK => ?_
  obtain ⟨A', c', w', hrun, h2, h3, h4⟩ := run_append_mid (P := P) w base t tx o.type e i z ht hi hz hsize hby hzs A n c xs hm (a.eval x) m news hs hbytes h63 hbase
  unfold Oper.wp execOp
  simp only [ho, resolve, invoke, builtin, Sem.run_bind, Sem.run_pure, Result.andThen_ok, List.map_toArray, List.map_cons, List.map_nil, hev, hrun]
  exact hK _ _ (h A' c' w' h2 h3 h4)
end
end Go.Proofs.Ytdbjphabmdmjcaa
