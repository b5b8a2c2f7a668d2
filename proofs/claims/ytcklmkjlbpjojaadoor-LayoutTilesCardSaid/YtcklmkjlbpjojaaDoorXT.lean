/- Layout: tiled: what its loop keeps. No walk. -/
import Derived.Test.YtcklmkjlbpjojaaDoorXR
import Derived.Test.YtcklmkjlbpjojaaDoorXS
import Derived.Test.YtcklmkjlbpjojaaDoorXU
import Derived.Test.YtcklmkjlbpjojaaDoorC4
namespace Go.Proofs.YtcklmkjlbpjojaaDoor.X
open Go.RowKit
set_option linter.unusedSimpArgs false
set_option linter.unusedVariables false

/-- What an append to a boxed row leaves. -/
theorem J_app {B h : Nat} {W w2 : World} {xs : List Value} {v : Value} {A A2 : Option Addr} {c c2 : Nat} (hh : W.heap[h]? = some (.cells #[.slice A xs.length c] 53 (0, 0))) (hO : W.ownsRow B 55 1 (.slice A xs.length c) xs.length xs) (hne : ablk A ≠ some h) (hB : B ≤ h)
    (O2 : w2.ownsRow B 55 1 (.slice A2 (xs.length + 1) c2) (xs.length + 1) (xs ++ [v])) (G2 : (W.alloc (.cells #[v] 55)).grownBy w2 (Value.slice A xs.length c).ownBlock) (hh2 : ablk A2 = (Value.slice A xs.length c).ownBlock ∨ ablk A2 = some (W.alloc (.cells #[v] 55)).heap.size) :
    w2.heap[h]? = some (.cells #[.slice A xs.length c] 53 (0, 0)) ∧ J B (w2.setCell ⟨h, 0, none⟩ (.slice A2 (xs.length + 1) c2)) h (xs ++ [v]) ∧ Below B W (w2.setCell ⟨h, 0, none⟩ (.slice A2 (xs.length + 1) c2)) ∧
      (∀ k o, W.heap[k]? = some o → k ≠ h → (∀ c fz, o ≠ .cells c 55 fz) → (w2.setCell ⟨h, 0, none⟩ (.slice A2 (xs.length + 1) c2)).heap[k]? = some o) ∧ W.heap.size ≤ (w2.setCell ⟨h, 0, none⟩ (.slice A2 (xs.length + 1) c2)).heap.size := by
  have hlt := lt_of_heap hh
  have e2 : w2.heap[h]? = some (.cells #[.slice A xs.length c] 53 (0, 0)) := by
    rw [G2.block h (by simp; omega) (by
      intro e
      rcases A with _ | ad
      · cases e
      · exact hne e.symm)]
    rw [(World.grownBy_alloc W _ none).block h hlt (by simp)]; exact hh
  have hA2 : ablk A2 ≠ some h := by
    rcases hh2 with e | e
    · rw [e]; rcases A with _ | ad
      · intro e; cases e
      · exact hne
    · rw [e]; intro e; injection e with e; simp at e; omega
  have hlen : (xs ++ [v]).length = xs.length + 1 := by simp
  have hgs := G2.size
  simp at hgs
  refine ⟨e2, ⟨⟨A2, c2, ?_, ?_, hA2⟩, hB⟩, ⟨G2.os, G2.tape, G2.output, by simp [World.setCell]; omega, fun j hj => ?_⟩, fun k o hk hkh ho => ?_, by simp [World.setCell]; omega⟩
  · rw [hlen]
    simp [World.setCell, Array.getElem?_modify, e2]
  · rw [hlen]
    exact own_same O2 fun b hb => by
      have hbh : b ≠ h := by
        rintro rfl
        apply hA2
        rcases A2 with _ | ad
        · cases hb
        · exact hb
      rw [Below.heap_setCell _ _ _ _ (by simpa using hbh)]
  · rw [Below.heap_setCell _ _ _ _ (by show j ≠ h; omega)]
    rw [G2.block j (by simp; omega) (by intro e; have := (hO.lt j e.symm).1; omega), (World.grownBy_alloc W _ none).block j (by omega) (by simp)]
  · rw [Below.heap_setCell _ _ _ _ (by show k ≠ h; exact hkh)]
    rw [G2.block k (by have := lt_of_heap hk; simp; omega) (by
      intro e
      rcases hO.2 with ⟨e3, _⟩ | ⟨g, cap, cur, e3, _, hgb, _⟩
      · rw [e3] at e; cases e
      · rw [e3] at e
        injection e with e
        dsimp only at e
        subst e
        rw [hgb] at hk; injection hk with hk
        exact ho _ _ hk.symm), (World.grownBy_alloc W _ none).block k (lt_of_heap hk) (by simp)]
    exact hk

/-- The leaves of piece x. -/
def piece (ls : List T) (c x : Nat) : List T := (ls.drop (x * c)).take c
theorem piece_len {ls : List T} {n c x : Nat} (hn : n = ls.length) : (piece ls c x).length = plen n c x := by unfold piece plen; rw [List.length_take, List.length_drop, hn]
theorem piece_mem {ls : List T} {c x : Nat} {k : T} (h : k ∈ piece ls c x) : k ∈ ls := List.mem_of_mem_drop (List.mem_of_mem_take h)
theorem plen_pos {n c x : Nat} (hc : 1 ≤ c) (hx : x * c < n) : 1 ≤ plen n c x := by unfold plen; omega
theorem blL_mem {ls : List T} {k : T} (h : k ∈ ls) {x : Nat} (hx : x ∈ k.bl) : x ∈ blL ls := mem_blL.2 ⟨k, h, hx⟩
theorem piece_bl {ls : List T} {c x : Nat} : ∀ b ∈ blL (piece ls c x), b ∈ blL ls := fun b hb => by
  obtain ⟨k, hk, hb⟩ := mem_blL.1 hb
  exact blL_mem (piece_mem hk) hb

/-- What tiled starts from. -/
structure TEnv (G : Gh) (w : World) (B n c : Nat) (ls : List T) (q : Nat → Nat) : Prop where
  hn : n = ls.length
  n1 : 1 ≤ n ∧ n ≤ 1000
  c1 : 1 ≤ c ∧ c ≤ 1000
  K : ∀ k ∈ ls, ∃ up, TP G w up k
  lf : ∀ k ∈ ls, k.ks = []
  R : ∀ x, x * c < n → RowAt G w (some (q x)) (plen n c x) (plen n c x) (ptrs (piece ls c x))
  α : ∀ x, x * c < n → G.α (q x) = (B, x * c)
  nd : ((List.range (pnum n c)).map q ++ blL ls).Nodup
  m : G.m ≤ w.heap.size
/-- The new node of piece x. -/
def nodeT (a b : Int) (n c : Nat) (ls : List T) (q : Nat → Nat) (s x : Nat) : T := .mk ⟨s, some (q x), plen n c x, 0, 0, 0, a, b, 0⟩ (piece ls c x)
def nodeO (a b : Int) (B n c x : Nat) : Obj := .cells #[.int .i64 0, .int .i64 0, .int .i64 0, .int .i64 a, .int .i64 b, .int .i64 0, .slice (some ⟨B, x * c, none⟩) (plen n c x) (plen n c x), .pointer none] 58 (0, 0)
theorem node_ne {a b : Int} {B n c x : Nat} {cs : Array Value} {e : TypeId} {fz : Nat × Nat} (h : e ≠ 58) : nodeO a b B n c x ≠ Obj.cells cs e fz := by
  intro h2
  unfold nodeO at h2
  simp only [Obj.cells.injEq] at h2
  exact h h2.2.1.symm
theorem bl_uniq : ∀ {ls : List T}, (blL ls).Nodup → ∀ {k t : T}, k ∈ ls → t ∈ ls → ∀ {y : Nat}, y ∈ k.bl → y ∈ t.bl → k = t
  | [], _, _, _, h, _, _, _, _ => by cases h
  | k0 :: ls, nd, k, t, hk, ht, y, h1, h2 => by
    rw [blL_cons] at nd
    obtain ⟨n1, n2, n3⟩ := List.nodup_append.1 nd
    rcases List.mem_cons.1 hk with rfl | hk' <;> rcases List.mem_cons.1 ht with rfl | ht'
    · rfl
    · exact absurd rfl (n3 y h1 y (blL_mem ht' h2))
    · exact absurd rfl (n3 y h2 y (blL_mem hk' h1))
    · exact bl_uniq n2 hk' ht' h1 h2
/-- What piece x came to. -/
def TileR (base : Nat) (a b : Int) (B n c : Nat) (ls : List T) (q : Nat → Nat) (x : Nat) (t : T) (W : World) : Prop :=
  (plen n c x = 1 ∧ ls[x * c]? = some t) ∨ (plen n c x ≠ 1 ∧ ∃ s, t = nodeT a b n c ls q s x ∧ base ≤ s ∧ W.heap[s]? = some (nodeO a b B n c x))
/-- The new nodes among them. -/
def heads (ts : List T) : List Nat := ts.flatMap fun t => if t.ks = [] then [] else [t.g]
theorem heads_app (l r : List T) : heads (l ++ r) = heads l ++ heads r := by unfold heads; rw [List.flatMap_append]
theorem heads_one (t : T) : heads [t] = if t.ks = [] then [] else [t.g] := by unfold heads; simp
/-- Between two rounds. -/
structure TI (G : Gh) (w : World) (B n c : Nat) (ls : List T) (q : Nat → Nat) (a b : Int) (rb sb sB nB : Nat) (vS vN : Value) (pre : List (Pc n c)) (W : World) : Prop where
  o : Off G (ls.map T.g) w W
  K : ∀ k ∈ ls, ∃ up, TP G W up k
  sz : W.heap[sb]? = some (.cells #[.int .i64 a, .int .i64 b] 56 (0, 0))
  s1 : W.heap[sB]? = some (.cells #[vS] 53 (0, 0))
  s2 : W.heap[nB]? = some (.cells #[vN] 3 (0, 0))
  r : ∃ ts : List T, ts.length = pre.length ∧ J w.heap.size W rb (ptrs ts) ∧ (∀ (i : Nat) (x : Pc n c) (t : T), pre[i]? = some x → ts[i]? = some t → TileR w.heap.size a b B n c ls q x.1 t W) ∧ (heads ts).Nodup
section
variable {G : Gh} {w W W' : World} {B n c : Nat} {ls : List T} {q : Nat → Nat} {a b : Int} {rb sb sB nB : Nat} {vS vN : Value} {pre : List (Pc n c)}
theorem TileR.kept {x : Nat} {t : T} {base : Nat} (h : TileR base a b B n c ls q x t W) (hk : ∀ s, base ≤ s → W.heap[s]? = some (nodeO a b B n c x) → W'.heap[s]? = some (nodeO a b B n c x)) : TileR base a b B n c ls q x t W' := by
  rcases h with h | ⟨h1, s, h2, h3, h4⟩
  · exact .inl h
  · exact .inr ⟨h1, s, h2, h3, hk s h3 h4⟩
/-- Cells lie as they lay. -/
structure CK (W W' : World) : Prop where
  os : W'.os = W.os
  tape : W'.tape = W.tape
  output : W'.output = W.output
  size : W.heap.size ≤ W'.heap.size
  cells : ∀ (k : Nat) (c : Array Value) (e : TypeId) (f : Nat × Nat), W.heap[k]? = some (Obj.cells c e f) → W'.heap[k]? = some (Obj.cells c e f)
theorem CK.of_grown {row : Option Nat} (g : W.grownBy W' row) (hr : ∀ r, row = some r → ∃ o : Obj, W.heap[r]? = some o ∧ o.isCells = false) : CK W W' := ⟨g.os, g.tape, g.output, g.size, fun k c e f h => by
  rw [g.block k (lt_of_heap h) (fun e2 => by
    obtain ⟨o, ho, hc⟩ := hr k e2.symm
    rw [h] at ho; injection ho with ho; subst ho; cases hc)]
  exact h⟩
theorem CK.drew : CK W W.drew := ⟨rfl, rfl, rfl, Nat.le_refl _, fun _ _ _ _ h => h⟩
theorem CK.tp {t : T} {up : Option Nat} (h : CK W W') (k : TP G W up t) : TP G W' up t := k.same _ _ h.size fun b _ k c e _ hk => ⟨c, h.cells k c e _ hk, rfl, fun _ _ => rfl⟩
theorem CK.j {base h : Nat} {xs : List Value} (k : CK W W') (j : J base W h xs) : J base W' h xs := by
  obtain ⟨⟨A, c, h1, h2, h3⟩, hB⟩ := j
  refine ⟨⟨A, c, k.cells _ _ _ _ h1, own_same h2 fun b hb => ?_, h3⟩, hB⟩
  rcases h2.2 with ⟨e3, _⟩ | ⟨g, cap, cur, e3, _, hgb, _⟩
  · rw [e3] at hb; cases hb
  · rw [e3] at hb
    injection hb with hb
    dsimp only at hb
    subst hb
    rw [hgb]; exact k.cells _ _ _ _ hgb
/-- The invariant outlives what turns no cells and, of the rest, nothing that lay when tiled began. -/
theorem TI.ck (h : TI G w B n c ls q a b rb sb sB nB vS vN pre W) (k : CK W W') (ho : Off G [] W W' ∨ Below w.heap.size W W') : TI G w B n c ls q a b rb sb sB nB vS vN pre W' := by
  obtain ⟨ts, r1, r2, r3, r4⟩ := h.r
  refine ⟨?_, fun k' hk' => ?_, k.cells _ _ _ _ h.sz, k.cells _ _ _ _ h.s1, k.cells _ _ _ _ h.s2, ts, r1, k.j r2, fun i x t h1 h2 => (r3 i x t h1 h2).kept fun s _ hs => k.cells _ _ _ _ hs, r4⟩
  · refine ⟨k.os.trans h.o.os, k.tape.trans h.o.tape, k.output.trans h.o.output, Nat.le_trans h.o.size k.size, fun j hj hn => ?_, fun j c' e hj => ?_, h.o.m⟩
    · have e1 := h.o.block j hj hn
      rcases ho with ho | ho
      · rw [ho.block j (Nat.lt_of_lt_of_le hj h.o.size) (by simp)]; exact e1
      · rw [ho.block j hj]; exact e1
    · obtain ⟨c1, p1, p2, p3⟩ := h.o.part j c' e hj
      exact ⟨c1, k.cells _ _ _ _ p1, p2, p3⟩
  · obtain ⟨up, hT⟩ := h.K k' hk'
    exact ⟨up, k.tp hT⟩
theorem TI.own (B1 : Nat) (hB1 : w.heap.size ≤ B1) : OwnFrom B1 (TI G w B n c ls q a b rb sb sB nB vS vN) := fun s A A' row h hg hr => by
  refine h.ck (CK.of_grown hg fun r e => (hr r e).2) (.inr ⟨hg.os, hg.tape, hg.output, hg.size, fun j hj => hg.block j (Nat.lt_of_lt_of_le hj h.o.size) fun e => ?_⟩)
  · have := (hr j e.symm).1; omega
theorem TI.m (h : TI G w B n c ls q a b rb sb sB nB vS vN pre W) : G.m ≤ W.heap.size := h.o.m'
theorem TI.chk (h : TI G w B n c ls q a b rb sb sB nB vS vN pre W) {pre' : List (Pc n c)} (h' : TI G w B n c ls q a b rb sb sB nB vS vN pre' W') : ChK sB nB W W' := ⟨by rw [h'.s1, h.s1], by rw [h'.s2, h.s2]⟩
/-- A tile is appended. -/
theorem TI.add (E : TEnv G w B n c ls q) (h : TI G w B n c ls q a b rb sb sB nB vS vN pre W) {ts : List T} (r1 : ts.length = pre.length) (r3 : ∀ (i : Nat) (x : Pc n c) (t : T), pre[i]? = some x → ts[i]? = some t → TileR w.heap.size a b B n c ls q x.1 t W) (r4 : (heads ts).Nodup)
    {x : Pc n c} {t : T} (hb : Below w.heap.size W W') (hk : ∀ k o, W.heap[k]? = some o → k ≠ rb → (∀ c fz, o ≠ .cells c 55 fz) → W'.heap[k]? = some o) (hsz : W.heap.size ≤ W'.heap.size) (hr1 : sb ≠ rb) (hr2 : sB ≠ rb) (hr3 : nB ≠ rb) (hrb : ∃ v, W.heap[rb]? = some (.cells #[v] 53 (0, 0)))
    (hJ : J w.heap.size W' rb (ptrs ts ++ [ptr t.g])) (hx : TileR w.heap.size a b B n c ls q x.1 t W) (hh : ∀ s ∈ heads [t], s ∉ heads ts) : TI G w B n c ls q a b rb sb sB nB vS vN (pre ++ [x]) W' := by
  have hn58 : ∀ s y, W.heap[s]? = some (nodeO a b B n c y) → W'.heap[s]? = some (nodeO a b B n c y) := fun s y hs => hk s _ hs (by
    rintro rfl
    obtain ⟨v, hv⟩ := hrb
    rw [hv] at hs; injection hs with hs
    exact node_ne (by decide) hs.symm) (fun c' fz e => node_ne (by decide) e)
  refine ⟨⟨hb.os.trans h.o.os, hb.tape.trans h.o.tape, hb.output.trans h.o.output, Nat.le_trans h.o.size hsz, fun j hj hn => (hb.block j hj).trans (h.o.block j hj hn), fun j c' e hj => ?_, h.o.m⟩, fun k' hk' => ?_, hk _ _ h.sz hr1 (by simp), hk _ _ h.s1 hr2 (by simp), hk _ _ h.s2 hr3 (by simp), ts ++ [t], by simp [r1], ?_, fun i y t' h1 h2 => ?_, ?_⟩
  · obtain ⟨c1, p1, p2, p3⟩ := h.o.part j c' e hj
    exact ⟨c1, (hb.block j (lt_of_heap hj)).trans p1, p2, p3⟩
  · obtain ⟨up, hT⟩ := h.K k' hk'
    refine ⟨up, hT.same _ _ hsz fun y hy k2 c2 e2 ho2 hk2 => ⟨c2, ?_, rfl, fun _ _ => rfl⟩⟩
    obtain ⟨up0, hT0⟩ := E.K k' hk'
    have hyl : y < w.heap.size := by
      have : y ∈ k'.bl := hy
      exact hT0.lt _ _ y this
    obtain ⟨o, ho⟩ := ho2
    have hkl : k2 < w.heap.size := by
      have := E.m
      rcases G.ok k2 o with e | e <;> omega
    exact (hb.block k2 hkl).trans hk2
  · have : ptrs (ts ++ [t]) = ptrs ts ++ [ptr t.g] := by unfold ptrs; simp
    rw [this]; exact hJ
  · rcases Nat.lt_or_ge i pre.length with hi | hi
    · rw [List.getElem?_append_left hi] at h1
      rw [List.getElem?_append_left (by omega)] at h2
      exact (r3 i y t' h1 h2).kept fun s _ hs => hn58 s _ hs
    · rw [List.getElem?_append_right hi] at h1
      rw [List.getElem?_append_right (by omega)] at h2
      obtain ⟨h3, e1⟩ : i - pre.length = 0 ∧ y = x := by
        rcases hz : i - pre.length with _ | j
        · rw [hz] at h1; simp at h1; exact ⟨rfl, h1.symm⟩
        · rw [hz] at h1; simp at h1
      rw [r1, h3] at h2
      simp at h2
      subst e1; subst h2
      exact hx.kept fun s _ hs => hn58 s _ hs
  · rw [heads_app]
    refine List.nodup_append.2 ⟨r4, by rw [heads_one]; split <;> simp, ?_⟩
    rintro s hs s' hs' rfl
    exact hh s hs' hs
theorem TI.heads_lt (r1 : True) {ts : List T} (hl : ts.length = pre.length) (hlf : ∀ k ∈ ls, k.ks = []) (r3 : ∀ (i : Nat) (x : Pc n c) (t : T), pre[i]? = some x → ts[i]? = some t → TileR w.heap.size a b B n c ls q x.1 t W) : ∀ s ∈ heads ts, s < W.heap.size ∧ w.heap.size ≤ s := fun s hs => by
  unfold heads at hs
  obtain ⟨t, ht, hs⟩ := List.mem_flatMap.1 hs
  obtain ⟨i, hi⟩ := List.getElem?_of_mem ht
  have hip : i < pre.length := by have := (List.getElem?_eq_some_iff.1 hi).1; omega
  rcases r3 i _ t (List.getElem?_eq_getElem hip) hi with ⟨_, h⟩ | ⟨_, s', h, hb, hh⟩
  · rw [if_pos (hlf t (List.mem_of_getElem? h))] at hs; cases hs
  · split at hs
    · cases hs
    · rw [List.mem_singleton] at hs
      have : t.g = s' := by rw [h]; rfl
      rw [hs, this]
      exact ⟨lt_of_heap hh, hb⟩
/-- Behind the split of a piece. -/
theorem TI.split (E : TEnv G w B n c ls q) (h : TI G w B n c ls q a b rb sb sB nB vS vN pre W) {x s : Nat} (hx : x * c < n) (hs : W.heap.size ≤ s) (hT : TP G W' none (nodeT a b n c ls q s x)) (ho : Off G ((piece ls c x).map T.g) W W') (hrb : w.heap.size ≤ rb) (hsb : w.heap.size ≤ sb) (hsB : w.heap.size ≤ sB) (hnB : w.heap.size ≤ nB) :
    TI G w B n c ls q a b rb sb sB nB vS vN pre W' ∧ W'.heap[s]? = some (nodeO a b B n c x) ∧ (∀ k o, w.heap.size ≤ k → W.heap[k]? = some o → W'.heap[k]? = some o) ∧ (∀ ts : List T, J w.heap.size W rb (ptrs ts) → J w.heap.size W' rb (ptrs ts)) ∧
      (∀ (y : Nat) (t : T), TileR w.heap.size a b B n c ls q y t W → TileR w.heap.size a b B n c ls q y t W') := by
  have hg : ∀ k ∈ ls, k.g < w.heap.size := fun k hk => by
    obtain ⟨up, hT⟩ := E.K k hk
    exact hT.lt _ _ _ k.g_mem
  have hnin : ∀ k, w.heap.size ≤ k → k ∉ (piece ls c x).map T.g := fun k hk hm => by
    obtain ⟨t, ht, e⟩ := List.mem_map.1 hm
    have := hg t (piece_mem ht); omega
  have hkeep : ∀ k o, w.heap.size ≤ k → W.heap[k]? = some o → W'.heap[k]? = some o := fun k o hk hko => (ho.wh (G.fresh (Nat.le_trans E.m hk)) (lt_of_heap hko) (hnin k hk)).trans hko
  have hJk : ∀ ts : List T, J w.heap.size W rb (ptrs ts) → J w.heap.size W' rb (ptrs ts) := fun ts hj => by
    obtain ⟨⟨A, c', h1, h2, h3⟩, hB⟩ := hj
    refine ⟨⟨A, c', hkeep _ _ hrb h1, own_same h2 fun b' hb' => ?_, h3⟩, hB⟩
    have hbb := h2.lt b' hb'
    exact ho.wh (G.fresh (Nat.le_trans E.m hbb.1)) hbb.2 (hnin b' hbb.1)
  have hTk : ∀ (y : Nat) (t : T), TileR w.heap.size a b B n c ls q y t W → TileR w.heap.size a b B n c ls q y t W' := fun y t hy => hy.kept fun s' hs' hh => hkeep _ _ hs' hh
  obtain ⟨ts, r1, r2, r3, r4⟩ := h.r
  refine ⟨⟨h.o.trans ho fun b' hb' => .inl ?_, fun k hk => ?_, hkeep _ _ hsb h.sz, hkeep _ _ hsB h.s1, hkeep _ _ hnB h.s2, ts, r1, hJk ts r2, fun i y t h1 h2 => hTk _ _ (r3 i y t h1 h2), r4⟩, ?_, hkeep, hJk, hTk⟩
  · obtain ⟨t, ht, e⟩ := List.mem_map.1 hb'
    rw [← e]; exact List.mem_map_of_mem (piece_mem ht)
  · by_cases hkp : k ∈ piece ls c x
    · exact ⟨some s, TPs_iff.1 hT.kids k hkp⟩
    · obtain ⟨up, hTk'⟩ := h.K k hk
      refine ⟨up, hTk'.off ho fun y hy hm => ?_⟩
      obtain ⟨t, ht, e⟩ := List.mem_map.1 hm
      have hnd := (List.nodup_append.1 E.nd).2.1
      have : k = t := bl_uniq hnd hk (piece_mem ht) hy (by rw [← e]; exact t.g_mem)
      exact hkp (this ▸ ht)
  · have hA := hT.at_
    have := hA.h
    unfold nodeO
    have hr : row G ⟨s, some (q x), plen n c x, 0, 0, 0, a, b, 0⟩ (piece ls c x).length = .slice (some ⟨B, x * c, none⟩) (plen n c x) (plen n c x) := by
      unfold row adr
      rw [piece_len E.hn]
      simp [E.α x hx]
    rw [hr] at this
    exact this
end
end Go.Proofs.YtcklmkjlbpjojaaDoor.X
