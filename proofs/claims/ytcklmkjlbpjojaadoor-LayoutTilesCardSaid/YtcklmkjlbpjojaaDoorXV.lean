/- Layout: tiled: what its loop leaves. No walk. -/
import Derived.Test.YtcklmkjlbpjojaaDoorXT
namespace Go.Proofs.YtcklmkjlbpjojaaDoor.X
open Go.RowKit
set_option linter.unusedSimpArgs false
set_option linter.unusedVariables false

theorem map_inj_on {α β : Type} {f : α → β} : ∀ {l : List α}, (l.map f).Nodup → ∀ {a b : α}, a ∈ l → b ∈ l → f a = f b → a = b
  | [], _, a, b, h, _, _ => by cases h
  | x :: l, nd, a, b, ha, hb, e => by
    rw [List.map_cons] at nd
    obtain ⟨n1, n2⟩ := List.nodup_cons.1 nd
    rcases List.mem_cons.1 ha with rfl | ha' <;> rcases List.mem_cons.1 hb with rfl | hb'
    · rfl
    · exact absurd (e ▸ List.mem_map_of_mem hb') n1
    · exact absurd (e ▸ List.mem_map_of_mem ha') n1
    · exact map_inj_on n2 ha' hb' e
theorem heads_inj : ∀ {ts : List T}, (heads ts).Nodup → ∀ {i j : Nat} {s t : T}, ts[i]? = some s → ts[j]? = some t → s.ks ≠ [] → t.ks ≠ [] → s.g = t.g → i = j
  | [], _, i, j, s, t, h, _, _, _, _ => by simp at h
  | t0 :: ts, nd, i, j, s, t, h1, h2, k1, k2, e => by
    have e0 : heads (t0 :: ts) = heads [t0] ++ heads ts := heads_app [t0] ts
    rw [e0] at nd
    obtain ⟨n1, n2, n3⟩ := List.nodup_append.1 nd
    have hm : ∀ (l : List T) (u : T), u ∈ l → u.ks ≠ [] → u.g ∈ heads l := fun l u hu hk => by
      unfold heads; exact List.mem_flatMap.2 ⟨u, hu, by rw [if_neg hk]; simp⟩
    rcases i with _ | i <;> rcases j with _ | j
    · rfl
    · simp at h1 h2
      subst h1
      exact absurd e (n3 _ (hm [t0] t0 (by simp) k1) _ (hm ts t (List.mem_of_getElem? h2) k2))
    · simp at h1 h2
      subst h2
      exact absurd e.symm (n3 _ (hm [t0] t0 (by simp) k2) _ (hm ts s (List.mem_of_getElem? h1) k1))
    · simp at h1 h2
      rw [heads_inj n2 h1 h2 k1 k2 e]
theorem blL_nodup : ∀ {ts : List T}, (∀ t ∈ ts, t.bl.Nodup) → (∀ (i j : Nat) (s t : T) (y : Nat), ts[i]? = some s → ts[j]? = some t → y ∈ s.bl → y ∈ t.bl → i = j) → (blL ts).Nodup
  | [], _, _ => by rw [blL_nil]; exact List.nodup_nil
  | t :: ts, h1, h2 => by
    rw [blL_cons]
    refine List.nodup_append.2 ⟨h1 t (by simp), blL_nodup (fun t' ht => h1 t' (by simp [ht])) fun i j s t' y a b c d => ?_, ?_⟩
    · have := h2 (i + 1) (j + 1) s t' y (by simpa using a) (by simpa using b) c d
      omega
    · rintro y hy y' hy' rfl
      obtain ⟨t', ht', hy'⟩ := mem_blL.1 hy'
      obtain ⟨j, hj⟩ := List.getElem?_of_mem ht'
      have := h2 0 (j + 1) t t' y (by simp) (by simpa using hj) hy hy'
      omega
theorem pos_uniq : ∀ {ls : List T}, (blL ls).Nodup → ∀ {i j : Nat} {k : T}, ls[i]? = some k → ls[j]? = some k → i = j
  | [], _, i, j, k, h, _ => by simp at h
  | k0 :: ls, nd, i, j, k, h1, h2 => by
    rw [blL_cons] at nd
    obtain ⟨n1, n2, n3⟩ := List.nodup_append.1 nd
    rcases i with _ | i <;> rcases j with _ | j
    · rfl
    · simp at h1 h2
      subst h1
      exact absurd rfl (n3 _ k0.g_mem _ (g_in (List.mem_of_getElem? h2)))
    · simp at h1 h2
      subst h2
      exact absurd rfl (n3 _ k0.g_mem _ (g_in (List.mem_of_getElem? h1)))
    · simp at h1 h2
      rw [pos_uniq n2 h1 h2]
theorem piece_pos {ls : List T} {c x : Nat} {k : T} (h : k ∈ piece ls c x) : ∃ p, ls[p]? = some k ∧ x * c ≤ p ∧ p < x * c + c := by
  obtain ⟨i, hi⟩ := List.getElem?_of_mem h
  unfold piece at hi
  rw [List.getElem?_take] at hi
  split at hi
  · rw [List.getElem?_drop] at hi
    exact ⟨x * c + i, hi, by omega, by omega⟩
  · cases hi
theorem pos_piece {ls : List T} {c x : Nat} {k : T} (hc : 1 ≤ c) (h : ls[x * c]? = some k) : k ∈ piece ls c x := by
  refine List.mem_of_getElem? (i := 0) ?_
  unfold piece
  rw [List.getElem?_take, if_pos (by omega), List.getElem?_drop]
  exact h
theorem pieces_apart {ls : List T} {c x y b : Nat} (hc : 1 ≤ c) (nd : (blL ls).Nodup) (h1 : b ∈ blL (piece ls c x)) (h2 : b ∈ blL (piece ls c y)) : x = y := by
  obtain ⟨k, hk, hb⟩ := mem_blL.1 h1
  obtain ⟨t, ht, hb2⟩ := mem_blL.1 h2
  obtain ⟨p, p1, p2, p3⟩ := piece_pos hk
  obtain ⟨p', q1, q2, q3⟩ := piece_pos ht
  have hkt := bl_uniq nd (piece_mem hk) (piece_mem ht) hb hb2
  subst hkt
  have := pos_uniq nd p1 q1
  subst this
  have e1 : p / c = x := by
    rw [Nat.div_eq_iff (by omega)]
    have : (x + 1) * c = x * c + c := by rw [Nat.add_mul, Nat.one_mul]
    omega
  have e2 : p / c = y := by
    rw [Nat.div_eq_iff (by omega)]
    have : (y + 1) * c = y * c + c := by rw [Nat.add_mul, Nat.one_mul]
    omega
  omega
/-- One tile. -/
def cellE (a b : Int) (es : List E) : E := match es with
  | [e] => e
  | es => .mk 0 a b 0 es
theorem cellE_ne {a b : Int} {es : List E} (h : es.length ≠ 1) : cellE a b es = .mk 0 a b 0 es := by
  match es, h with
  | [], _ => rfl
  | [e], h => exact absurd rfl h
  | e1 :: e2 :: es, _ => rfl
/-- The tiles of a row of panes. -/
def tiledEs (n c : Nat) (a b : Int) (es : List E) : List E := (List.range (pnum n c)).map fun x => cellE a b ((es.drop (x * c)).take c)
section
variable {G : Gh} {w W W' : World} {B n c : Nat} {ls : List T} {q : Nat → Nat} {a b : Int} {rb sb sB nB : Nat} {vS vN : Value}
theorem TEnv.qlt (E : TEnv G w B n c ls q) {x : Nat} (hx : x * c < n) : q x < w.heap.size := by
  obtain ⟨_, h, _⟩ := (E.R x hx).prow rfl (E.α x hx) (plen_pos E.c1.1 hx)
  exact h
theorem TEnv.llt (E : TEnv G w B n c ls q) : ∀ b ∈ blL ls, b < w.heap.size := fun b hb => by
  obtain ⟨k, hk, hb⟩ := mem_blL.1 hb
  obtain ⟨up, hT⟩ := E.K k hk
  exact hT.lt _ _ _ hb
theorem TEnv.qm (E : TEnv G w B n c ls q) {x : Nat} (hx : x * c < n) : q x ∈ (List.range (pnum n c)).map q := List.mem_map_of_mem (List.mem_range.2 ((pnum_iff E.c1.1).2 hx))
theorem TEnv.qn (E : TEnv G w B n c ls q) {x : Nat} (hx : x * c < n) : q x ∉ blL ls := fun h => (List.nodup_append.1 E.nd).2.2 _ (E.qm hx) _ h rfl
theorem TEnv.qi (E : TEnv G w B n c ls q) {x y : Nat} (hx : x * c < n) (hy : y * c < n) (e : q x = q y) : x = y :=
  map_inj_on (List.nodup_append.1 E.nd).1 (List.mem_range.2 ((pnum_iff E.c1.1).2 hx)) (List.mem_range.2 ((pnum_iff E.c1.1).2 hy)) e
theorem tile_bl {base : Nat} {x : Nat} {t : T} (hc : 1 ≤ c) (hn : n = ls.length) (hx : x * c < n) (h : TileR base a b B n c ls q x t W) {y : Nat} (hy : y ∈ t.bl) : (t.ks ≠ [] ∧ y = t.g ∧ base ≤ y ∧ W.heap[y]? = some (nodeO a b B n c x)) ∨ y = q x ∨ y ∈ blL (piece ls c x) := by
  rcases h with ⟨h1, h2⟩ | ⟨h1, s, rfl, h3, h4⟩
  · exact .inr (.inr (blL_mem (pos_piece hc h2) hy))
  · unfold nodeT at hy
    rw [T.bl_mk] at hy
    simp only [Option.toList_some, List.singleton_append, List.mem_cons] at hy
    rcases hy with rfl | rfl | hy
    · refine .inl ⟨fun hk => ?_, rfl, h3, h4⟩
      have e1 := piece_len (c := c) (x := x) hn
      rw [show piece ls c x = [] from hk] at e1
      have := plen_pos hc hx
      simp at e1; omega
    · exact .inr (.inl rfl)
    · exact .inr (.inr hy)

theorem TI.done (E : TEnv G w B n c ls q) (hF : ∀ k ∈ ls, Frm k.er ∧ Sm k) (hrb : w.heap.size ≤ rb) (h : TI G w B n c ls q a b rb sb sB nB vS vN (pcs n c E.c1.1 (pnum n c) (Nat.le_refl _)) W) :
    ∃ (g cc : Nat) (ts : List T), W.heap[rb]? = some (.cells #[.slice (some ⟨g, 0, none⟩) (pnum n c) cc] 53 (0, 0)) ∧ pnum n c = ts.length ∧ RowAt G W (some g) cc (pnum n c) (ptrs ts) ∧ G.α g = (g, 0) ∧ 1 ≤ pnum n c ∧ pnum n c ≤ 1000 ∧ cc ≤ 9223372036854775807 ∧
      (∀ k ∈ ts, LT G W k) ∧ (g :: blL ts).Nodup ∧ (∀ k ∈ ts, Even1 k) ∧ erL ts = tiledEs n c a b (erL ls) ∧ ∀ x ∈ g :: blL ts, x ∈ (List.range (pnum n c)).map q ++ blL ls ∨ w.heap.size ≤ x := by
  obtain ⟨ts, r1, ⟨⟨A, cc, hh, hO, hne⟩, hB⟩, r3, r4⟩ := h.r
  rw [pcs_len] at r1
  have hN1 : 1 ≤ pnum n c := (pnum_iff E.c1.1).2 (by have := E.n1.1; omega)
  have hN2 : pnum n c ≤ 1000 := by
    have h1 : pnum n c ≤ n := by
      rcases Nat.lt_or_ge n (pnum n c) with h1 | h1
      · have h2 := (pnum_iff (c := c) E.c1.1).1 h1
        have h3 := Nat.mul_le_mul_left n E.c1.1
        omega
      · exact h1
    have := E.n1.2; omega
  have hlen : (ptrs ts).length = pnum n c := by rw [ptrs_len, r1]
  rw [hlen] at hh hO
  have hT : ∀ (i : Nat) (t : T), ts[i]? = some t → i * c < n ∧ TileR w.heap.size a b B n c ls q i t W := fun i t hi => by
    have hip : i < pnum n c := by have := (List.getElem?_eq_some_iff.1 hi).1; omega
    exact ⟨(pnum_iff E.c1.1).1 hip, r3 i _ t (pcs_get E.c1.1 _ _ i hip) hi⟩
  have hq : ∀ x, x * c < n → RowAt G W (some (q x)) (plen n c x) (plen n c x) (ptrs (piece ls c x)) := fun x hx => (E.R x hx).off h.o fun b' hb' hm => by
    injection hb' with hb'
    obtain ⟨k, hk, e⟩ := List.mem_map.1 hm
    exact E.qn hx (by rw [hb', ← e]; exact g_in hk)
  have hLk : ∀ k ∈ ls, LT G W k := fun k hk => by
    obtain ⟨up, hT⟩ := h.K k hk
    exact LT.of_tp _ _ hT
  have hlt2 : ∀ (i : Nat) (t : T), ts[i]? = some t → LT G W t := fun i t hi => by
    obtain ⟨hx, hR⟩ := hT i t hi
    rcases hR with ⟨_, h2⟩ | ⟨_, s, rfl, h3, h4⟩
    · exact hLk t (List.mem_of_getElem? h2)
    · unfold nodeT
      refine LT_mk.2 ⟨⟨none, ?_, G.fresh (Nat.le_trans E.m h3), ?_, h.m⟩, fun k hk => hLk k (piece_mem hk)⟩
      · rw [h4]
        unfold nodeO
        have hr : row G ⟨s, some (q i), plen n c i, 0, 0, 0, a, b, 0⟩ (piece ls c i).length = .slice (some ⟨B, i * c, none⟩) (plen n c i) (plen n c i) := by
          unfold row adr
          rw [piece_len E.hn]
          simp [E.α i hx]
        rw [hr]; rfl
      · rw [piece_len E.hn]; exact hq i hx
  rcases hO.2 with ⟨e3, h0⟩ | ⟨g, cap, cur, e3, hgb, hgh, hc1, hc2, hc3, hc4⟩
  · omega
  · injection e3 with e3 _ e4
    subst e3; subst e4
    have hgm : G.m ≤ g := Nat.le_trans E.m hgb
    have hwg : G.wh g := G.fresh hgm
    have hnd : (blL ls).Nodup := (List.nodup_append.1 E.nd).2.1
    refine ⟨g, cc, ts, hh, r1.symm, ⟨hlen, .inr ⟨g, cur.toList, rfl, lt_of_heap hgh, ⟨0, by rw [hwg.α]; exact hwg.κ 0⟩, ?_, fun j _ => by rw [hwg.α]; exact hwg.κ _⟩⟩, hwg.α, hN1, hN2, by unfold maxLen at hc2; omega, fun k hk => ?_, List.nodup_cons.2 ⟨fun hg => ?_, blL_nodup (fun t ht => ?_) fun i j s t y h1 h2 h3 h4 => ?_⟩, fun k hk => ?_, ?_, fun x hx => ?_⟩
    · rw [hwg.α]
      refine ⟨by simpa using hgh, hc1, by unfold maxLen at hc2; omega, by simp; omega, ?_⟩
      rw [List.drop_zero]
      simpa using hc4
    · obtain ⟨i, hi⟩ := List.getElem?_of_mem hk
      exact hlt2 i k hi
    · obtain ⟨t, ht, hg⟩ := mem_blL.1 hg
      obtain ⟨i, hi⟩ := List.getElem?_of_mem ht
      obtain ⟨hx, hR⟩ := hT i t hi
      rcases tile_bl E.c1.1 E.hn hx hR hg with ⟨_, _, _, h4⟩ | h4 | h4
      · rw [hgh] at h4; injection h4 with h4
        exact node_ne (by decide) h4.symm
      · have := E.qlt hx; omega
      · have := E.llt _ (piece_bl _ h4); omega
    · obtain ⟨i, hi⟩ := List.getElem?_of_mem ht
      obtain ⟨hx, hR⟩ := hT i t hi
      rcases hR with ⟨_, h2⟩ | ⟨_, s, rfl, h3, h4⟩
      · have := hnd
        rw [split_at h2] at this
        exact (kid_apart this).1
      · unfold nodeT
        rw [T.bl_mk]
        simp only [Option.toList_some, List.singleton_append]
        have hq1 := E.qlt hx
        refine List.nodup_cons.2 ⟨fun hm => ?_, List.nodup_cons.2 ⟨fun hm => E.qn hx (piece_bl _ hm), ?_⟩⟩
        · rcases List.mem_cons.1 hm with rfl | hm
          · omega
          · have := E.llt _ (piece_bl _ hm); omega
        · refine blL_nodup (fun t ht => ?_) fun i' j' s' t' y' a1 a2 a3 a4 => ?_
          · obtain ⟨p, hp⟩ := List.getElem?_of_mem (piece_mem ht)
            have := hnd
            rw [split_at hp] at this
            exact (kid_apart this).1
          · have hst := bl_uniq hnd (piece_mem (List.mem_of_getElem? a1)) (piece_mem (List.mem_of_getElem? a2)) a3 a4
            subst hst
            unfold piece at a1 a2
            rw [List.getElem?_take] at a1 a2
            split at a1
            · split at a2
              · rw [List.getElem?_drop] at a1 a2
                have := pos_uniq hnd a1 a2
                omega
              · cases a2
            · cases a1
    · obtain ⟨hx1, hR1⟩ := hT i s h1
      obtain ⟨hx2, hR2⟩ := hT j t h2
      rcases tile_bl E.c1.1 E.hn hx1 hR1 h3 with ⟨a1, a2, a3, _⟩ | a1 | a1
      · rcases tile_bl E.c1.1 E.hn hx2 hR2 h4 with ⟨b1, b2, b3, _⟩ | b1 | b1
        · exact heads_inj r4 h1 h2 a1 b1 (a2.symm.trans b2)
        · have := E.qlt hx2; omega
        · have := E.llt _ (piece_bl _ b1); omega
      · rcases tile_bl E.c1.1 E.hn hx2 hR2 h4 with ⟨b1, b2, b3, _⟩ | b1 | b1
        · have := E.qlt hx1; omega
        · exact E.qi hx1 hx2 (a1.symm.trans b1)
        · exact absurd (piece_bl _ b1) (by rw [a1]; exact E.qn hx1)
      · rcases tile_bl E.c1.1 E.hn hx2 hR2 h4 with ⟨b1, b2, b3, _⟩ | b1 | b1
        · have := E.llt _ (piece_bl _ a1); omega
        · exact absurd (piece_bl _ a1) (by rw [b1]; exact E.qn hx2)
        · exact pieces_apart E.c1.1 hnd a1 b1
    · obtain ⟨i, hi⟩ := List.getElem?_of_mem hk
      obtain ⟨hx, hR⟩ := hT i k hi
      rcases hR with ⟨_, h2⟩ | ⟨hp, s, rfl, h3, h4⟩
      · have := hF k (List.mem_of_getElem? h2)
        exact even1_any k this.1 this.2
      · have hpl := plen_pos E.c1.1 hx
        have hpc : plen n c i ≤ c := Nat.min_le_left _ _
        unfold nodeT
        refine even1_any _ ?_ (.mk (by rw [piece_len E.hn]; have := E.c1.2; omega) fun k hk => (hF k (piece_mem hk)).2)
        rw [T.er_mk]
        refine .node (.inl rfl) (by rw [erL_len, piece_len E.hn]; omega) fun e he => ?_
        rw [erL_map] at he
        obtain ⟨k, hk, rfl⟩ := List.mem_map.1 he
        exact (hF k (piece_mem hk)).1
    · refine List.ext_getElem? fun i => ?_
      unfold tiledEs
      rw [erL_map, List.getElem?_map, List.getElem?_map]
      rcases Nat.lt_or_ge i (pnum n c) with hi | hi
      · obtain ⟨t, ht⟩ : ∃ t, ts[i]? = some t := ⟨ts[i]'(by omega), List.getElem?_eq_getElem _⟩
        obtain ⟨hx, hR⟩ := hT i t ht
        rw [ht, List.getElem?_range hi]
        simp only [Option.map_some]
        congr 1
        have hpe : ((erL ls).drop (i * c)).take c = erL (piece ls c i) := by unfold piece; rw [erL_map, erL_map, List.map_take, List.map_drop]
        rw [hpe]
        rcases hR with ⟨h1, h2⟩ | ⟨hp, s, rfl, h3, h4⟩
        · have hl1 : (piece ls c i).length = 1 := by rw [piece_len E.hn, h1]
          have hm := pos_piece E.c1.1 h2
          obtain ⟨k, hk⟩ := List.length_eq_one_iff.1 hl1
          rw [hk] at hm ⊢
          rw [List.mem_singleton] at hm
          rw [hm, erL_cons, erL_nil]; rfl
        · rw [cellE_ne (by rw [erL_len, piece_len E.hn]; exact hp)]
          unfold nodeT
          rw [T.er_mk]
      · rw [List.getElem?_eq_none (by omega), List.getElem?_eq_none (by simpa using hi)]
        rfl
    · rcases List.mem_cons.1 hx with rfl | hx
      · exact .inr hgb
      · obtain ⟨t, ht, hx⟩ := mem_blL.1 hx
        obtain ⟨i, hi⟩ := List.getElem?_of_mem ht
        obtain ⟨hxi, hR⟩ := hT i t hi
        rcases tile_bl E.c1.1 E.hn hxi hR hx with ⟨_, _, h4, _⟩ | h4 | h4
        · exact .inr h4
        · exact .inl (List.mem_append_left _ (by rw [h4]; exact E.qm hxi))
        · exact .inl (List.mem_append_right _ (piece_bl _ h4))
end
end Go.Proofs.YtcklmkjlbpjojaaDoor.X
