/- Layout: chief. -/
import Derived.Test.YtcklmkjlbpjojaaDoorXQ
import Derived.IntWalk
import Derived.Deep.RegionHeld3
namespace Go.Proofs.YtcklmkjlbpjojaaDoor.X
open Go.RowKit
set_option linter.unusedSimpArgs false
set_option linter.unusedVariables false
variable {G : Gh}

theorem two_new (W0 : World) (o1 o2 : Obj) : W0.grownBy ((W0.alloc o1).alloc o2).drew none ∧ ((W0.alloc o1).alloc o2).drew.heap[W0.heap.size]? = some o1 ∧ ((W0.alloc o1).alloc o2).drew.heap[W0.heap.size + 1]? = some o2 ∧ True := by
  refine ⟨g_drew ((World.grownBy_alloc W0 o1 none).trans (World.grownBy_alloc _ o2 none)), ?_, ?_, trivial⟩
  · exact ((World.grownBy_alloc (W0.alloc o1) o2 none).block _ (by simp) (by simp)).trans (heap_alloc_new W0 o1)
  · have := heap_alloc_new (W0.alloc o1) o2
    have e : (W0.alloc o1).heap.size = W0.heap.size + 1 := by simp
    rw [e] at this; exact this
/-- A frame of some panes along a way, in a size. -/
def rowE (way a b : Int) (es : List E) : E := match es with
  | [e] => e.even a b
  | es => .mk 0 a b way (evenL way a b es.length 0 es)
/-- The first over, or beside, the others. -/
def chiefE (way a b : Int) (es : List E) : E := match es with
  | [] => .mk 0 a b way []
  | [e] => e.even a b
  | e :: es => if way = 0 then .mk 0 a b 1 [e.even a (b - 1 - (b - 1).tdiv 2), rowE way a ((b - 1).tdiv 2) es] else .mk 0 a b 0 [e.even (a - 1 - (a - 1).tdiv 2) b, rowE way ((a - 1).tdiv 2) b es]
/-- evenly, of a row of one or more. -/
theorem even_row {way : Int} (hw : way = 0 ∨ way = 1) (a b : Int) (id B o c n : Nat) (ks : List T) (w : World) (hR : RowAt G w (some id) c n (ptrs ks)) (hα : G.α id = (B, o)) (hn : n = ks.length) (hl : 1 ≤ n ∧ n ≤ 1000) (hc : c ≤ 9223372036854775807)
    (hK : ∀ k ∈ ks, LT G w k) (nd : (id :: blL ks).Nodup) (hm : G.m ≤ w.heap.size) (hE : ∀ k ∈ ks, Even1 k) (ha : Bd a) (hb : Bd b) :
    Calls Tryd.prog 44 #[.int .i64 way, .agg #[.int .i64 a, .int .i64 b], .slice (some ⟨B, o, none⟩) n c] w (EvenP G w (id :: blL ks) (rowE way a b (erL ks))) := by
  rcases Nat.lt_or_ge 1 n with h1 | h1
  · have e : rowE way a b (erL ks) = .mk 0 a b way (evenL way a b n 0 (erL ks)) := by
      have hl2 : (erL ks).length = n := by rw [erL_len, hn]
      generalize erL ks = es at hl2 ⊢
      match es, hl2 with
      | [], h => simp at h; omega
      | [e], h => simp at h; omega
      | e1 :: e2 :: es, h => rw [← h]; rfl
    rw [e]
    exact evenN_any hw a b id B o c n ks w hR hα hn (by omega) hK nd hm hE ha hb
  · obtain rfl : n = 1 := by omega
    match ks, hn with
    | [k], _ =>
      have e : rowE way a b (erL [k]) = k.er.even a b := by rw [erL_cons, erL_nil]; rfl
      rw [e]
      obtain ⟨nd1, nd2⟩ := List.nodup_cons.1 nd
      rw [blL_cons, blL_nil, List.append_nil] at nd1 nd2
      obtain ⟨cur, h1, h2, h3, h4⟩ := hR.prow rfl hα (by omega)
      refine (hE k (by simp) G way a b B o c w (hK k (by simp)) nd2 (fun w' ho => ?_) (by omega) hc ha hb hm).mono fun e w' h => ?_
      · obtain ⟨cur', _, _, h3', _⟩ := (hR.off ho (by intro b' hb'; injection hb' with hb'; rw [← hb']; exact nd1)).prow rfl hα (by omega)
        exact h3'.cell (j := 0) (by simp [ptrs])
      · exact h.later (Off.refl _ _ hm) fun x hx => .inl (by rw [blL_cons]; simp [hx])

/-- What the rest of chief reads. -/
def Sees (sb f r B o : Nat) (a b fa fb ra rb : Int) (g : Nat) (w : World) : Prop :=
  w.cell? ⟨sb, 0, none⟩ = some (.int .i64 a) ∧ w.cell? ⟨sb, 1, none⟩ = some (.int .i64 b) ∧ w.cell? ⟨f, 0, none⟩ = some (.int .i64 fa) ∧ w.cell? ⟨f, 1, none⟩ = some (.int .i64 fb) ∧ w.cell? ⟨r, 0, none⟩ = some (.int .i64 ra) ∧ w.cell? ⟨r, 1, none⟩ = some (.int .i64 rb) ∧ w.cell? ⟨B, o, none⟩ = some (.pointer (some ⟨g, 0, none⟩))
theorem sees_any {w W2 : World} {id B o sb f r : Nat} {a b fa fb ra rb : Int} {g : Nat} {ks : List T} {v : Value} (nd : (id :: blL ks).Nodup) (hlt : ∀ k ∈ ks, ∀ x ∈ k.bl, x < w.heap.size) (hm : G.m ≤ w.heap.size) (gw : w.grownBy W2 none)
    (e7 : W2.heap[sb]? = some (.cells #[.int .i64 a, .int .i64 b] 56 (0, 0))) (e5 : W2.heap[f]? = some (.cells #[.int .i64 fa, .int .i64 fb] 56 (0, 0))) (e6 : W2.heap[r]? = some (.cells #[.int .i64 ra, .int .i64 rb] 56 (0, 0)))
    (h1 : w.heap.size ≤ sb) (h2 : w.heap.size ≤ f) (h3 : w.heap.size ≤ r) (hid : id < w.heap.size)
    (h0 : ∀ S w', Off G S w w' → (∀ x ∈ S, x ∈ id :: blL ks ∨ w.heap.size ≤ x) → w'.cell? ⟨B, o, none⟩ = some (.pointer (some ⟨g, 0, none⟩))) :
    ∀ Sx W', Off G Sx W2 W' → (∀ x ∈ Sx, x ∈ id :: blL ks ∨ W2.heap.size ≤ x) → Sees sb f r B o a b fa fb ra rb g W' := by
  intro Sx W' ho hx
  have ogw : Off G [] w W2 := Off.of_grown hm gw
  have hs := gw.size
  have key : ∀ k, w.heap.size ≤ k → k < W2.heap.size → W'.heap[k]? = W2.heap[k]? := fun k hk hk2 => ho.wh (G.fresh (by omega)) hk2 fun hm2 => by
    rcases hx k hm2 with h | h
    · rcases List.mem_cons.1 h with rfl | h
      · omega
      · obtain ⟨k', hk', h⟩ := mem_blL.1 h
        have := hlt k' hk' k h; omega
    · omega
  have a1 := (key sb h1 (lt_of_heap e7)).trans e7
  have a2 := (key f h2 (lt_of_heap e5)).trans e5
  have a3 := (key r h3 (lt_of_heap e6)).trans e6
  refine ⟨by rw [cell_of_heap a1]; rfl, by rw [cell_of_heap a1]; rfl, by rw [cell_of_heap a2]; rfl, by rw [cell_of_heap a2]; rfl, by rw [cell_of_heap a3]; rfl, by rw [cell_of_heap a3]; rfl, ?_⟩
  refine h0 (id :: blL ks ++ Sx) W' ((ogw.sub (S' := id :: blL ks ++ Sx) (by simp)).trans ho fun x hx => .inl (by simp [hx])) fun x hx2 => ?_
  rcases List.mem_append.1 hx2 with h | h
  · exact .inl h
  · rcases hx x h with h | h
    · exact .inl h
    · exact .inr (by omega)
/-- Behind the first call. -/
def P1 (G : Gh) (W2 : World) (S : List Nat) (e1 : E) (t1 : T) (up1 : Option Nat) (w : World) : Prop := TP G w up1 t1 ∧ t1.er = e1 ∧ Off G S W2 w ∧ t1.bl.Nodup ∧ ∀ x ∈ t1.bl, x ∈ S ∨ W2.heap.size ≤ x
/-- Behind the second one. -/
def P2 (G : Gh) (W2 : World) (S : List Nat) (e1 e2 : E) (t1 t2 : T) (w : World) : Prop := (∃ up, TP G w up t1) ∧ (∃ up, TP G w up t2) ∧ t1.er = e1 ∧ t2.er = e2 ∧ Off G S W2 w ∧ (t1.bl ++ t2.bl).Nodup ∧ (∀ x ∈ t1.bl ++ t2.bl, x ∈ S ∨ W2.heap.size ≤ x)
theorem chief_calls {way : Int} (hw : way = 0 ∨ way = 1) (ac : Int) (a b fa fb ra rb : Int) (id B o c n : Nat) (k0 : T) (ks : List T) (w W2 : World) {Z : World → Prop}
    (hS : ∀ Sx W', Off G Sx W2 W' → (∀ x ∈ Sx, x ∈ id :: blL (k0 :: ks) ∨ W2.heap.size ≤ x) → Z W')
    (hR : RowAt G w (some id) (c - 1) (n - 1) (ptrs ks)) (hα : G.α id = (B, o + 1)) (hn : n = ks.length + 1) (hl : 2 ≤ n ∧ n ≤ 1000) (hc : n ≤ c ∧ c ≤ 9223372036854775807)
    (hK : ∀ k ∈ k0 :: ks, LT G w k) (nd : (id :: blL (k0 :: ks)).Nodup) (hm : G.m ≤ w.heap.size) (hE : ∀ k ∈ k0 :: ks, Even1 k) (h1 : Bd fa) (h2 : Bd fb) (h3 : Bd ra) (h4 : Bd rb) (gw : w.grownBy W2 none) :
    (∀ W, W2.grownBy W none → ∀ q, W2.heap.size ≤ q → W.heap[q]? = some (.cells #[.pointer (some ⟨k0.g, 0, none⟩)] 55 (0, 0)) →
      Calls Tryd.prog 44 #[.int .i64 way, .agg #[.int .i64 fa, .int .i64 fb], .slice (some ⟨q, 0, none⟩) 1 1] W fun e w' => ∃ t1 up1, e = .returned (.pointer (some ⟨t1.g, 0, none⟩)) ∧ Hid (P1 G W2 k0.bl (k0.er.even fa fb) t1 up1 w') ∧ Z w') ∧
    (∀ W t1 up1, P1 G W2 k0.bl (k0.er.even fa fb) t1 up1 W →
      Calls Tryd.prog 44 #[.int .i64 way, .agg #[.int .i64 ra, .int .i64 rb], .slice (some ⟨B, o + 1, none⟩) (n - 1) (c - 1)] W fun e w' => ∃ t2, e = .returned (.pointer (some ⟨t2.g, 0, none⟩)) ∧ Hid (P2 G W2 (id :: blL (k0 :: ks)) (k0.er.even fa fb) (rowE way ra rb (erL ks)) t1 t2 w') ∧ Z w') ∧
    (∀ W3 t1 t2, P2 G W2 (id :: blL (k0 :: ks)) (k0.er.even fa fb) (rowE way ra rb (erL ks)) t1 t2 W3 → ∀ W, W3.grownBy W none → ∀ q, W3.heap.size ≤ q → W.heap[q]? = some (.cells #[.pointer (some ⟨t1.g, 0, none⟩), .pointer (some ⟨t2.g, 0, none⟩)] 55 (0, 0)) →
      Calls Tryd.prog 32 #[.int .i64 ac, .agg #[.int .i64 a, .int .i64 b], .slice (some ⟨q, 0, none⟩) 2 2] W fun e w' => ∃ g, e = .returned (.pointer (some ⟨g, 0, none⟩)) ∧ Hid (EvenP G w (id :: blL (k0 :: ks)) (.mk 0 a b ac [k0.er.even fa fb, rowE way ra rb (erL ks)]) e w') ∧ Z w') := by
  have hmW : G.m ≤ W2.heap.size := Nat.le_trans hm gw.size
  obtain ⟨nd1, nd2⟩ := List.nodup_cons.1 nd
  rw [blL_cons] at nd1 nd2
  obtain ⟨nd3, nd4, nd5⟩ := List.nodup_append.1 nd2
  have hgs := gw.size
  have hlt : ∀ x ∈ id :: blL (k0 :: ks), x < w.heap.size := fun x hx => by
    rcases List.mem_cons.1 hx with rfl | hx
    · obtain ⟨_, h, _⟩ := hR.prow rfl hα (by omega); exact h
    · obtain ⟨k, hk, hx⟩ := mem_blL.1 hx
      exact (hK k hk).lt _ x hx
  have hk0S : ∀ x ∈ k0.bl, x ∈ id :: blL (k0 :: ks) := fun x hx => by rw [blL_cons]; simp [hx]
  have hksS : ∀ x ∈ id :: blL ks, x ∈ id :: blL (k0 :: ks) := fun x hx => by
    rw [blL_cons]
    rcases List.mem_cons.1 hx with rfl | hx
    · simp
    · simp [hx]
  refine ⟨fun W g q hq hc1 => ?_, fun W t1 up1 hP => ?_, fun W3 t1 t2 hP W g q hq hc1 => ?_⟩
  · have hL := (hK k0 (by simp)).grown (gw.trans g)
    refine (hE k0 (by simp) G way fa fb q 0 1 W hL nd3 (fun w' o' => ?_) (by omega) (by omega) h1 h2 (Nat.le_trans hmW g.size)).mono fun e w' h => ?_
    · have q' : G.wh q := G.fresh (Nat.le_trans hmW hq)
      have := (o'.wh q' (lt_of_heap hc1) (fun hx => by have := hlt _ (hk0S _ hx); omega)).trans hc1
      rw [cell_of_heap this]; rfl
    · obtain ⟨t', up, x1, x2, x3, x4, x5, x6⟩ := h.later (w := W2) (Off.of_grown hmW g) (S' := k0.bl) fun x hx => .inl hx
      exact ⟨t', up, x1, Lib.hid ⟨x2, x3, x4, x5, x6⟩, hS k0.bl w' x4 fun x hx => .inl (hk0S x hx)⟩
  · obtain ⟨p1, p2, p3, p4, p5⟩ := hP
    have og : Off G [] w W2 := Off.of_grown hm gw
    have hR2 := (hR.off og (by simp)).off p3 (by intro b' hb'; injection hb' with hb'; rw [← hb']; exact fun h => nd1 (by simp [h]))
    have hK2 : ∀ k ∈ ks, LT G W k := fun k hk => ((hK k (by simp [hk])).grown gw).off _ p3 fun x hx hx2 => nd5 x hx2 x (mem_blL.2 ⟨k, hk, hx⟩) rfl
    refine (even_row hw ra rb id B (o + 1) (c - 1) (n - 1) ks W hR2 hα (by omega) (by omega) (by omega) hK2 (List.nodup_cons.2 ⟨fun h => nd1 (by simp [h]), nd4⟩) p3.m' (fun k hk => hE k (by simp [hk])) h3 h4).mono fun e w' h => ?_
    obtain ⟨t2, up2, x1, x2, x3, x4, x5, x6⟩ := h
    have ho : Off G (id :: blL (k0 :: ks)) W2 w' := (p3.sub (S' := id :: blL (k0 :: ks)) fun x hx => .inl (hk0S x hx)).trans x4 fun x hx => .inl (hksS x hx)
    have hps := p3.size
    have hd1 : ∀ x ∈ t1.bl, x ∉ id :: blL ks := fun x hx hx2 => by
      rcases p5 x hx with h | h
      · rcases List.mem_cons.1 hx2 with rfl | hx2
        · exact nd1 (by simp [h])
        · exact nd5 x h x hx2 rfl
      · have := hlt x (hksS x hx2); omega
    refine ⟨t2, x1, Lib.hid ⟨⟨up1, p1.off x4 hd1⟩, ⟨up2, x2⟩, p2, x3, ho, List.nodup_append.2 ⟨p4, x5, ?_⟩, fun x hx => ?_⟩, hS _ w' ho fun x hx => .inl hx⟩
    · rintro x hx y hy rfl
      rcases x6 x hy with h | h
      · exact hd1 x hx h
      · have := p1.lt _ _ x hx; omega
    · rcases List.mem_append.1 hx with h | h
      · rcases p5 x h with h | h
        · exact .inl (hk0S x h)
        · exact .inr h
      · rcases x6 x h with h | h
        · exact .inl (hksS x h)
        · exact .inr (by omega)
  · obtain ⟨⟨u1, p1⟩, ⟨u2, p2⟩, p3, p4, p5, p6, p7⟩ := hP
    have hps := p5.size
    have hm3 : G.m ≤ W3.heap.size := p5.m'
    have q' : G.wh q := G.fresh (Nat.le_trans hm3 hq)
    have hRq : RowAt G W (some q) 2 2 (ptrs [t1, t2]) := ⟨rfl, .inr ⟨q, [ptr t1.g, ptr t2.g], rfl, lt_of_heap hc1, ⟨0, by rw [q'.α]; exact q'.κ 0⟩, by rw [q'.α]; exact ⟨hc1, Nat.le_refl _, by omega, by simp, rfl⟩, fun j _ => by rw [q'.α]; exact q'.κ _⟩⟩
    obtain ⟨p8, p9, p10⟩ := List.nodup_append.1 p6
    refine (split_any ac a b q q 0 2 2 [t1, t2] W hRq q'.α rfl (by omega) (fun k hk => ?_) ?_ (Nat.le_trans hm3 g.size)).mono fun e w' h => ?_
    · simp at hk
      rcases hk with rfl | rfl
      · exact ⟨u1, p1.grown g⟩
      · exact ⟨u2, p2.grown g⟩
    · rw [blL_cons, blL_cons, blL_nil, List.append_nil]
      refine List.nodup_cons.2 ⟨fun hx => ?_, p6⟩
      rcases List.mem_append.1 hx with h | h
      · have := p1.lt _ _ _ h; omega
      · have := p2.lt _ _ _ h; omega
    · obtain ⟨gg, x1, x2, x3, x4⟩ := h
      have hmem : ∀ x ∈ ([t1, t2].map T.g), x ∈ t1.bl ++ t2.bl := fun x hx => by
        simp at hx
        rcases hx with rfl | rfl
        · simp [t1.g_mem]
        · simp [t2.g_mem]
      have ho : Off G (id :: blL (k0 :: ks)) W2 w' := (p5.trans (Off.of_grown (S := []) hm3 g) (by simp)).trans x4 fun x hx => p7 x (hmem x hx)
      have hb : (T.mk ⟨gg, some q, 2, 0, 0, 0, a, b, ac⟩ [t1, t2]).bl = gg :: q :: (t1.bl ++ t2.bl) := by rw [T.bl_mk, blL_cons, blL_cons, blL_nil, List.append_nil]; rfl
      have hgW := g.size
      refine ⟨gg, x2, Lib.hid ⟨.mk ⟨gg, some q, 2, 0, 0, 0, a, b, ac⟩ [t1, t2], none, x2, x3, ?_, (Off.of_grown (S := id :: blL (k0 :: ks)) hm gw).trans ho fun x hx => .inl hx, ?_, fun x hx => ?_⟩, hS _ w' ho fun x hx => .inl hx⟩
      · rw [T.er_mk, erL_cons, erL_cons, erL_nil, p3, p4]
      · rw [hb]
        refine List.nodup_cons.2 ⟨fun hx => ?_, List.nodup_cons.2 ⟨fun hx => ?_, p6⟩⟩
        · rcases List.mem_cons.1 hx with h | hx
          · have := lt_of_heap hc1; omega
          · rcases List.mem_append.1 hx with h | h
            · have := p1.lt _ _ _ h; omega
            · have := p2.lt _ _ _ h; omega
        · rcases List.mem_append.1 hx with h | h
          · have := p1.lt _ _ _ h; omega
          · have := p2.lt _ _ _ h; omega
      · rw [hb] at hx
        rcases List.mem_cons.1 hx with rfl | hx
        · exact .inr (by omega)
        · rcases List.mem_cons.1 hx with rfl | hx
          · exact .inr (by omega)
          · rcases p7 x hx with h | h
            · exact .inl h
            · exact .inr (by omega)


set_option maxHeartbeats 1000000 in
set_option maxRecDepth 100000 in
theorem chief_w0 (a b : Int) (id B o c n : Nat) (k0 : T) (ks : List T) (w : World) (hR : RowAt G w (some id) (c - 1) (n - 1) (ptrs ks)) (hα : G.α id = (B, o + 1)) (hn : n = ks.length + 1) (hl : 2 ≤ n ∧ n ≤ 1000) (hc : n ≤ c ∧ c ≤ 9223372036854775807)
    (h0 : ∀ S w', Off G S w w' → (∀ x ∈ S, x ∈ id :: blL (k0 :: ks) ∨ w.heap.size ≤ x) → w'.cell? ⟨B, o, none⟩ = some (ptr k0.g))
    (hK : ∀ k ∈ k0 :: ks, LT G w k) (nd : (id :: blL (k0 :: ks)).Nodup) (hm : G.m ≤ w.heap.size) (hE : ∀ k ∈ k0 :: ks, Even1 k) (ha : 1 ≤ a ∧ a ≤ 250) (hb : 1 ≤ b ∧ b ≤ 250) :
    Calls Tryd.prog 45 #[.int .i64 0, .agg #[.int .i64 a, .int .i64 b], .slice (some ⟨B, o, none⟩) n c] w (EvenP G w (id :: blL (k0 :: ks)) (chiefE 0 a b (erL (k0 :: ks)))) := by
  obtain ⟨rz, hrz⟩ : ∃ rz, rz = (b - 1).tdiv 2 := ⟨_, rfl⟩
  obtain ⟨fz, hfz⟩ : ∃ fz, fz = b - 1 - rz := ⟨_, rfl⟩
  have hrz2 : rz = (b - 1) / 2 := by rw [hrz, Int.tdiv_eq_ediv_of_nonneg (by omega)]
  have hrb : 0 ≤ rz ∧ rz ≤ 250 ∧ 0 ≤ fz ∧ fz ≤ 250 := by omega
  have hn1 : ((n : Int) == 1) = false := beq_eq_false_iff_ne.2 (by omega)
  have z1 : IntKind.i64.wrap (b - 1) = b - 1 := IntWalk.i64_in _ (by omega)
  have z2 : IntKind.i64.wrap ((b - 1).tdiv 2) = rz := by rw [← hrz]; exact IntWalk.i64_in _ (by omega)
  have z3 : IntKind.i64.wrap (b - 1 - rz) = fz := by rw [← hfz]; exact IntWalk.i64_in _ (by omega)
  obtain ⟨sb, hsb⟩ : ∃ sb, sb = w.heap.size := ⟨_, rfl⟩
  obtain ⟨W0, hW0⟩ : ∃ W0, W0 = w.alloc (.cells #[.int .i64 a, .int .i64 b] 56) := ⟨_, rfl⟩
  have b0 : W0.heap[sb]? = some (.cells #[.int .i64 a, .int .i64 b] 56 (0, 0)) := by rw [hW0, hsb]; exact heap_alloc_new w _
  have s0 : W0.cell? ⟨sb, 0, none⟩ = some (.int .i64 a) := by rw [cell_of_heap b0]; rfl
  have s1 : W0.cell? ⟨sb, 1, none⟩ = some (.int .i64 b) := by rw [cell_of_heap b0]; rfl
  have sl := lt_of_heap b0
  have g0 : w.grownBy W0 none := by rw [hW0]; exact World.grownBy_alloc _ _ _
  replace hR := Lib.hid hR; replace hα := Lib.hid hα; replace hn := Lib.hid hn; replace h0 := Lib.hid h0; replace hK := Lib.hid hK; replace nd := Lib.hid nd; replace hE := Lib.hid hE; replace b0 := Lib.hid b0; replace g0 := Lib.hid g0; replace hrz := Lib.hid hrz; replace hfz := Lib.hid hfz; replace hrz2 := Lib.hid hrz2
  have hW0h := Lib.hid hW0; have hsbh := Lib.hid hsb
  clear hW0 hsb
  go_enter Tryd.func45, Tryd.ntmps45
  go_upto_region 1 with fail
  rw [← hW0h.out, ← hsbh.out]
  go_upto_region 4 with fail
  go_cut [8, 9] (fun v8 v9 wx => ∃ f r : Nat, v8 = .pointer (some ⟨f, 0, none⟩) ∧ v9 = .pointer (some ⟨r, 0, none⟩) ∧ Hid (W0.grownBy wx none ∧ f ≠ r ∧ W0.heap.size ≤ f ∧ W0.heap.size ≤ r ∧ wx.heap[f]? = some (.cells #[.int .i64 a, .int .i64 b] 56 (0, 0)) ∧ wx.heap[r]? = some (.cells #[.int .i64 a, .int .i64 b] 56 (0, 0))))
  case first =>
    go_region_held3 (fun w' => w'.cell? ⟨sb, 0, none⟩ = some (.int .i64 a) ∧ w'.cell? ⟨sb, 1, none⟩ = some (.int .i64 b)) (first | go_keep | fail) (fail)
    all_goals
      go_wp2_with fail
      go_meet
      obtain ⟨q1, q2, q3, q4⟩ := two_new W0 (.cells #[.int .i64 a, .int .i64 b] 56) (.cells #[.int .i64 a, .int .i64 b] 56)
      first
        | exact ⟨W0.heap.size, W0.heap.size + 1, rfl, rfl, Lib.hid ⟨q1, by omega, by omega, by omega, q2, q3⟩⟩
        | exact ⟨W0.heap.size + 1, W0.heap.size, rfl, rfl, Lib.hid ⟨q1, by omega, by omega, by omega, q3, q2⟩⟩
  case rest =>
    obtain ⟨f, r, rfl, rfl, hH⟩ := hcut
    obtain ⟨h1, h2, h3, h4, h5, h6⟩ := hH.out
    have hbx := (h1.block sb sl (by simp)).trans b0.out
    have u0 : wc.cell? ⟨sb, 0, none⟩ = some (.int .i64 a) := by rw [cell_of_heap hbx]; rfl
    have u1 : wc.cell? ⟨sb, 1, none⟩ = some (.int .i64 b) := by rw [cell_of_heap hbx]; rfl
    have r0 : wc.cell? ⟨r, 0, none⟩ = some (.int .i64 a) := by rw [cell_of_heap h6]; rfl
    have r1 : wc.cell? ⟨r, 1, none⟩ = some (.int .i64 b) := by rw [cell_of_heap h6]; rfl
    have f0 : wc.cell? ⟨f, 0, none⟩ = some (.int .i64 a) := by rw [cell_of_heap h5]; rfl
    have f1 : wc.cell? ⟨f, 1, none⟩ = some (.int .i64 b) := by rw [cell_of_heap h5]; rfl
    have rf := free_of_heap h6 1
    have ff := free_of_heap h5 1
    have hrs : r ≠ sb := by omega
    have hfs : f ≠ sb := by omega
    have hrs2 : sb ≠ r := by omega
    have hfs2 : sb ≠ f := by omega
    have hrf2 : r ≠ f := fun e => h2 e.symm
    obtain ⟨W1, hW1⟩ : ∃ W1, W1 = wc.setCell ⟨r, 1, none⟩ (.int .i64 rz) := ⟨_, rfl⟩
    have gg1 : W0.grownBy W1 none := by rw [hW1]; exact grown_set h1 h4
    have k5 : W1.heap[f]? = some (.cells #[.int .i64 a, .int .i64 b] 56 (0, 0)) := by rw [hW1, Below.heap_setCell _ _ _ _ (by exact h2)]; exact h5
    have k6 : W1.heap[r]? = some (.cells #[.int .i64 a, .int .i64 rz] 56 (0, 0)) := by rw [hW1]; exact heap_set (j := 1) h6 _
    have k7 := (gg1.block sb sl (by simp)).trans b0.out
    have m0 : W1.cell? ⟨sb, 1, none⟩ = some (.int .i64 b) := by rw [cell_of_heap k7]; rfl
    have m1 : W1.cell? ⟨r, 1, none⟩ = some (.int .i64 rz) := by rw [cell_of_heap k6]; rfl
    have m2 : W1.cell? ⟨f, 1, none⟩ = some (.int .i64 b) := by rw [cell_of_heap k5]; rfl
    have mf := free_of_heap k5 1
    obtain ⟨W2, hW2⟩ : ∃ W2, W2 = (W1.setCell ⟨f, 1, none⟩ (.int .i64 fz)).drew := ⟨_, rfl⟩
    have g2 : W0.grownBy W2 none := by rw [hW2]; exact g_drew (grown_set gg1 h3)
    have e5 : W2.heap[f]? = some (.cells #[.int .i64 a, .int .i64 fz] 56 (0, 0)) := by
      rw [hW2]
      exact heap_set (j := 1) k5 _
    have e6 : W2.heap[r]? = some (.cells #[.int .i64 a, .int .i64 rz] 56 (0, 0)) := by
      rw [hW2]
      show (W1.setCell ⟨f, 1, none⟩ (.int .i64 fz)).heap[r]? = _
      rw [Below.heap_setCell _ _ _ _ (by exact hrf2)]
      exact k6
    have e7 := (g2.block sb sl (by simp)).trans b0.out
    have gw : w.grownBy W2 none := g0.out.trans g2
    have ogw : Off G [] w W2 := Off.of_grown hm gw
    have v0 : W2.cell? ⟨sb, 0, none⟩ = some (.int .i64 a) := by rw [cell_of_heap e7]; rfl
    have v1 : W2.cell? ⟨sb, 1, none⟩ = some (.int .i64 b) := by rw [cell_of_heap e7]; rfl
    have v2 : W2.cell? ⟨f, 0, none⟩ = some (.int .i64 a) := by rw [cell_of_heap e5]; rfl
    have v3 : W2.cell? ⟨f, 1, none⟩ = some (.int .i64 fz) := by rw [cell_of_heap e5]; rfl
    have v4 : W2.cell? ⟨r, 0, none⟩ = some (.int .i64 a) := by rw [cell_of_heap e6]; rfl
    have v5 : W2.cell? ⟨r, 1, none⟩ = some (.int .i64 rz) := by rw [cell_of_heap e6]; rfl
    have v6 : W2.cell? ⟨B, o, none⟩ = some (ptr k0.g) := h0.out [] W2 ogw (by simp)
    have hno : (1 : Int) ≤ (n : Int) := by omega
    have hno0 : (0 : Int) < (n : Int) := by omega
    have hno2 : 0 < n := by omega
    have hco : (n : Int) ≤ (c : Int) := by omega
    have hc1 : ¬ (c = 1) := by omega
    have hW2h := Lib.hid hW2
    have hW1h := Lib.hid hW1
    clear hW2 hW1
    replace k5 := Lib.hid k5; replace k6 := Lib.hid k6; replace k7 := Lib.hid k7; replace gg1 := Lib.hid gg1
    obtain ⟨_, hidl, _⟩ := hR.out.prow rfl hα.out (by omega)
    have hS := sees_any (G := G) (w := w) (W2 := W2) (ks := k0 :: ks) (v := ptr k0.g) nd.out (fun k hk => (hK.out k hk).lt) hm gw e7 e5 e6 (by rw [hsbh.out]; exact Nat.le_refl _) (by have := g0.out.size; omega) (by have := g0.out.size; omega) hidl (fun S w' o h => h0.out S w' o h)
    obtain ⟨C1, C2, C3⟩ := chief_calls (G := G) (way := 0) (by decide) 1 a b a fz a rz id B o c n k0 ks w W2 (show ∀ Sx W', _ → _ → Sees sb f r B o a b a fz a rz k0.g W' from hS) hR.out hα.out hn.out hl hc hK.out nd.out hm hE.out (by unfold Bd; omega) (by unfold Bd; omega) (by unfold Bd; omega) (by unfold Bd; omega) gw
    have hfin : ∀ e w', EvenP G w (id :: blL (k0 :: ks)) (.mk 0 a b 1 [k0.er.even a fz, rowE 0 a rz (erL ks)]) e w' → EvenP G w (id :: blL (k0 :: ks)) (chiefE 0 a b (erL (k0 :: ks))) e w' := fun e w' h => by
      have e9 : chiefE 0 a b (erL (k0 :: ks)) = .mk 0 a b 1 [k0.er.even a fz, rowE 0 a rz (erL ks)] := by
        have hl2 : (erL ks).length = n - 1 := by rw [erL_len, hn.out]; omega
        rw [erL_cons, hfz.out, hrz.out]
        generalize erL ks = es at hl2 ⊢
        match es, hl2 with
        | [], h => simp at h; omega
        | e1 :: es, h => rfl
      rw [e9]; exact h
    replace C1 := Lib.hid C1; replace C2 := Lib.hid C2; replace C3 := Lib.hid C3; replace hS := Lib.hid hS; replace hfin := Lib.hid hfin
    replace h1 := Lib.hid h1; replace h5 := Lib.hid h5; replace h6 := Lib.hid h6; replace hbx := Lib.hid hbx; replace e5 := Lib.hid e5; replace e6 := Lib.hid e6; replace e7 := Lib.hid e7; replace g2 := Lib.hid g2; replace gw := Lib.hid gw; replace ogw := Lib.hid ogw; replace hH := Lib.hid True.intro
    go_upto_region 6 with fail
    rw [← hW1h.out]
    go_still_tail 10, (by kernel_rfl)
    change wpList _ _ _ _ _ W1.drew
    go_upto_region 7 with fail
    rw [← hW2h.out]
    clear u0 u1 r0 r1 f0 f1 rf ff s0 s1 m0 m1 m2 mf
    unfold ptr at v6
    go_region_held3 (fun w' => w'.cell? ⟨sb, 0, none⟩ = some (.int .i64 a) ∧ w'.cell? ⟨sb, 1, none⟩ = some (.int .i64 b) ∧ w'.cell? ⟨f, 0, none⟩ = some (.int .i64 a) ∧ w'.cell? ⟨f, 1, none⟩ = some (.int .i64 fz) ∧ w'.cell? ⟨r, 0, none⟩ = some (.int .i64 a) ∧ w'.cell? ⟨r, 1, none⟩ = some (.int .i64 rz) ∧ w'.cell? ⟨B, o, none⟩ = some (.pointer (some ⟨k0.g, 0, none⟩)))
      (first | go_keep | fail)
      ((first
        | (go_at_call 44; (with_reducible refine (C1.out _ (g_drew (World.grownBy_alloc W2 _ none)) _ (by simp) (heap_alloc_new W2 _)).mono ?_); rintro e w1 ⟨t1, up1, rfl, hP1, y0, y1, y2, y3, y4, y5, y6⟩)
        | (go_at_call 44; (with_reducible refine (C2.out _ _ _ hP1.out).mono ?_); rintro e w2 ⟨t2, rfl, hP2, x0, x1, x2, x3, x4, x5, x6⟩)
        | (go_at_call 32; (with_reducible refine (C3.out _ _ _ hP2.out _ (World.grownBy_alloc w2 _ none) _ (Nat.le_refl _) (heap_alloc_new w2 _)).mono ?_); rintro e w3 ⟨gg, rfl, hP3, a0, a1, a2, a3, a4, a5, a6⟩)
        | fail))
    all_goals
      clear C1 C2 C3
      go_wp2_with fail
      go_ret
      exact hfin.out _ _ hP3.out

set_option maxHeartbeats 1000000 in
set_option maxRecDepth 100000 in
theorem chief_w1 (a b : Int) (id B o c n : Nat) (k0 : T) (ks : List T) (w : World) (hR : RowAt G w (some id) (c - 1) (n - 1) (ptrs ks)) (hα : G.α id = (B, o + 1)) (hn : n = ks.length + 1) (hl : 2 ≤ n ∧ n ≤ 1000) (hc : n ≤ c ∧ c ≤ 9223372036854775807)
    (h0 : ∀ S w', Off G S w w' → (∀ x ∈ S, x ∈ id :: blL (k0 :: ks) ∨ w.heap.size ≤ x) → w'.cell? ⟨B, o, none⟩ = some (ptr k0.g))
    (hK : ∀ k ∈ k0 :: ks, LT G w k) (nd : (id :: blL (k0 :: ks)).Nodup) (hm : G.m ≤ w.heap.size) (hE : ∀ k ∈ k0 :: ks, Even1 k) (ha : 1 ≤ a ∧ a ≤ 250) (hb : 1 ≤ b ∧ b ≤ 250) :
    Calls Tryd.prog 45 #[.int .i64 1, .agg #[.int .i64 a, .int .i64 b], .slice (some ⟨B, o, none⟩) n c] w (EvenP G w (id :: blL (k0 :: ks)) (chiefE 1 a b (erL (k0 :: ks)))) := by
  obtain ⟨rz, hrz⟩ : ∃ rz, rz = (a - 1).tdiv 2 := ⟨_, rfl⟩
  obtain ⟨fz, hfz⟩ : ∃ fz, fz = a - 1 - rz := ⟨_, rfl⟩
  have hrz2 : rz = (a - 1) / 2 := by rw [hrz, Int.tdiv_eq_ediv_of_nonneg (by omega)]
  have hrb : 0 ≤ rz ∧ rz ≤ 250 ∧ 0 ≤ fz ∧ fz ≤ 250 := by omega
  have hn1 : ((n : Int) == 1) = false := beq_eq_false_iff_ne.2 (by omega)
  have z1 : IntKind.i64.wrap (a - 1) = a - 1 := IntWalk.i64_in _ (by omega)
  have z2 : IntKind.i64.wrap ((a - 1).tdiv 2) = rz := by rw [← hrz]; exact IntWalk.i64_in _ (by omega)
  have z3 : IntKind.i64.wrap (a - 1 - rz) = fz := by rw [← hfz]; exact IntWalk.i64_in _ (by omega)
  obtain ⟨sb, hsb⟩ : ∃ sb, sb = w.heap.size := ⟨_, rfl⟩
  obtain ⟨W0, hW0⟩ : ∃ W0, W0 = w.alloc (.cells #[.int .i64 a, .int .i64 b] 56) := ⟨_, rfl⟩
  have b0 : W0.heap[sb]? = some (.cells #[.int .i64 a, .int .i64 b] 56 (0, 0)) := by rw [hW0, hsb]; exact heap_alloc_new w _
  have s0 : W0.cell? ⟨sb, 0, none⟩ = some (.int .i64 a) := by rw [cell_of_heap b0]; rfl
  have s1 : W0.cell? ⟨sb, 1, none⟩ = some (.int .i64 b) := by rw [cell_of_heap b0]; rfl
  have sl := lt_of_heap b0
  have g0 : w.grownBy W0 none := by rw [hW0]; exact World.grownBy_alloc _ _ _
  replace hR := Lib.hid hR; replace hα := Lib.hid hα; replace hn := Lib.hid hn; replace h0 := Lib.hid h0; replace hK := Lib.hid hK; replace nd := Lib.hid nd; replace hE := Lib.hid hE; replace b0 := Lib.hid b0; replace g0 := Lib.hid g0; replace hrz := Lib.hid hrz; replace hfz := Lib.hid hfz; replace hrz2 := Lib.hid hrz2
  have hW0h := Lib.hid hW0; have hsbh := Lib.hid hsb
  clear hW0 hsb
  go_enter Tryd.func45, Tryd.ntmps45
  go_upto_region 1 with fail
  rw [← hW0h.out, ← hsbh.out]
  go_upto_region 4 with fail
  go_cut [8, 9] (fun v8 v9 wx => ∃ f r : Nat, v8 = .pointer (some ⟨f, 0, none⟩) ∧ v9 = .pointer (some ⟨r, 0, none⟩) ∧ Hid (W0.grownBy wx none ∧ f ≠ r ∧ W0.heap.size ≤ f ∧ W0.heap.size ≤ r ∧ wx.heap[f]? = some (.cells #[.int .i64 a, .int .i64 b] 56 (0, 0)) ∧ wx.heap[r]? = some (.cells #[.int .i64 a, .int .i64 b] 56 (0, 0))))
  case first =>
    go_region_held3 (fun w' => w'.cell? ⟨sb, 0, none⟩ = some (.int .i64 a) ∧ w'.cell? ⟨sb, 1, none⟩ = some (.int .i64 b)) (first | go_keep | fail) (fail)
    all_goals
      go_wp2_with fail
      go_meet
      obtain ⟨q1, q2, q3, q4⟩ := two_new W0 (.cells #[.int .i64 a, .int .i64 b] 56) (.cells #[.int .i64 a, .int .i64 b] 56)
      first
        | exact ⟨W0.heap.size, W0.heap.size + 1, rfl, rfl, Lib.hid ⟨q1, by omega, by omega, by omega, q2, q3⟩⟩
        | exact ⟨W0.heap.size + 1, W0.heap.size, rfl, rfl, Lib.hid ⟨q1, by omega, by omega, by omega, q3, q2⟩⟩
  case rest =>
    obtain ⟨f, r, rfl, rfl, hH⟩ := hcut
    obtain ⟨h1, h2, h3, h4, h5, h6⟩ := hH.out
    have hbx := (h1.block sb sl (by simp)).trans b0.out
    have u0 : wc.cell? ⟨sb, 0, none⟩ = some (.int .i64 a) := by rw [cell_of_heap hbx]; rfl
    have u1 : wc.cell? ⟨sb, 1, none⟩ = some (.int .i64 b) := by rw [cell_of_heap hbx]; rfl
    have r0 : wc.cell? ⟨r, 0, none⟩ = some (.int .i64 a) := by rw [cell_of_heap h6]; rfl
    have r1 : wc.cell? ⟨r, 1, none⟩ = some (.int .i64 b) := by rw [cell_of_heap h6]; rfl
    have f0 : wc.cell? ⟨f, 0, none⟩ = some (.int .i64 a) := by rw [cell_of_heap h5]; rfl
    have f1 : wc.cell? ⟨f, 1, none⟩ = some (.int .i64 b) := by rw [cell_of_heap h5]; rfl
    have rf := free_of_heap h6 0
    have ff := free_of_heap h5 0
    have hrs : r ≠ sb := by omega
    have hfs : f ≠ sb := by omega
    have hrs2 : sb ≠ r := by omega
    have hfs2 : sb ≠ f := by omega
    have hrf2 : r ≠ f := fun e => h2 e.symm
    obtain ⟨W1, hW1⟩ : ∃ W1, W1 = wc.setCell ⟨r, 0, none⟩ (.int .i64 rz) := ⟨_, rfl⟩
    have gg1 : W0.grownBy W1 none := by rw [hW1]; exact grown_set h1 h4
    have k5 : W1.heap[f]? = some (.cells #[.int .i64 a, .int .i64 b] 56 (0, 0)) := by rw [hW1, Below.heap_setCell _ _ _ _ (by exact h2)]; exact h5
    have k6 : W1.heap[r]? = some (.cells #[.int .i64 rz, .int .i64 b] 56 (0, 0)) := by rw [hW1]; exact heap_set (j := 0) h6 _
    have k7 := (gg1.block sb sl (by simp)).trans b0.out
    have m0 : W1.cell? ⟨sb, 0, none⟩ = some (.int .i64 a) := by rw [cell_of_heap k7]; rfl
    have m1 : W1.cell? ⟨r, 0, none⟩ = some (.int .i64 rz) := by rw [cell_of_heap k6]; rfl
    have m2 : W1.cell? ⟨f, 0, none⟩ = some (.int .i64 a) := by rw [cell_of_heap k5]; rfl
    have mf := free_of_heap k5 0
    obtain ⟨W2, hW2⟩ : ∃ W2, W2 = (W1.setCell ⟨f, 0, none⟩ (.int .i64 fz)).drew := ⟨_, rfl⟩
    have g2 : W0.grownBy W2 none := by rw [hW2]; exact g_drew (grown_set gg1 h3)
    have e5 : W2.heap[f]? = some (.cells #[.int .i64 fz, .int .i64 b] 56 (0, 0)) := by
      rw [hW2]
      exact heap_set (j := 0) k5 _
    have e6 : W2.heap[r]? = some (.cells #[.int .i64 rz, .int .i64 b] 56 (0, 0)) := by
      rw [hW2]
      show (W1.setCell ⟨f, 0, none⟩ (.int .i64 fz)).heap[r]? = _
      rw [Below.heap_setCell _ _ _ _ (by exact hrf2)]
      exact k6
    have e7 := (g2.block sb sl (by simp)).trans b0.out
    have gw : w.grownBy W2 none := g0.out.trans g2
    have ogw : Off G [] w W2 := Off.of_grown hm gw
    have v0 : W2.cell? ⟨sb, 0, none⟩ = some (.int .i64 a) := by rw [cell_of_heap e7]; rfl
    have v1 : W2.cell? ⟨sb, 1, none⟩ = some (.int .i64 b) := by rw [cell_of_heap e7]; rfl
    have v2 : W2.cell? ⟨f, 0, none⟩ = some (.int .i64 fz) := by rw [cell_of_heap e5]; rfl
    have v3 : W2.cell? ⟨f, 1, none⟩ = some (.int .i64 b) := by rw [cell_of_heap e5]; rfl
    have v4 : W2.cell? ⟨r, 0, none⟩ = some (.int .i64 rz) := by rw [cell_of_heap e6]; rfl
    have v5 : W2.cell? ⟨r, 1, none⟩ = some (.int .i64 b) := by rw [cell_of_heap e6]; rfl
    have v6 : W2.cell? ⟨B, o, none⟩ = some (ptr k0.g) := h0.out [] W2 ogw (by simp)
    have hno : (1 : Int) ≤ (n : Int) := by omega
    have hno0 : (0 : Int) < (n : Int) := by omega
    have hno2 : 0 < n := by omega
    have hco : (n : Int) ≤ (c : Int) := by omega
    have hc1 : ¬ (c = 1) := by omega
    have hW2h := Lib.hid hW2
    have hW1h := Lib.hid hW1
    clear hW2 hW1
    replace k5 := Lib.hid k5; replace k6 := Lib.hid k6; replace k7 := Lib.hid k7; replace gg1 := Lib.hid gg1
    obtain ⟨_, hidl, _⟩ := hR.out.prow rfl hα.out (by omega)
    have hS := sees_any (G := G) (w := w) (W2 := W2) (ks := k0 :: ks) (v := ptr k0.g) nd.out (fun k hk => (hK.out k hk).lt) hm gw e7 e5 e6 (by rw [hsbh.out]; exact Nat.le_refl _) (by have := g0.out.size; omega) (by have := g0.out.size; omega) hidl (fun S w' o h => h0.out S w' o h)
    obtain ⟨C1, C2, C3⟩ := chief_calls (G := G) (way := 1) (by decide) 0 a b fz b rz b id B o c n k0 ks w W2 (show ∀ Sx W', _ → _ → Sees sb f r B o a b fz b rz b k0.g W' from hS) hR.out hα.out hn.out hl hc hK.out nd.out hm hE.out (by unfold Bd; omega) (by unfold Bd; omega) (by unfold Bd; omega) (by unfold Bd; omega) gw
    have hfin : ∀ e w', EvenP G w (id :: blL (k0 :: ks)) (.mk 0 a b 0 [k0.er.even fz b, rowE 1 rz b (erL ks)]) e w' → EvenP G w (id :: blL (k0 :: ks)) (chiefE 1 a b (erL (k0 :: ks))) e w' := fun e w' h => by
      have e9 : chiefE 1 a b (erL (k0 :: ks)) = .mk 0 a b 0 [k0.er.even fz b, rowE 1 rz b (erL ks)] := by
        have hl2 : (erL ks).length = n - 1 := by rw [erL_len, hn.out]; omega
        rw [erL_cons, hfz.out, hrz.out]
        generalize erL ks = es at hl2 ⊢
        match es, hl2 with
        | [], h => simp at h; omega
        | e1 :: es, h => rfl
      rw [e9]; exact h
    replace C1 := Lib.hid C1; replace C2 := Lib.hid C2; replace C3 := Lib.hid C3; replace hS := Lib.hid hS; replace hfin := Lib.hid hfin
    replace h1 := Lib.hid h1; replace h5 := Lib.hid h5; replace h6 := Lib.hid h6; replace hbx := Lib.hid hbx; replace e5 := Lib.hid e5; replace e6 := Lib.hid e6; replace e7 := Lib.hid e7; replace g2 := Lib.hid g2; replace gw := Lib.hid gw; replace ogw := Lib.hid ogw; replace hH := Lib.hid True.intro
    go_upto_region 6 with fail
    rw [← hW1h.out]
    go_still_tail 10, (by kernel_rfl)
    change wpList _ _ _ _ _ W1.drew
    go_upto_region 7 with fail
    rw [← hW2h.out]
    clear u0 u1 r0 r1 f0 f1 rf ff s0 s1 m0 m1 m2 mf
    unfold ptr at v6
    go_region_held3 (fun w' => w'.cell? ⟨sb, 0, none⟩ = some (.int .i64 a) ∧ w'.cell? ⟨sb, 1, none⟩ = some (.int .i64 b) ∧ w'.cell? ⟨f, 0, none⟩ = some (.int .i64 fz) ∧ w'.cell? ⟨f, 1, none⟩ = some (.int .i64 b) ∧ w'.cell? ⟨r, 0, none⟩ = some (.int .i64 rz) ∧ w'.cell? ⟨r, 1, none⟩ = some (.int .i64 b) ∧ w'.cell? ⟨B, o, none⟩ = some (.pointer (some ⟨k0.g, 0, none⟩)))
      (first | go_keep | fail)
      ((first
        | (go_at_call 44; (with_reducible refine (C1.out _ (g_drew (World.grownBy_alloc W2 _ none)) _ (by simp) (heap_alloc_new W2 _)).mono ?_); rintro e w1 ⟨t1, up1, rfl, hP1, y0, y1, y2, y3, y4, y5, y6⟩)
        | (go_at_call 44; (with_reducible refine (C2.out _ _ _ hP1.out).mono ?_); rintro e w2 ⟨t2, rfl, hP2, x0, x1, x2, x3, x4, x5, x6⟩)
        | (go_at_call 32; (with_reducible refine (C3.out _ _ _ hP2.out _ (World.grownBy_alloc w2 _ none) _ (Nat.le_refl _) (heap_alloc_new w2 _)).mono ?_); rintro e w3 ⟨gg, rfl, hP3, a0, a1, a2, a3, a4, a5, a6⟩)
        | fail))
    all_goals
      clear C1 C2 C3
      go_wp2_with fail
      go_ret
      exact hfin.out _ _ hP3.out
end Go.Proofs.YtcklmkjlbpjojaaDoor.X
