/- Layout: tiled. -/
import Derived.Test.YtcklmkjlbpjojaaDoorXV
namespace Go.Proofs.YtcklmkjlbpjojaaDoor.X
open Go.RowKit Go.Shelf
set_option linter.unusedSimpArgs false
set_option linter.unusedVariables false
attribute [local go_sem] Oper.semAt_some
variable {G : Gh}
theorem cols_ar {d : Nat} (h : d ≤ 1000) : wrap64 ((d : Int) * (d : Int)) = ((d * d : Nat) : Int) := by
  have h1 : d * d ≤ 1000 * 1000 := Nat.mul_le_mul h h
  rw [← Int.natCast_mul]
  exact wrap_in ⟨by omega, by omega⟩
theorem cols_ar2 {d : Nat} (h : d ≤ 1000) : wrap64 ((d : Int) + 1) = ((d + 1 : Nat) : Int) := wrap_in ⟨by omega, by omega⟩
theorem piece_nodup {ls : List T} {c x : Nat} (hnd : (blL ls).Nodup) : (blL (piece ls c x)).Nodup := by
  refine blL_nodup (fun t ht => ?_) fun i' j' s' t' y' a1 a2 a3 a4 => ?_
  · obtain ⟨p, hp⟩ := List.getElem?_of_mem (piece_mem ht)
    rw [split_at hp] at hnd
    exact (kid_apart hnd).1
  · have hst := bl_uniq hnd (piece_mem (List.mem_of_getElem? a1)) (piece_mem (List.mem_of_getElem? a2)) a3 a4
    subst hst
    unfold piece at a1 a2
    rw [List.getElem?_take] at a1 a2
    split at a1
    · split at a2
      · rw [List.getElem?_drop] at a1 a2
        have := pos_uniq hnd a1 a2
        omega
      · cases a2
    · cases a1
theorem LT.cells {W : World} : ∀ (t : T), LT G W t → ∀ y ∈ t.bl, G.m ≤ y → ∃ c e, W.heap[y]? = some (Obj.cells c e (0, 0)) := by
  intro t
  induction t using T.ind with
  | h n ks ih =>
    intro h y hy hm
    obtain ⟨⟨up, hA⟩, hk⟩ := LT_mk.1 h
    rw [T.bl_mk] at hy
    simp only [List.mem_cons, List.mem_append] at hy
    rcases hy with rfl | hy | hy
    · exact ⟨_, _, hA.h⟩
    · rw [Option.mem_toList] at hy
      rcases hA.r.2 with ⟨h1, _⟩ | ⟨b', cur, h1, _, _, h4, _⟩
      · rw [h1] at hy; cases hy
      · rw [h1] at hy; injection hy with hy; subst hy
        have := h4.h
        rw [G.fa _ hm] at this
        exact ⟨_, _, this⟩
    · obtain ⟨k, hk', hy⟩ := mem_blL.1 hy
      exact ih k hk' (hk k hk') y hy hm
theorem Off.put {w W : World} {S : List Nat} {D : Nat} (h : Off G S w W) (hD : w.heap.size ≤ D) (o : Obj) : Off G S w (W.putObj D o) := by
  refine ⟨h.os, h.tape, h.output, by simpa using h.size, fun k hk hn => (World.putObj_heap_other (by omega)).trans (h.block k hk hn), fun k c e hk => ?_, h.m⟩
  obtain ⟨c1, p1, p2, p3⟩ := h.part k c e hk
  exact ⟨c1, (World.putObj_heap_other (by have := lt_of_heap hk; omega)).trans p1, p2, p3⟩
theorem CK.put {W : World} {D : Nat} {o : Obj} (o' : Obj) (h : W.heap[D]? = some o) (ho : o.isCells = false) : CK W (W.putObj D o') := ⟨rfl, rfl, rfl, by simp, fun k c e f hk => by
  rw [World.putObj_heap_other (by
    rintro rfl
    rw [h] at hk; injection hk with hk; subst hk; cases ho)]
  exact hk⟩
theorem four_new (w : World) (o1 o2 o3 o4 : Obj) : w.grownBy ((((w.alloc o1).alloc o2).alloc o3).alloc o4) none ∧ ((((w.alloc o1).alloc o2).alloc o3).alloc o4).heap[w.heap.size]? = some o1 ∧ ((((w.alloc o1).alloc o2).alloc o3).alloc o4).heap[w.heap.size + 1]? = some o2 ∧
    ((((w.alloc o1).alloc o2).alloc o3).alloc o4).heap[w.heap.size + 1 + 1]? = some o3 ∧ ((((w.alloc o1).alloc o2).alloc o3).alloc o4).heap[w.heap.size + 1 + 1 + 1]? = some o4 ∧ ((((w.alloc o1).alloc o2).alloc o3).alloc o4).heap.size = w.heap.size + 4 := by
  have e1 : (w.alloc o1).heap.size = w.heap.size + 1 := by simp
  have e2 : ((w.alloc o1).alloc o2).heap.size = w.heap.size + 1 + 1 := by simp
  have e3 : (((w.alloc o1).alloc o2).alloc o3).heap.size = w.heap.size + 1 + 1 + 1 := by simp
  have g1 := World.grownBy_alloc w o1 none
  have g2 := World.grownBy_alloc (w.alloc o1) o2 none
  have g3 := World.grownBy_alloc ((w.alloc o1).alloc o2) o3 none
  have g4 := World.grownBy_alloc (((w.alloc o1).alloc o2).alloc o3) o4 none
  have n1 := heap_alloc_new w o1
  have n2 := heap_alloc_new (w.alloc o1) o2
  have n3 := heap_alloc_new ((w.alloc o1).alloc o2) o3
  have n4 := heap_alloc_new (((w.alloc o1).alloc o2).alloc o3) o4
  rw [e1] at n2; rw [e2] at n3; rw [e3] at n4
  exact ⟨((g1.trans g2).trans g3).trans g4, (((g2.trans g3).trans g4).block _ (by simp) (by simp)).trans n1, ((g3.trans g4).block _ (by simp) (by simp)).trans n2, (g4.block _ (by simp) (by simp)).trans n3, n4, by simp⟩
theorem lt_of_cell {W : World} {a : Addr} {v : Value} (h : W.cell? a = some v) : a.block < W.heap.size := by
  rcases Nat.lt_or_ge a.block W.heap.size with h1 | h1
  · exact h1
  · exfalso
    unfold World.cell? at h
    rw [Array.getElem?_eq_none h1] at h
    cases h
theorem J_app2 {B h n : Nat} {W w2 : World} {xs : List Value} {v : Value} {A A2 : Option Addr} {c c2 : Nat} (hn : xs.length = n) (hh : W.heap[h]? = some (.cells #[.slice A n c] 53 (0, 0))) (hO : W.ownsRow B 55 1 (.slice A n c) n xs) (hne : ablk A ≠ some h) (hB : B ≤ h)
    (O2 : w2.ownsRow B 55 1 (.slice A2 (n + 1) c2) (n + 1) (xs ++ [v])) (G2 : (W.alloc (.cells #[v] 55)).grownBy w2 (Value.slice A n c).ownBlock) (hh2 : ablk A2 = (Value.slice A n c).ownBlock ∨ ablk A2 = some (W.alloc (.cells #[v] 55)).heap.size) :
    w2.cell? ⟨h, 0, none⟩ = some (.slice A n c) ∧ w2.frozen? ⟨h, 0, none⟩ = false ∧ J B (w2.setCell ⟨h, 0, none⟩ (.slice A2 (n + 1) c2)) h (xs ++ [v]) ∧ Below B W (w2.setCell ⟨h, 0, none⟩ (.slice A2 (n + 1) c2)) ∧
      (∀ k o, W.heap[k]? = some o → k ≠ h → (∀ c fz, o ≠ .cells c 55 fz) → (w2.setCell ⟨h, 0, none⟩ (.slice A2 (n + 1) c2)).heap[k]? = some o) ∧ W.heap.size ≤ (w2.setCell ⟨h, 0, none⟩ (.slice A2 (n + 1) c2)).heap.size := by
  subst hn
  obtain ⟨a1, a2, a3, a4, a5⟩ := J_app hh hO hne hB O2 G2 hh2
  exact ⟨by rw [cell_of_heap a1]; rfl, free_of_heap a1 0, a2, a3, a4, a5⟩
theorem Rd_new0 (W : World) (v : Value) : Rd (W.alloc (.cells #[v] 55)) (some ⟨W.heap.size, 0, none⟩) [v] := fun _ => ⟨_, _, rfl, by simp, fun j u hj => by
    rcases j with _ | j
    · simp at hj; subst hj
      unfold World.cell?; rw [heap_alloc_new]; rfl
    · simp at hj⟩
theorem Rd_new (W : World) (v : Value) : Rd (W.alloc (.cells #[v] 55)).drew (some ⟨W.heap.size, 0, none⟩) [v] := fun _ => ⟨_, _, rfl, by show W.heap.size < (W.alloc _).heap.size; simp, fun j u hj => by
    rcases j with _ | j
    · simp at hj; subst hj
      show (W.alloc _).cell? _ = _
      unfold World.cell?; rw [heap_alloc_new]; rfl
    · simp at hj⟩
section
variable {w W W' : World} {B n c : Nat} {ls : List T} {q : Nat → Nat} {a b : Int} {rb sb sB nB : Nat} {vS vN : Value} {pre : List (Pc n c)}
/-- A round that appends a leaf. -/
theorem TI.leaf {B1 : Nat} (E : TEnv G w B n c ls q) (h : TI G w B n c ls q a b rb sb sB nB vS vN pre W) {ts : List T} (r1 : ts.length = pre.length) (r3 : ∀ (i : Nat) (x : Pc n c) (t : T), pre[i]? = some x → ts[i]? = some t → TileR w.heap.size a b B n c ls q x.1 t W) (r4 : (heads ts).Nodup)
    {x : Pc n c} {t : T} (hb : Below w.heap.size W W') (hk : ∀ k o, W.heap[k]? = some o → k ≠ rb → (∀ c fz, o ≠ .cells c 55 fz) → W'.heap[k]? = some o) (hsz : W.heap.size ≤ W'.heap.size) (hr : sb ≠ rb ∧ sB ≠ rb ∧ nB ≠ rb) (hrb : ∃ v, W.heap[rb]? = some (.cells #[v] 53 (0, 0)))
    (hJ : J w.heap.size W' rb (ptrs ts ++ [ptr t.g])) (hx : TileR w.heap.size a b B n c ls q x.1 t W) (hh : ∀ s ∈ heads [t], s ∉ heads ts) : KeepsFrom B1 W W' ∧ ChK sB nB W W' ∧ TI G w B n c ls q a b rb sb sB nB vS vN (pre ++ [x]) W' := by
  have h' := h.add E r1 r3 r4 hb hk hsz hr.1 hr.2.1 hr.2.2 hrb hJ hx hh
  refine ⟨⟨hsz, fun k o _ hko ho => hk k o hko ?_ fun c fz e => ?_⟩, h.chk h', h'⟩
  · rintro rfl
    obtain ⟨v, hv⟩ := hrb
    rw [hv] at hko; injection hko with hko; subst hko; cases ho
  · subst e; cases ho
end
section
variable {w W W3 W' : World} {B n c : Nat} {ls : List T} {q : Nat → Nat} {a b : Int} {rb sb sB nB : Nat} {vS vN : Value} {pre : List (Pc n c)}
/-- A round that splits a piece, and appends the node. -/
theorem TI.node {B1 s : Nat} (hB1 : w.heap.size ≤ B1) (E : TEnv G w B n c ls q) (h : TI G w B n c ls q a b rb sb sB nB vS vN pre W) {ts : List T} (r1 : ts.length = pre.length) (r3 : ∀ (i : Nat) (x : Pc n c) (t : T), pre[i]? = some x → ts[i]? = some t → TileR w.heap.size a b B n c ls q x.1 t W) (r4 : (heads ts).Nodup)
    {x : Pc n c} (hp : plen n c x.1 ≠ 1) (hs : W.heap.size ≤ s) (hT : TP G W3 none (nodeT a b n c ls q s x.1)) (ho : Off G ((piece ls c x.1).map T.g) W W3) (hbs : sb ≠ rb ∧ sB ≠ rb ∧ nB ≠ rb ∧ w.heap.size ≤ rb ∧ w.heap.size ≤ sb ∧ w.heap.size ≤ sB ∧ w.heap.size ≤ nB) (hrb : ∃ v, W.heap[rb]? = some (.cells #[v] 53 (0, 0))) :
    (∀ k o, w.heap.size ≤ k → W.heap[k]? = some o → W3.heap[k]? = some o) ∧ ∀ W', Below w.heap.size W3 W' → (∀ k o, W3.heap[k]? = some o → k ≠ rb → (∀ c fz, o ≠ .cells c 55 fz) → W'.heap[k]? = some o) → W3.heap.size ≤ W'.heap.size → J w.heap.size W' rb (ptrs ts ++ [ptr s]) →
      KeepsFrom B1 W W' ∧ ChK sB nB W W' ∧ TI G w B n c ls q a b rb sb sB nB vS vN (pre ++ [x]) W' := by
  obtain ⟨h3, hso, hkeep, _, hTk⟩ := h.split E x.2 hs hT ho hbs.2.2.2.1 hbs.2.2.2.2.1 hbs.2.2.2.2.2.1 hbs.2.2.2.2.2.2
  refine ⟨hkeep, fun W' hb hk hsz hJ => ?_⟩
  obtain ⟨v, hv⟩ := hrb
  have hws := h.o.size
  obtain ⟨z1, z2, z3⟩ := TI.leaf (B1 := B1) E h3 r1 (fun i y t h1 h2 => hTk _ _ (r3 i y t h1 h2)) r4 hb hk hsz ⟨hbs.1, hbs.2.1, hbs.2.2.1⟩ ⟨v, hkeep _ _ hbs.2.2.2.1 hv⟩ (x := x) (t := nodeT a b n c ls q s x.1) hJ (.inr ⟨hp, s, rfl, by omega, hso⟩) (fun y hy hy2 => by
    rw [heads_one] at hy
    split at hy
    · cases hy
    · rw [List.mem_singleton] at hy
      have := (TI.heads_lt trivial r1 E.lf r3 y hy2).1
      have e : y = s := hy
      omega)
  exact ⟨⟨Nat.le_trans ho.size z1.size, fun k o hk' hko hc => z1.same k o hk' (hkeep k o (by omega) hko) hc⟩, chK_t (h.chk h3) z2, z3⟩
end
/-- How many tiles to a row. -/
def Cols (n c : Nat) : Prop := 1 ≤ c ∧ n ≤ c * c ∧ ∀ d, 1 ≤ d → d < c → d * d < n

set_option maxRecDepth 100000 in
set_option maxHeartbeats 4000000 in
theorem tiled_any (a b : Int) (B n cap c : Nat) (ls : List T) (q : Nat → Nat) (w : World) (E : TEnv G w B n c ls q) (hC : Cols n c) (hcap : n ≤ cap) (hF : ∀ k ∈ ls, Frm k.er ∧ Sm k) (ha : Bd a) (hb : Bd b)
    (hcell : ∀ W, Off G (ls.map T.g) w W → ∀ x, x * c < n → ∃ t, ls[x * c]? = some t ∧ W.cell? ⟨B, x * c, none⟩ = some (ptr t.g)) :
    Calls Tryd.prog 46 #[.agg #[.int .i64 a, .int .i64 b], .slice (some ⟨B, 0, none⟩) n cap] w (EvenP G w ((List.range (pnum n c)).map q ++ blL ls) (rowE 1 a b (tiledEs n c a b (erL ls)))) := by
  refine (callsIn_wide (n := 5)).1 ?_
  have h5 : (1 : Nat) ≤ 5 := by omega
  obtain ⟨hc1, hc2, hc3⟩ := hC
  have hEc := E.c1
  have hEn := E.n1
  replace E := Lib.hid E; replace hF := Lib.hid hF; replace hcell := Lib.hid hcell; replace ha := Lib.hid ha; replace hb := Lib.hid hb; replace hc2 := Lib.hid hc2; replace hc3 := Lib.hid hc3
  refine callsIn_of_wp_marks Tryd.func46 rfl trivial ?_ rfl
  simp only [Tryd.ntmps46, List.size_toArray, List.length_cons, List.length_nil, Nat.reduceAdd, Nat.reduceSub, Array.replicate_succ, Array.replicate_zero, List.push_toArray, List.append_toArray, List.nil_append, List.cons_append]
  obtain ⟨sb, hsb⟩ : ∃ sb, sb = w.heap.size := ⟨_, rfl⟩
  obtain ⟨W0, hW0⟩ : ∃ W0, W0 = w.alloc (.cells #[.int .i64 a, .int .i64 b] 56) := ⟨_, rfl⟩
  gi_wp2
  rw [← hW0]
  gi_loopw [5] (fun i wr => wr = W0 ∧ ∃ d : Nat, 1 ≤ d ∧ d ≤ c ∧ i = .int .i64 (d : Int)) (fun i _ => c - (intOf i).toNat)
  case atStart => exact ⟨rfl, 1, by omega, by omega, rfl⟩
  case round =>
    obtain ⟨rfl, d, hd1, hd2, rfl⟩ := hrel
    have hw1 : wrap64 ((d : Int) * (d : Int)) = ((d * d : Nat) : Int) := cols_ar (by omega)
    have hw2 : wrap64 ((d : Int) + 1) = ((d + 1 : Nat) : Int) := cols_ar2 (by omega)
    by_cases hdc : d < c
    · have hlt : d * d < n := hc3.out d hd1 hdc
      obtain ⟨dd, hdd⟩ : ∃ dd, dd = d * d := ⟨_, rfl⟩
      rw [← hdd] at hw1 hlt
      gi_wp2
      exact ⟨⟨hW0.symm, d + 1, by omega, by omega, by simp⟩, by simp [intOf]; omega⟩
    · obtain rfl : d = c := by omega
      have hge : ¬ (((d * d : Nat) : Int) < (n : Int)) := by have := hc2.out; omega
      obtain ⟨dd, hdd⟩ : ∃ dd, dd = d * d := ⟨_, rfl⟩
      rw [← hdd] at hw1 hge
      gi_wp2
      refine ⟨trivial, ((callsIn_wide (n := 4)).2 ((callsIn_wide (n := 5)).1 (chunk_any B n cap d _ hc1))).mono ?_⟩
      rintro e w' ⟨rfl, rfl⟩
      gi_wp2
      obtain ⟨g1, k0, k1, k2, k3, ksz⟩ := four_new w (.cells #[.int .i64 a, .int .i64 b] 56) (.cells #[.slice none 0 0] 53) (.cells #[.slice (some ⟨B, 0, none⟩) n cap] 53) (.cells #[.int .i64 (d : Int)] 3)
      obtain ⟨W1, hW1⟩ : ∃ W1, W1 = (((w.alloc (.cells #[.int .i64 a, .int .i64 b] 56)).alloc (.cells #[.slice none 0 0] 53)).alloc (.cells #[.slice (some ⟨B, 0, none⟩) n cap] 53)).alloc (.cells #[.int .i64 (d : Int)] 3) := ⟨_, rfl⟩
      rw [← hW1] at g1 k0 k1 k2 k3 ksz
      rw [← hW1]
      obtain ⟨rb, hrb⟩ : ∃ rb, rb = w.heap.size + 1 := ⟨_, rfl⟩
      obtain ⟨sB, hsB⟩ : ∃ sB, sB = w.heap.size + 1 + 1 := ⟨_, rfl⟩
      obtain ⟨nB, hnB⟩ : ∃ nB, nB = w.heap.size + 1 + 1 + 1 := ⟨_, rfl⟩
      rw [← hnB] at k3
      rw [← hsB] at k2
      rw [← hrb] at k1
      rw [← hsb] at k0
      rw [← hnB, ← hsB, ← hrb, ← hsb]
      have hbase : w.heap.size ≤ W1.heap.size := by omega
      have hI0 : TI G w B n d ls q a b rb sb sB nB (.slice (some ⟨B, 0, none⟩) n cap) (.int .i64 (d : Int)) [] W1 := by
        refine ⟨Off.of_grown E.out.m g1, fun k hk => ?_, k0, k2, k3, [], rfl, ⟨⟨none, 0, k1, World.ownsRow_nil _ _ _ _, by intro e; cases e⟩, by omega⟩, by intro i x t h; simp at h, by unfold heads; simp⟩
        obtain ⟨up, hT⟩ := E.out.K k hk
        exact ⟨up, hT.grown g1⟩
      clear hW1
      have hl1 : sB < W1.heap.size := by omega
      have hl2 : nB < W1.heap.size := by omega
      have hbs : sb ≠ rb ∧ sB ≠ rb ∧ nB ≠ rb ∧ w.heap.size ≤ rb ∧ w.heap.size ≤ sb ∧ w.heap.size ≤ sB ∧ w.heap.size ≤ nB := by omega
      replace hsb := Lib.hid hsb; replace hrb := Lib.hid hrb; replace hsB := Lib.hid hsB; replace hnB := Lib.hid hnB; replace ksz := Lib.hid ksz; replace hW0 := Lib.hid hW0; replace hbs := Lib.hid hbs
      refine wpIn_rangeFunc_ownG rfl h5 (gf := 80) (lb := #[.pointer (some ⟨sB, 0, none⟩), .pointer (some ⟨nB, 0, none⟩)]) rfl trivial (enters_of Tryd.func80 (by kernel_rfl) rfl)
        (chunk_stops sB nB B n cap d hEc ⟨hcap, hEn.2, hEn.1⟩ W1 hl1 hl2 k2 k3 4 (by omega)) chK_t (chK_b hl1 hl2) (Below.refl _ _) (fun _ => rfl)
        (TI G w B n d ls q a b rb sb sB nB (.slice (some ⟨B, 0, none⟩) n cap) (.int .i64 (d : Int))) (fun _ _ _ => False) (TI.own _ hbase) (fun _ _ _ _ _ hs _ _ => hs) hI0
        (fun x => { tmps := #[.agg #[.int .i64 a, .int .i64 b], .slice (some ⟨B, 0, none⟩) n cap, .pointer (some ⟨sb, 0, none⟩), undef, .pointer none, .int .i64 (d : Int), .pointer (some ⟨rb, 0, none⟩), pcV B n d x.1, .int .i64 (d : Int), .int .i64 (d : Int), .int .i64 ((d : Int) * d), .slice (some ⟨B, 0, none⟩) n cap, .int .i64 n, .bool (decide ((d : Int) * d < n)), u14, u15, .slice (some ⟨B, 0, none⟩) n cap, .int .i64 (d : Int),
          .func (.func 80) #[] #[.pointer (some ⟨sB, 0, none⟩), .pointer (some ⟨nB, 0, none⟩)], pcV B n d x.1, undef, undef, undef, undef, undef, undef, undef, undef, undef, undef, undef, undef, undef, undef, undef, undef, undef, undef], defers := [] }) ?assign ?body ?done ?stop
      case assign =>
        intro l x W K hK
        unfold pcV at *
        gi_wp2
        exact hK
      case body =>
        rintro l pre x W hI hpre
        have hx0 : x.1 * d < n := x.2
        have hpl1 := plen_pos hEc.1 hx0
        obtain ⟨xv, hxv⟩ := x
        dsimp only at hx0 hpl1 ⊢
        obtain ⟨ts, r1, hJ, r3, r4⟩ := hI.r
        obtain ⟨⟨A, cc, jh, jO, jne⟩, jB⟩ := hJ
        have hTn : ts.length ≤ 1000 := by
          have : pnum n d ≤ n := by
            rcases Nat.lt_or_ge n (pnum n d) with h1 | h1
            · have h2 := (pnum_iff (c := d) hEc.1).1 h1
              have h3 := Nat.mul_le_mul_left n hEc.1
              omega
            · exact h1
          omega
        obtain ⟨t0, ht0, hc0⟩ := hcell.out W hI.o xv hx0
        have hpn : (ptrs ts).length = ts.length := ptrs_len _
        rw [hpn] at jh jO
        obtain ⟨nt, hnt⟩ : ∃ nt, nt = ts.length := ⟨_, rfl⟩
        rw [← hnt] at jh jO hTn
        have cr : W.cell? ⟨rb, 0, none⟩ = some (.slice A nt cc) := by rw [cell_of_heap jh]; rfl
        have z0 : W.cell? ⟨sb, 0, none⟩ = some (.int .i64 a) := by rw [cell_of_heap hI.sz]; rfl
        have z1 : W.cell? ⟨sb, 1, none⟩ = some (.int .i64 b) := by rw [cell_of_heap hI.sz]; rfl
        unfold pcV
        obtain ⟨pl, hpl⟩ : ∃ pl, pl = plen n d xv := ⟨_, rfl⟩
        obtain ⟨xo, hxo⟩ : ∃ xo, xo = xv * d := ⟨_, rfl⟩
        rw [← hxo] at hc0
        rw [← hpl] at hpl1
        rw [← hpl, ← hxo]
        replace hpl := Lib.hid hpl; replace hxo := Lib.hid hxo; replace hI := Lib.hid hI; replace jh := Lib.hid jh; replace jO := Lib.hid jO; replace jne := Lib.hid jne; replace jB := Lib.hid jB; replace r1 := Lib.hid r1; replace r3 := Lib.hid r3; replace r4 := Lib.hid r4; replace ht0 := Lib.hid ht0; replace hnt := Lib.hid hnt; replace hpn := Lib.hid hpn; replace hx0 := Lib.hid hx0; replace hI0 := Lib.hid hI0; replace k0 := Lib.hid k0; replace k1 := Lib.hid k1; replace k2 := Lib.hid k2; replace k3 := Lib.hid k3; replace g1 := Lib.hid g1
        unfold ptr at hc0
        by_cases hp1 : pl = 1
        · subst hp1
          gi_wp2
          have hO1 : (W.alloc (.cells #[.pointer (some ⟨t0.g, 0, none⟩)] 55)).drew.ownsRow w.heap.size 55 1 (.slice A nt cc) nt (ptrs ts) := jO.out.alloc _
          have hRd := Lib.hid (Rd_new W (.pointer (some ⟨t0.g, 0, none⟩)))
          have hlr := lt_of_heap jh.out
          have hlB := lt_of_cell hc0
          have hwW := hI.out.o.size
          have hAP := fun A2 c2 w2 O2 G2 hh2 => J_app2 (A2 := A2) (c2 := c2) (w2 := w2) (v := .pointer (some ⟨t0.g, 0, none⟩)) (hpn.out.trans hnt.out.symm) jh.out jO.out jne.out jB.out O2 G2 hh2
          have hcA : (W.alloc (.cells #[.pointer (some ⟨t0.g, 0, none⟩)] 55)).drew.cell? ⟨rb, 0, none⟩ = some (.slice A nt cc) ∧ (W.alloc (.cells #[.pointer (some ⟨t0.g, 0, none⟩)] 55)).drew.cell? ⟨B, xo, none⟩ = some (.pointer (some ⟨t0.g, 0, none⟩)) := ⟨(World.cell?_alloc_past _ _ _ hlr).trans cr, (World.cell?_alloc_past _ _ _ hlB).trans hc0⟩
          replace hO1 := Lib.hid hO1; replace hAP := Lib.hid hAP; replace hcA := Lib.hid hcA
          refine wpIn_region_row (S := fun w' => w'.cell? ⟨rb, 0, none⟩ = some (.slice A nt cc) ∧ w'.cell? ⟨B, xo, none⟩ = some (.pointer (some ⟨t0.g, 0, none⟩))) 4 5 (by kernel_rfl) (by kernel_rfl) (by kernel_rfl) (by rintro ⟨_, _, h⟩; exact h) (fun _ _ d _ _ h => h) ⟨cr, hc0⟩ ?_
          simp only [List.take_succ_cons, List.take_zero, List.drop_succ_cons, List.drop_zero]
          repeat
            (apply wpHeld_cons (by rfl)
             · intro w hSw
               go_simp
               try with_reducible rfl
             simp only [Act.put, List.setIfInBounds_toArray, List.set_cons_zero, List.set_cons_succ])
          refine wpHeld_nil ?_
          refine wpRow_succ (k := 0) (fun K hK => ?_)
          go_simp
          refine hK.out _ _ hcA.out ?_
          clear hK K
          try simp only [Act.put, List.setIfInBounds_toArray, List.set_cons_zero, List.set_cons_succ]
          refine wpRow_zero ?_
          go_wp2_with (first
            | (at_builtin; refine ap53 rfl (.tmp 23) (.tmp 27) rfl w.heap.size (.slice A nt cc) nt (ptrs ts) rfl hO1.out (some ⟨W.heap.size, 0, none⟩) 1 1 _ rfl rfl hRd.out (by intro u hu; simp at hu; subst hu; rfl) (by omega) (by simp; omega) ?_; intro A2 c2 w2 O2 G2 hh2
               obtain ⟨p1, p2, p3⟩ := hAP.out A2 c2 w2 O2 ⟨G2.os, G2.tape, G2.output, G2.size, G2.block⟩ hh2
               replace p3 := Lib.hid p3
               clear O2 G2 hh2)
            | fail)
          obtain ⟨m1, m2, m3, m4⟩ := p3.out
          refine TI.leaf E.out hI.out (r1.out) r3.out r4.out m2 m3 m4 ⟨hbs.out.1, hbs.out.2.1, hbs.out.2.2.1⟩ ⟨_, jh.out⟩ (t := t0) m1 (.inl ⟨hpl.out.symm, ht0.out⟩) (fun s hs => ?_)
          rw [heads_one, if_pos (E.out.lf t0 (List.mem_of_getElem? ht0.out))] at hs
          cases hs
        · have hne : ¬ ((pl : Int) = 1) := by omega
          have hα := E.out.α xv hx0.out
          have hRp := (E.out.R xv hx0.out).off hI.out.o (fun b' hb' hm => by
            injection hb' with hb'
            obtain ⟨k, hk, e⟩ := List.mem_map.1 hm
            exact E.out.qn hx0.out (by rw [hb', ← e]; exact g_in hk))
          have hKp : ∀ k ∈ piece ls d xv, ∃ up, TP G W.drew up k := fun k hk => by
            obtain ⟨up, hT⟩ := hI.out.K k (piece_mem hk)
            exact ⟨up, CK.drew.tp hT⟩
          have hndp : (q xv :: blL (piece ls d xv)).Nodup := List.nodup_cons.2 ⟨fun h => E.out.qn hx0.out (piece_bl _ h), piece_nodup (List.nodup_append.1 E.out.nd).2.1⟩
          rw [← hxo.out] at hα
          rw [← hpl.out] at hRp
          have hplc : pl ≤ 1000 := by rw [hpl.out]; exact Nat.le_trans (Nat.min_le_left _ _) hEc.2
          have CS := split_any 0 a b (q xv) B xo pl pl (piece ls d xv) W.drew (hRp.same (Nat.le_refl _) fun b _ => Kp.of_heap (fun _ _ => rfl) b) hα (by rw [hpl.out]; exact (piece_len E.out.hn).symm) (by omega) hKp hndp hI.out.o.m'
          replace hα := Lib.hid hα; replace hRp := Lib.hid hRp; replace hKp := Lib.hid hKp; replace hndp := Lib.hid hndp; replace CS := Lib.hid CS
          gi_wp2
          refine wpIn_region_row (S := fun w' => w'.cell? ⟨rb, 0, none⟩ = some (.slice A nt cc) ∧ w'.cell? ⟨sb, 0, none⟩ = some (.int .i64 a) ∧ w'.cell? ⟨sb, 1, none⟩ = some (.int .i64 b)) 3 5 (by kernel_rfl) (by kernel_rfl) (by kernel_rfl) (by rintro ⟨_, _, h⟩; exact h) (fun _ _ d _ _ h => h) ⟨cr, z0, z1⟩ ?_
          simp only [List.take_succ_cons, List.take_zero, List.drop_succ_cons, List.drop_zero]
          repeat
            (apply wpHeld_cons (by rfl)
             · intro w hSw
               go_simp
               try with_reducible rfl
             simp only [Act.put, List.setIfInBounds_toArray, List.set_cons_zero, List.set_cons_succ])
          refine wpHeld_nil ?_
          refine wpRow_succ (k := 1) (fun K hK => ?_)
          go_simp
          go_at_call 32
          refine CS.out.mono ?_
          rintro e w3 ⟨s, hs, rfl, hT3, o3⟩
          have hnd3 := TI.node (B1 := W1.heap.size) (x := ⟨xv, hx0.out⟩) hbase E.out hI.out r1.out r3.out r4.out (by rw [← hpl.out]; exact hp1) hs (by rw [hpl.out] at hT3; exact hT3) o3.undrew hbs.out ⟨_, jh.out⟩
          obtain ⟨hkp, hfin⟩ := hnd3
          have jh3 := hkp _ _ hbs.out.2.2.2.1 jh.out
          have jO3 := own_same jO.out (fun b' hb' => by
            have hlt := jO.out.lt b' hb'
            rw [hkp b' _ hlt.1 (Array.getElem?_eq_getElem hlt.2), Array.getElem?_eq_getElem hlt.2])
          have cr3 : w3.cell? ⟨rb, 0, none⟩ = some (.slice A nt cc) := by rw [cell_of_heap jh3]; rfl
          have hz3 := hkp _ _ hbs.out.2.2.2.2.1 hI.out.sz
          have z03 : w3.cell? ⟨sb, 0, none⟩ = some (.int .i64 a) := by rw [cell_of_heap hz3]; rfl
          have z13 : w3.cell? ⟨sb, 1, none⟩ = some (.int .i64 b) := by rw [cell_of_heap hz3]; rfl
          have hO1 : (w3.alloc (.cells #[.pointer (some ⟨s, 0, none⟩)] 55)).ownsRow w.heap.size 55 1 (.slice A nt cc) nt (ptrs ts) := jO3.alloc _
          have hRd := Lib.hid (Rd_new0 w3 (.pointer (some ⟨s, 0, none⟩)))
          have hlr := lt_of_heap jh3
          have hlz := lt_of_heap hz3
          have hAP := fun A2 c2 w2 O2 G2 hh2 => J_app2 (A2 := A2) (c2 := c2) (w2 := w2) (v := .pointer (some ⟨s, 0, none⟩)) (hpn.out.trans hnt.out.symm) jh3 jO3 jne.out jB.out O2 G2 hh2
          have hcA : (w3.alloc (.cells #[.pointer (some ⟨s, 0, none⟩)] 55)).cell? ⟨rb, 0, none⟩ = some (.slice A nt cc) ∧ (w3.alloc (.cells #[.pointer (some ⟨s, 0, none⟩)] 55)).cell? ⟨sb, 0, none⟩ = some (.int .i64 a) ∧ (w3.alloc (.cells #[.pointer (some ⟨s, 0, none⟩)] 55)).cell? ⟨sb, 1, none⟩ = some (.int .i64 b) := ⟨(World.cell?_alloc_past _ _ _ hlr).trans cr3, (World.cell?_alloc_past _ _ _ hlz).trans z03, (World.cell?_alloc_past _ _ _ hlz).trans z13⟩
          have hw3 : w.heap.size ≤ w3.heap.size := Nat.le_trans hI.out.o.size o3.size
          replace hO1 := Lib.hid hO1; replace hAP := Lib.hid hAP; replace hcA := Lib.hid hcA; replace hfin := Lib.hid hfin; replace hkp := Lib.hid hkp; replace jh3 := Lib.hid jh3; replace jO3 := Lib.hid jO3; replace hT3 := Lib.hid hT3; replace o3 := Lib.hid o3; replace hz3 := Lib.hid hz3
          refine hK.out _ _ ⟨cr3, z03, z13⟩ ?_
          clear hK K
          try simp only [Act.put, List.setIfInBounds_toArray, List.set_cons_zero, List.set_cons_succ]
          unfold ptr
          refine wpRow_succ (k := 0) (fun K hK => ?_)
          go_simp
          refine hK.out _ _ hcA.out ?_
          clear hK K
          try simp only [Act.put, List.setIfInBounds_toArray, List.set_cons_zero, List.set_cons_succ]
          refine wpRow_zero ?_
          go_wp2_with (first
            | (at_builtin; refine ap53 rfl (.tmp 29) (.tmp 33) rfl w.heap.size (.slice A nt cc) nt (ptrs ts) rfl hO1.out (some ⟨w3.heap.size, 0, none⟩) 1 1 _ rfl rfl hRd.out (by intro u hu; simp at hu; subst hu; rfl) (by omega) (by simp; omega) ?_; intro A2 c2 w2 O2 G2 hh2
               obtain ⟨p1, p2, p3⟩ := hAP.out A2 c2 w2 O2 G2 hh2
               replace p3 := Lib.hid p3
               clear O2 G2 hh2)
            | fail)
          obtain ⟨m1, m2, m3, m4⟩ := p3.out
          exact hfin.out _ m2 m3 m4 m1
      case done =>
        rintro D ys W hD rfl hI hK
        obtain ⟨g, cc, ts, hh, hl, hR, hα, hN1, hN2, hcc, hLT, hnd, hE1, her, hsub⟩ := hI.done E.out hF.out hbs.out.2.2.2.1
        have CE := even_row (.inr rfl) a b g g 0 cc (pnum n d) ts W hR hα hl ⟨hN1, hN2⟩ hcc hLT hnd hI.m hE1 ha.out hb.out
        have hDm : G.m ≤ D := Nat.le_trans E.out.m (Nat.le_trans hbase hD)
        have hDn : D ∉ g :: blL ts := fun hm => by
          have : ∃ c e, W.heap[D]? = some (Obj.cells c e (0, 0)) := by
            rcases List.mem_cons.1 hm with rfl | hm
            · rcases hR.2 with ⟨h1, _⟩ | ⟨b', cur, h1, _, _, h4, _⟩
              · cases h1
              · injection h1 with h1; subst h1
                have := h4.h
                rw [G.fa _ hDm] at this
                exact ⟨_, _, this⟩
            · obtain ⟨t, ht, hm⟩ := mem_blL.1 hm
              exact (hLT t ht).cells _ _ hm hDm
          obtain ⟨c', e', hc'⟩ := this
          rw [hK] at hc'; cases hc'
        obtain ⟨N, hN⟩ : ∃ N, N = pnum n d := ⟨_, rfl⟩
        rw [← hN] at hh CE
        have cr : W.cell? ⟨rb, 0, none⟩ = some (.slice (some ⟨g, 0, none⟩) N cc) := by rw [cell_of_heap hh]; rfl
        have z0 : W.cell? ⟨sb, 0, none⟩ = some (.int .i64 a) := by rw [cell_of_heap hI.sz]; rfl
        have z1 : W.cell? ⟨sb, 1, none⟩ = some (.int .i64 b) := by rw [cell_of_heap hI.sz]; rfl
        replace CE := Lib.hid CE; replace hI := Lib.hid hI; replace hh := Lib.hid hh; replace hR := Lib.hid hR; replace hα := Lib.hid hα; replace hl := Lib.hid hl; replace hLT := Lib.hid hLT; replace hnd := Lib.hid hnd; replace hE1 := Lib.hid hE1; replace her := Lib.hid her; replace hsub := Lib.hid hsub; replace hDn := Lib.hid hDn; replace hN := Lib.hid hN; replace hI0 := Lib.hid hI0; replace k0 := Lib.hid k0; replace k1 := Lib.hid k1; replace k2 := Lib.hid k2; replace k3 := Lib.hid k3; replace g1 := Lib.hid g1; replace hK := Lib.hid hK
        gi_wp2
        refine ⟨trivial, ((callsIn_wide (n := 4)).2 CE.out).mono ?_⟩
        rintro e W4 ⟨t', up, rfl, hT4, he4, o4, nd4, hb4⟩
        have hK4 : W4.heap[D]? = some (.deferred (some [])) := (o4.wh (G.fresh hDm) (lt_of_heap hK.out) hDn.out).trans hK.out
        replace hT4 := Lib.hid hT4; replace he4 := Lib.hid he4; replace o4 := Lib.hid o4; replace nd4 := Lib.hid nd4; replace hb4 := Lib.hid hb4; replace hK4 := Lib.hid hK4
        unfold ptr
        gi_wp2
        refine ⟨by simp, .inl ⟨_, _, rfl, run_takeDeferred hK4.out, ?_⟩⟩
        refine ⟨_, results_tmp rfl _ _ _, t', up, rfl, (CK.put _ hK4.out rfl).tp hT4.out, by rw [he4.out, her.out], ?_, nd4.out, fun x hx => ?_⟩
        · refine Off.put ((hI.out.o.sub (S' := (List.range (pnum n d)).map q ++ blL ls) fun x hx => .inl ?_).trans o4.out hsub.out) (Nat.le_trans hbase hD) _
          obtain ⟨t, ht, e⟩ := List.mem_map.1 hx
          exact List.mem_append_right _ (by rw [← e]; exact g_in ht)
        · rcases hb4.out x hx with h | h
          · exact hsub.out x h
          · exact .inr (Nat.le_trans hI.out.o.size h)
      case stop =>
        rintro D c pre W _ _ h _
        exact h.elim
end Go.Proofs.YtcklmkjlbpjojaaDoor.X
