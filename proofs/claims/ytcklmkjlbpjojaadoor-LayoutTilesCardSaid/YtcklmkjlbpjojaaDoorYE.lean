/- Layout: Preset's second callback. Layout: Preset's builders, of the copied leaves. Layout: Preset's builders, walked. Layout: Preset's builders: chief and tiled, of the copied leaves. Layout: the frames that Preset lays, plain. -/
import Derived.Test.YtcklmkjlbpjojaaDoorXZ
import Derived.Test.YtcklmkjlbpjojaaDoorH1
namespace Go.Proofs.YtcklmkjlbpjojaaDoor.X
open Go.RowKit
set_option linter.unusedSimpArgs false
set_option linter.unusedVariables false
variable {G : Gh}

/-- The leaf has a place at least. -/
def fitsB (s : T) : Bool := decide (1 ≤ min s.n.a s.n.b)
/-- Whether all of xs fit, in block h. -/
structure FtI (B h : Nat) (xs : List T) (w : World) : Prop where
  hh : w.heap[h]? = some (.cells #[.bool (xs.all fitsB)] 4 (0, 0))
  hB : B ≤ h

set_option maxHeartbeats 1000000 in
set_option maxRecDepth 100000 in
theorem fits_any (G : Gh) (h B N : Nat) (w0 : World) (hBe : B = w0.heap.size) (xs : List T) (s : T) (w : World) (hI : FtI B h xs w) (hBw : Below B w0 w) (hs : ∃ up, TP G w0 up s) (hsk : s.ks = []) (hx : xs.length < N) :
    Calls Tryd.prog 47 #[ptr s.g, ptr h] w fun e w' => e = .returned (.tuple #[]) ∧ FtI B h (xs ++ [s]) w' ∧ Below B w w' := by
  obtain ⟨up, hT⟩ := hs
  have hgl : s.g < w0.heap.size := hT.lt _ _ _ s.g_mem
  have x3 : w.cell? ⟨s.g, 3, none⟩ = some (.int .i64 s.n.a) := (hBw.cell (p := ⟨s.g, 3, none⟩) (by show s.g < B; omega)).trans hT.atn.c3
  have x4 : w.cell? ⟨s.g, 4, none⟩ = some (.int .i64 s.n.b) := (hBw.cell (p := ⟨s.g, 4, none⟩) (by show s.g < B; omega)).trans hT.atn.c4
  obtain ⟨hh, hB⟩ := hI
  have hb := hBw.size
  have hlh := lt_of_heap hh
  have ch : w.cell? ⟨h, 0, none⟩ = some (.bool (xs.all fitsB)) := by rw [cell_of_heap hh]; rfl
  have cf := free_of_heap hh 0
  have hall : (xs ++ [s]).all fitsB = (xs.all fitsB && fitsB s) := by rw [List.all_append]; simp
  have hset : ∀ v, (w.drew.setCell ⟨h, 0, none⟩ v).heap[h]? = some (.cells #[v] 4 (0, 0)) := fun v => heap_set (w := w.drew) hh v
  have hbel : ∀ v, Below B w (w.drew.setCell ⟨h, 0, none⟩ v) := fun v => (Below.refl B w).drew.setCell (p := ⟨h, 0, none⟩) hB v
  obtain ⟨f, hf⟩ : ∃ f, f = xs.all fitsB := ⟨_, rfl⟩
  rw [← hf] at ch hall
  obtain ⟨a, ha⟩ : ∃ a, a = s.n.a := ⟨_, rfl⟩
  obtain ⟨b, hb2⟩ : ∃ b, b = s.n.b := ⟨_, rfl⟩
  have hfs : fitsB s = decide (1 ≤ min a b) := by rw [ha, hb2]; rfl
  rw [← ha] at x3
  rw [← hb2] at x4
  replace hh := Lib.hid hh; replace hT := Lib.hid hT; replace hBw := Lib.hid hBw; replace hall := Lib.hid hall; replace hset := Lib.hid hset; replace hbel := Lib.hid hbel; replace hf := Lib.hid hf; replace ha := Lib.hid ha; replace hb2 := Lib.hid hb2; replace hfs := Lib.hid hfs; replace hsk := Lib.hid hsk
  unfold ptr at *
  cases f with
  | true =>
    go_enter Tryd.func47, Tryd.ntmps47
    go_region
    go_end0
    exact ⟨rfl, ⟨by rw [hall.out, Bool.true_and, hfs.out]; exact hset.out _, hB⟩, hbel.out _⟩
  | false =>
    go_enter Tryd.func47, Tryd.ntmps47
    go_region
    go_end0
    exact ⟨rfl, ⟨by rw [hall.out]; exact hset.out _, hB⟩, hbel.out _⟩
end Go.Proofs.YtcklmkjlbpjojaaDoor.X
namespace Go.Proofs.YtcklmkjlbpjojaaDoor.X
open Go.RowKit
set_option linter.unusedSimpArgs false
set_option linter.unusedVariables false
variable {G : Gh}

/-- The copied leaves. -/
def newL : List Nat → List T → List T
  | g :: gs, s :: xs => .mk ⟨g, none, 0, s.n.p, 0, 0, 0, 0, 0⟩ [] :: newL gs xs
  | _, _ => []
theorem newL_len : ∀ (gs : List Nat) (xs : List T), gs.length = xs.length → (newL gs xs).length = xs.length
  | [], [], _ => rfl
  | [], x :: xs, h => by simp at h
  | g :: gs, [], h => by simp at h
  | g :: gs, s :: xs, h => by simp only [newL, List.length_cons]; rw [newL_len gs xs (by simpa using h)]
theorem newL_ptrs : ∀ (gs : List Nat) (xs : List T), gs.length = xs.length → ptrs (newL gs xs) = gs.map ptr
  | [], [], _ => rfl
  | [], x :: xs, h => by simp at h
  | g :: gs, [], h => by simp at h
  | g :: gs, s :: xs, h => by
    have := newL_ptrs gs xs (by simpa using h)
    unfold ptrs at this ⊢
    simp only [newL, List.map_cons]
    rw [this]; rfl
theorem newL_bl : ∀ (gs : List Nat) (xs : List T), gs.length = xs.length → blL (newL gs xs) = gs
  | [], [], _ => by rw [newL, blL_nil]; simp
  | [], x :: xs, h => by simp at h
  | g :: gs, [], h => by simp at h
  | g :: gs, s :: xs, h => by
    rw [newL, blL_cons, newL_bl gs xs (by simpa using h), T.bl_mk, blL_nil]; rfl
def fresh (s : T) : E := .mk s.n.p 0 0 0 []
theorem newL_er : ∀ (gs : List Nat) (xs : List T), gs.length = xs.length → erL (newL gs xs) = xs.map fresh
  | [], [], _ => by rw [newL, erL_nil]; simp; simp
  | [], x :: xs, h => by simp at h
  | g :: gs, [], h => by simp at h
  | g :: gs, s :: xs, h => by
    rw [newL, erL_cons, newL_er gs xs (by simpa using h), T.er_mk, erL_nil]; rfl
theorem newL_mem : ∀ {gs : List Nat} {xs : List T} {k : T}, k ∈ newL gs xs → ∃ (i g : Nat) (s : T), gs[i]? = some g ∧ xs[i]? = some s ∧ k = .mk ⟨g, none, 0, s.n.p, 0, 0, 0, 0, 0⟩ []
  | [], _, k, h => by simp [newL] at h
  | g :: gs, [], k, h => by simp [newL] at h
  | g :: gs, s :: xs, k, h => by
    rw [newL] at h
    rcases List.mem_cons.1 h with rfl | h
    · exact ⟨0, g, s, rfl, rfl, rfl⟩
    · obtain ⟨i, g', s', h1, h2, h3⟩ := newL_mem h
      exact ⟨i + 1, g', s', by simpa using h1, by simpa using h2, h3⟩
theorem newL_tp {gs : List Nat} {xs : List T} {w : World} (hl : ∀ (i g : Nat) (s : T), gs[i]? = some g → xs[i]? = some s → w.heap[g]? = some (leafO s.n.p)) (hw : ∀ g ∈ gs, G.wh g) (hm : G.m ≤ w.heap.size) : ∀ k ∈ newL gs xs, TP G w none k := fun k hk => by
  obtain ⟨i, g, s, h1, h2, rfl⟩ := newL_mem hk
  exact .mk ⟨hl i g s h1 h2, hw g (List.mem_of_getElem? h1), ⟨rfl, .inl ⟨rfl, rfl, rfl⟩⟩, hm⟩ (by rw [TPs]; trivial)
theorem newL_frm {gs : List Nat} {xs : List T} (hp : ∀ s ∈ xs, 1 ≤ s.n.p ∧ s.n.p ≤ 999) : ∀ k ∈ newL gs xs, Frm k.er ∧ Sm k ∧ k.ks = [] := fun k hk => by
  obtain ⟨i, g, s, h1, h2, rfl⟩ := newL_mem hk
  refine ⟨?_, .mk (by simp) (by simp), rfl⟩
  rw [T.er_mk, erL_nil]
  exact .leaf (hp s (List.mem_of_getElem? h2))
/-- How Preset may lay the panes. -/
inductive Plan where
  | even (way : Int) (h : way = 0 ∨ way = 1)
  | chief (way : Int) (h : way = 0 ∨ way = 1)
  | tiled
/-- The frame of es by a plan. -/
def Plan.E (n c : Nat) (a b : Int) (es : List E) : Plan → E
  | .even way _ => rowE way a b es
  | .chief way _ => chiefE way a b es
  | .tiled => rowE 1 a b (tiledEs n c a b es)
/-- A tree has been built, behind base. -/
def Built (base : Nat) (w : World) (e' : E) (e : Ending) (w' : World) : Prop :=
  ∃ (G : Gh) (t' : T) (up : Option Nat), (base ≤ G.lo ∧ ∀ k, k < base → G.wh k) ∧ e = .returned (ptr t'.g) ∧ TP G w' up t' ∧ t'.er = e' ∧ Below base w w' ∧ t'.bl.Nodup ∧ ∀ x ∈ t'.bl, base ≤ x
theorem EvenP.built {base : Nat} {w w' : World} {S : List Nat} {e' : E} {e : Ending} (h : EvenP G w S e' e w') (hl : base ≤ G.lo) (hα : ∀ k, k < base → G.α k = (k, 0)) (hS : ∀ x ∈ S, base ≤ x) (hb : base ≤ w.heap.size) : Built base w e' e w' := by
  obtain ⟨t', up, h1, h2, h3, h4, h5, h6⟩ := h
  exact ⟨G, t', up, ⟨hl, fun k hk => ⟨fun o => G.below (Nat.lt_of_lt_of_le hk hl) o, hα k hk⟩⟩, h1, h2, h3, h4.below hS hb hl, h5, fun x hx => (h6 x hx).elim (hS x) fun h => Nat.le_trans hb h⟩
/-- chief's ghost: the first cell is the block's own, the others are q's. -/
def ghC (B q m lo : Nat) (hB : B < m) (hq : q < m) (hB2 : lo ≤ B) (hq2 : lo ≤ q) : Gh where
  κ k o := if k = B ∧ o ≠ 0 then q else k
  α k := if k = q then (B, 1) else (k, 0)
  m := m
  lo := lo
  ok k o := by
    by_cases h : k = B ∧ o ≠ 0
    · right; simp only [h, and_self, if_true, ne_eq, not_false_eq_true]; omega
    · left; simp only [h, if_false]
  ol k o := by
    by_cases h : k = B ∧ o ≠ 0
    · right; simp only [h, and_self, if_true, ne_eq, not_false_eq_true]; omega
    · left; simp only [h, if_false]
  fa k h := by rw [if_neg (by omega)]
/-- tiled's ghost: the pieces' cells are the q's. -/
def ghT (B n c m lo : Nat) (qs : List Nat) (hB : B < m) (hq : ∀ q ∈ qs, q < m ∧ lo ≤ q) (hB2 : lo ≤ B) : Gh where
  κ k o := if k = B then (if o < n then (qs[o / c]?).getD B else B) else k
  α k := if k ∈ qs then (B, qs.idxOf k * c) else (k, 0)
  m := m
  lo := lo
  ok k o := by
    by_cases h : k = B
    · subst h
      simp only [if_true]
      split
      · cases hz : qs[o / c]? with
        | none => left; rfl
        | some q => right; exact ⟨(hq q (List.mem_of_getElem? hz)).1, hB⟩
      · left; rfl
    · left; rw [if_neg h]
  ol k o := by
    by_cases h : k = B
    · subst h
      simp only [if_true]
      split
      · cases hz : qs[o / c]? with
        | none => left; rfl
        | some q => right; exact ⟨(hq q (List.mem_of_getElem? hz)).2, hB2⟩
      · left; rfl
    · left; rw [if_neg h]
  fa k h := by
    rw [if_neg]
    intro hk
    have := (hq k hk).1; omega
theorem cols_ex (n : Nat) (hn : 1 ≤ n) : ∃ c, Cols n c ∧ c ≤ n := by
  have key : ∀ k c0, 1 ≤ c0 → c0 ≤ n → (∀ d, 1 ≤ d → d < c0 → d * d < n) → n ≤ c0 + k → ∃ c, Cols n c ∧ c ≤ n := by
    intro k
    induction k with
    | zero =>
      intro c0 h1 h2 h3 h4
      have : c0 = n := by omega
      subst this
      exact ⟨c0, ⟨h1, Nat.le_mul_of_pos_left _ h1, h3⟩, Nat.le_refl _⟩
    | succ k ih =>
      intro c0 h1 h2 h3 h4
      by_cases h : n ≤ c0 * c0
      · exact ⟨c0, ⟨h1, h, h3⟩, h2⟩
      · have h5 : c0 * c0 < n := by omega
        have h6 : c0 ≤ c0 * c0 := Nat.le_mul_of_pos_left _ h1
        refine ih (c0 + 1) (by omega) (by omega) (fun d hd1 hd2 => ?_) (by omega)
        rcases Nat.lt_or_ge d c0 with h7 | h7
        · exact h3 d hd1 h7
        · have : d = c0 := by omega
          rw [this]; exact h5
  exact key n 1 (by omega) hn (fun d h1 h2 => by omega) (by omega)
end Go.Proofs.YtcklmkjlbpjojaaDoor.X
namespace Go.Proofs.YtcklmkjlbpjojaaDoor.X
open Go.RowKit
set_option linter.unusedSimpArgs false
set_option linter.unusedVariables false
variable {G : Gh}

/-- The copied leaves lie in block B. -/
structure CpD (base B cap : Nat) (gs qs : List Nat) (xs : List T) (cur : Array Value) (w : World) : Prop where
  l1 : gs.length = xs.length
  l2 : qs.length = xs.length
  bB : base ≤ B
  hB : w.heap[B]? = some (.cells cur 55 (0, 0))
  nc : xs.length ≤ cap
  cm : cap ≤ 9223372036854775807
  sz : cur.size = cap
  tk : cur.toList.take xs.length = gs.map ptr
  lf : ∀ (i g : Nat) (s : T), gs[i]? = some g → xs[i]? = some s → w.heap[g]? = some (leafO s.n.p)
  nd : (B :: (gs ++ qs)).Nodup
  lt : ∀ x ∈ gs ++ qs, base ≤ x ∧ x < w.heap.size
theorem CpI.data {base h : Nat} {xs : List T} {w : World} (hI : CpI base h xs w) (hx : 1 ≤ xs.length) : ∃ B cap gs qs cur, w.heap[h]? = some (.cells #[.slice (some ⟨B, 0, none⟩) xs.length cap] 53 (0, 0)) ∧ CpD base B cap gs qs xs cur w := by
  obtain ⟨⟨gs, qs, A, c, e1, e2, hh, hO, hne, hl, hnd, hlt, hq⟩, hB⟩ := hI
  rcases hO.2 with ⟨e3, h0⟩ | ⟨B, cap, cur, e3, hgb, hgh, hc1, hc2, hc3, hc4⟩
  · omega
  · injection e3 with e3 _ e4
    subst e3; subst e4
    refine ⟨B, c, gs, qs, cur, hh, e1, e2, hgb, hgh, hc1, by unfold maxLen at hc2; omega, by omega, by simpa using hc4, hl, List.nodup_cons.2 ⟨fun hm => ?_, hnd⟩, hlt⟩
    rcases List.mem_append.1 hm with hm | hm
    · obtain ⟨i, hi⟩ := List.getElem?_of_mem hm
      obtain ⟨s, hs⟩ : ∃ s, xs[i]? = some s := ⟨xs[i]'(by have := (List.getElem?_eq_some_iff.1 hi).1; omega), List.getElem?_eq_getElem _⟩
      have := hl i B s hi hs
      rw [hgh] at this; injection this with this
      exact leafO_ne (by decide) this.symm
    · exact (hq B hm).1 rfl
section
variable {base B cap : Nat} {gs qs : List Nat} {xs : List T} {cur : Array Value} {w W : World}
theorem CpD.grown (D : CpD base B cap gs qs xs cur w) (g : w.grownBy W none) : CpD base B cap gs qs xs cur W :=
  ⟨D.l1, D.l2, D.bB, (g.block _ (lt_of_heap D.hB) (by simp)).trans D.hB, D.nc, D.cm, D.sz, D.tk, fun i g' s h1 h2 => (g.block _ (lt_of_heap (D.lf i g' s h1 h2)) (by simp)).trans (D.lf i g' s h1 h2), D.nd, fun x hx => ⟨(D.lt x hx).1, Nat.lt_of_lt_of_le (D.lt x hx).2 g.size⟩⟩
theorem CpD.base_le (D : CpD base B cap gs qs xs cur w) : base ≤ w.heap.size := by have := D.bB; have := lt_of_heap D.hB; omega
/-- The words from place o on. -/
theorem CpD.prow (D : CpD base B cap gs qs xs cur w) {o c k : Nat} (h1 : k ≤ c) (h2 : o + c ≤ cap) (h3 : o + k ≤ xs.length) : PRow w B o c k (ptrs (((newL gs xs).drop o).take k)) cur.toList := by
  refine ⟨by simpa using D.hB, h1, by have := D.cm; omega, by rw [Array.length_toList, D.sz]; exact h2, ?_⟩
  have e1 : ptrs (((newL gs xs).drop o).take k) = ((gs.map ptr).drop o).take k := by
    rw [← newL_ptrs gs xs D.l1]
    unfold ptrs
    rw [List.map_take, List.map_drop]
  rw [e1, ← D.tk, List.drop_take, List.take_take]
  congr 1
  omega
theorem newL_take {gs : List Nat} {xs : List T} (h : gs.length = xs.length) : ((newL gs xs).drop 0).take xs.length = newL gs xs := by
  rw [List.drop_zero]
  exact List.take_of_length_le (by rw [newL_len gs xs h]; exact Nat.le_refl _)

theorem build_even {way : Int} (hw : way = 0 ∨ way = 1) (a b : Int) (D : CpD base B cap gs qs xs cur w) (hn : 1 ≤ xs.length ∧ xs.length ≤ 1000) (hp : ∀ s ∈ xs, 1 ≤ s.n.p ∧ s.n.p ≤ 999) (ha : Bd a) (hb : Bd b) :
    Calls Tryd.prog 44 #[.int .i64 way, .agg #[.int .i64 a, .int .i64 b], .slice (some ⟨B, 0, none⟩) xs.length cap] w (Built base w (rowE way a b (xs.map fresh))) := by
  have hP := D.prow (o := 0) (c := cap) (k := xs.length) D.nc (by omega) (by omega)
  rw [newL_take D.l1] at hP
  have hlen := newL_len gs xs D.l1
  have hR : RowAt (gh0 base) w (some B) cap xs.length (ptrs (newL gs xs)) := ⟨by rw [ptrs_len, hlen], .inr ⟨B, cur.toList, rfl, lt_of_heap D.hB, ⟨0, rfl⟩, hP, fun _ _ => rfl⟩⟩
  have hfr := newL_frm (gs := gs) hp
  have htp := newL_tp (G := gh0 base) D.lf (fun g _ => gh0_wh base g) (by show 0 ≤ _; omega)
  have hnd := D.nd
  have hbl := newL_bl gs xs D.l1
  have := even_row (G := gh0 base) hw a b B B 0 cap xs.length (newL gs xs) w hR rfl hlen.symm hn D.cm (fun k hk => LT.of_tp _ _ (htp k hk)) (by
    rw [hbl]
    obtain ⟨n1, n2⟩ := List.nodup_cons.1 hnd
    exact List.nodup_cons.2 ⟨fun h => n1 (by simp [h]), (List.nodup_append.1 n2).1⟩) (by show 0 ≤ _; omega) (fun k hk => even1_any k (hfr k hk).1 (hfr k hk).2.1) ha hb
  rw [newL_er gs xs D.l1] at this
  refine this.mono fun e w' h => h.built (Nat.le_refl _) (fun _ _ => rfl) (fun x hx => ?_) D.base_le
  rw [hbl] at hx
  rcases List.mem_cons.1 hx with rfl | hx
  · exact D.bB
  · exact (D.lt x (by simp [hx])).1

set_option maxHeartbeats 1000000 in
set_option maxRecDepth 100000 in
theorem chief_one (way a b : Int) (B cap base : Nat) (e' : E) (w : World) (hb : base ≤ w.heap.size) (CE : ∀ W, w.grownBy W none → Calls Tryd.prog 44 #[.int .i64 way, .agg #[.int .i64 a, .int .i64 b], .slice (some ⟨B, 0, none⟩) 1 cap] W (Built base W e')) :
    Calls Tryd.prog 45 #[.int .i64 way, .agg #[.int .i64 a, .int .i64 b], .slice (some ⟨B, 0, none⟩) 1 cap] w (Built base w e') := by
  have g0 := World.grownBy_alloc w (.cells #[.int .i64 a, .int .i64 b] 56) none
  have C0 := CE _ g0
  have hB0 : Below base w (w.alloc (.cells #[.int .i64 a, .int .i64 b] 56)) := (Below.refl _ w).alloc hb _
  replace CE := Lib.hid CE; replace C0 := Lib.hid C0; replace g0 := Lib.hid g0; replace hB0 := Lib.hid hB0
  go_enter Tryd.func45, Tryd.ntmps45
  go_wp2_with fail
  refine C0.out.mono ?_
  rintro e w4 ⟨G, t', up, h1, rfl, h3⟩
  replace h3 := Lib.hid h3
  unfold ptr
  go_wp2_with fail
  go_ret
  obtain ⟨k1, k2, k3, k4, k5⟩ := h3.out
  exact ⟨G, t', up, h1, rfl, k1, k2, hB0.out.trans k3, k4, k5⟩
end
end Go.Proofs.YtcklmkjlbpjojaaDoor.X
namespace Go.Proofs.YtcklmkjlbpjojaaDoor.X
open Go.RowKit
set_option linter.unusedSimpArgs false
set_option linter.unusedVariables false
section
variable {base B cap : Nat} {gs qs : List Nat} {xs : List T} {cur : Array Value} {w W : World}
theorem CpD.blt (D : CpD base B cap gs qs xs cur w) : B < w.heap.size := lt_of_heap D.hB
theorem CpD.word (D : CpD base B cap gs qs xs cur w) {i : Nat} {g : Nat} (hi : gs[i]? = some g) : cur[i]? = some (ptr g) := by
  have h1 : (cur.toList.take xs.length)[i]? = some (ptr g) := by rw [D.tk, List.getElem?_map, hi]; rfl
  rw [List.getElem?_take] at h1
  split at h1
  · simpa using h1
  · cases h1

theorem build_chief {way : Int} (hw : way = 0 ∨ way = 1) (a b : Int) (D : CpD base B cap gs qs xs cur w) (hn : 1 ≤ xs.length ∧ xs.length ≤ 1000) (hp : ∀ s ∈ xs, 1 ≤ s.n.p ∧ s.n.p ≤ 999) (ha : 1 ≤ a ∧ a ≤ 250) (hb : 1 ≤ b ∧ b ≤ 250) :
    Calls Tryd.prog 45 #[.int .i64 way, .agg #[.int .i64 a, .int .i64 b], .slice (some ⟨B, 0, none⟩) xs.length cap] w (Built base w (chiefE way a b (xs.map fresh))) := by
  rcases Nat.lt_or_ge 1 xs.length with h2 | h2
  · have hlen := newL_len gs xs D.l1
    obtain ⟨k0, ks, hL⟩ : ∃ k0 ks, newL gs xs = k0 :: ks := by
      match h : newL gs xs with
      | [] => rw [h] at hlen; simp at hlen; omega
      | k0 :: ks => exact ⟨k0, ks, rfl⟩
    obtain ⟨q, hq0⟩ : ∃ q, qs[0]? = some q := ⟨qs[0]'(by rw [D.l2]; omega), List.getElem?_eq_getElem _⟩
    have hqm := List.mem_of_getElem? hq0
    have hql := D.lt q (by simp [hqm])
    obtain ⟨n1, n2⟩ := List.nodup_cons.1 D.nd
    obtain ⟨n3, n4, n5⟩ := List.nodup_append.1 n2
    have hqB : q ≠ B := fun e => n1 (by rw [← e]; simp [hqm])
    have hbl := newL_bl gs xs D.l1
    rw [hL] at hbl hlen
    obtain ⟨G, hG⟩ : ∃ G, G = ghC B q w.heap.size base D.blt hql.2 D.bB hql.1 := ⟨_, rfl⟩
    have hα : G.α q = (B, 0 + 1) := by rw [hG]; show (if q = q then (B, 1) else (q, 0)) = _; rw [if_pos rfl]
    have hκ : ∀ o, o ≠ 0 → G.κ B o = q := fun o ho => by rw [hG]; show (if B = B ∧ o ≠ 0 then q else B) = _; rw [if_pos ⟨rfl, ho⟩]
    have hκ0 : G.κ B 0 = B := by rw [hG]; show (if B = B ∧ 0 ≠ 0 then q else B) = _; rw [if_neg (by simp)]
    have hwh : ∀ g ∈ gs, G.wh g := fun g hg => by
      have h1 : g ≠ B := fun e => n1 (by rw [← e]; simp [hg])
      have h2 : g ≠ q := fun e => n5 g hg q hqm e
      rw [hG]
      exact ⟨fun o => by show (if g = B ∧ o ≠ 0 then q else g) = _; rw [if_neg (fun h => h1 h.1)], by show (if g = q then (B, 1) else (g, 0)) = _; rw [if_neg h2]⟩
    have hGm : G.m = w.heap.size := by rw [hG]; rfl
    have hGl : G.lo = base := by rw [hG]; rfl
    have hP := D.prow (o := 1) (c := cap - 1) (k := xs.length - 1) (by have := D.nc; omega) (by have := D.nc; omega) (by omega)
    have hks : ((newL gs xs).drop 1).take (xs.length - 1) = ks := by
      rw [hL, List.drop_succ_cons, List.drop_zero]
      exact List.take_of_length_le (by simp at hlen; omega)
    rw [hks] at hP
    have hkl : ks.length = xs.length - 1 := by simp at hlen; omega
    have hR : RowAt G w (some q) (cap - 1) (xs.length - 1) (ptrs ks) := by
      refine ⟨by rw [ptrs_len, hkl], .inr ⟨q, cur.toList, rfl, hql.2, ?_⟩⟩
      rw [hα]
      exact ⟨⟨1, hκ 1 (by omega)⟩, hP, fun j _ => hκ _ (by omega)⟩
    have htp := newL_tp (G := G) D.lf hwh (by rw [hGm]; exact Nat.le_refl _)
    have hfr := newL_frm (gs := gs) hp
    rw [hL] at htp hfr
    have hBn : B ∉ q :: blL (k0 :: ks) := by
      rw [hbl]
      intro h
      rcases List.mem_cons.1 h with h | h
      · exact hqB h.symm
      · exact n1 (by simp [h])
    have hnd : (q :: blL (k0 :: ks)).Nodup := by
      rw [hbl]
      exact List.nodup_cons.2 ⟨fun h => n5 q h q hqm rfl, n3⟩
    have h0 : ∀ S w', Off G S w w' → (∀ x ∈ S, x ∈ q :: blL (k0 :: ks) ∨ w.heap.size ≤ x) → w'.cell? ⟨B, 0, none⟩ = some (ptr k0.g) := fun S w' ho hS => by
      obtain ⟨c', p1, p2, p3⟩ := ho.part B cur 55 D.hB
      have h3 := p3 0 (by
        rw [hκ0]
        intro hm
        rcases hS B hm with h | h
        · exact hBn h
        · have := D.blt; omega)
      obtain ⟨g0, hg0⟩ : ∃ g0, gs[0]? = some g0 := ⟨gs[0]'(by rw [D.l1]; omega), List.getElem?_eq_getElem _⟩
      have hk0 : k0.g = g0 := by
        match gs, xs, hg0, hL with
        | g :: gs, s :: xs, hg0, hL =>
          simp at hg0
          rw [newL] at hL
          injection hL with hL _
          rw [← hL, ← hg0]; rfl
      rw [cell_of_heap p1]
      rw [D.word hg0] at h3
      rw [hk0]
      simpa using h3
    have her := newL_er gs xs D.l1
    rw [hL] at her
    have hS : ∀ x ∈ q :: blL (k0 :: ks), base ≤ x := fun x hx => by
      rw [hbl] at hx
      rcases List.mem_cons.1 hx with rfl | hx
      · exact hql.1
      · exact (D.lt x (by simp [hx])).1
    have hK : ∀ k ∈ k0 :: ks, LT G w k := fun k hk => LT.of_tp _ _ (htp k hk)
    have hE : ∀ k ∈ k0 :: ks, Even1 k := fun k hk => even1_any k (hfr k hk).1 (hfr k hk).2.1
    rw [← her]
    have hnl : xs.length = ks.length + 1 := by omega
    rcases hw with rfl | rfl
    · exact (chief_w0 a b q B 0 cap xs.length k0 ks w hR hα hnl ⟨by omega, hn.2⟩ ⟨D.nc, D.cm⟩ h0 hK hnd (by rw [hGm]; exact Nat.le_refl _) hE ha hb).mono fun e w' h => h.built (by rw [hGl]; exact Nat.le_refl _) (fun k hk => by rw [hG]; show (if k = q then (B, 1) else (k, 0)) = _; rw [if_neg (by omega)]) hS D.base_le
    · exact (chief_w1 a b q B 0 cap xs.length k0 ks w hR hα hnl ⟨by omega, hn.2⟩ ⟨D.nc, D.cm⟩ h0 hK hnd (by rw [hGm]; exact Nat.le_refl _) hE ha hb).mono fun e w' h => h.built (by rw [hGl]; exact Nat.le_refl _) (fun k hk => by rw [hG]; show (if k = q then (B, 1) else (k, 0)) = _; rw [if_neg (by omega)]) hS D.base_le
  · have h1 : xs.length = 1 := by omega
    obtain ⟨s, rfl⟩ := List.length_eq_one_iff.1 h1
    exact chief_one way a b B cap base _ w D.base_le fun W g => build_even hw a b (D.grown g) hn hp (by unfold Bd; omega) (by unfold Bd; omega)

theorem take_min {α : Type} (l : List α) (c : Nat) : l.take (min c l.length) = l.take c := by
  refine List.ext_getElem? fun i => ?_
  rw [List.getElem?_take, List.getElem?_take]
  rcases Nat.lt_or_ge i l.length with h | h
  · split <;> split <;> first | rfl | omega
  · rw [List.getElem?_eq_none h]; split <;> split <;> rfl
theorem idx_nodup : ∀ {l : List Nat}, l.Nodup → ∀ {i q : Nat}, l[i]? = some q → l.idxOf q = i
  | [], _, i, q, h => by simp at h
  | a :: l, nd, i, q, h => by
    obtain ⟨n1, n2⟩ := List.nodup_cons.1 nd
    rcases i with _ | i
    · simp at h; subst h; simp
    · simp at h
      have hne : a ≠ q := fun e => n1 (by rw [e]; exact List.mem_of_getElem? h)
      have := idx_nodup n2 h
      simp only [List.idxOf_cons, this]
      rw [beq_eq_false_iff_ne.2 hne]
      rfl
theorem map_range_take (qs : List Nat) (B k : Nat) (hk : k ≤ qs.length) : (List.range k).map (fun x => (qs[x]?).getD B) = qs.take k := by
  refine List.ext_getElem? fun i => ?_
  rw [List.getElem?_map, List.getElem?_take]
  rcases Nat.lt_or_ge i k with h | h
  · have hi : i < qs.length := by omega
    rw [List.getElem?_range h, if_pos h]
    simp [List.getElem?_eq_getElem hi]
  · rw [if_neg (by omega), List.getElem?_eq_none (by simpa using h)]; rfl
theorem build_tiled (a b : Int) (c : Nat) (D : CpD base B cap gs qs xs cur w) (hC : Cols xs.length c) (hc : c ≤ xs.length) (hn : 1 ≤ xs.length ∧ xs.length ≤ 1000) (hp : ∀ s ∈ xs, 1 ≤ s.n.p ∧ s.n.p ≤ 999) (ha : Bd a) (hb : Bd b) :
    Calls Tryd.prog 46 #[.agg #[.int .i64 a, .int .i64 b], .slice (some ⟨B, 0, none⟩) xs.length cap] w (Built base w (rowE 1 a b (tiledEs xs.length c a b (xs.map fresh)))) := by
  have hlen := newL_len gs xs D.l1
  have hbl := newL_bl gs xs D.l1
  obtain ⟨n1, n2⟩ := List.nodup_cons.1 D.nd
  obtain ⟨n3, n4, n5⟩ := List.nodup_append.1 n2
  obtain ⟨G, hG⟩ : ∃ G, G = ghT B xs.length c w.heap.size base qs D.blt (fun q hq => ⟨(D.lt q (by simp [hq])).2, (D.lt q (by simp [hq])).1⟩) D.bB := ⟨_, rfl⟩
  have hGm : G.m = w.heap.size := by rw [hG]; rfl
  have hGl : G.lo = base := by rw [hG]; rfl
  have hpn : pnum xs.length c ≤ xs.length := by
    rcases Nat.lt_or_ge xs.length (pnum xs.length c) with h1 | h1
    · have h2 := (pnum_iff (c := c) hC.1).1 h1
      have h3 := Nat.mul_le_mul_left xs.length hC.1
      omega
    · exact h1
  have hqx : ∀ x, x * c < xs.length → ∃ q, qs[x]? = some q := fun x hx => by
    have := (pnum_iff (c := c) hC.1).2 hx
    exact ⟨qs[x]'(by rw [D.l2]; omega), List.getElem?_eq_getElem _⟩
  have hα : ∀ x, x * c < xs.length → G.α ((qs[x]?).getD B) = (B, x * c) := fun x hx => by
    obtain ⟨q, hq⟩ := hqx x hx
    rw [hq, hG]
    show (if q ∈ qs then (B, qs.idxOf q * c) else (q, 0)) = _
    rw [if_pos (List.mem_of_getElem? hq), idx_nodup n4 hq]
  have hκ : ∀ x j, x * c < xs.length → j < plen xs.length c x → G.κ B (x * c + j) = (qs[x]?).getD B := fun x j hx hj => by
    unfold plen at hj
    have h1 : (x * c + j) / c = x := by
      rw [Nat.div_eq_iff (by have := hC.1; omega)]
      have : (x + 1) * c = x * c + c := by rw [Nat.add_mul, Nat.one_mul]
      omega
    rw [hG]
    show (if B = B then (if x * c + j < xs.length then (qs[(x * c + j) / c]?).getD B else B) else B) = _
    rw [if_pos rfl, if_pos (by omega), h1]
  have hwh : ∀ g ∈ gs, G.wh g := fun g hg => by
    have h1 : g ≠ B := fun e => n1 (by rw [← e]; simp [hg])
    have h2 : g ∉ qs := fun h => n5 g hg g h rfl
    rw [hG]
    exact ⟨fun o => by show (if g = B then _ else g) = _; rw [if_neg h1], by show (if g ∈ qs then _ else (g, 0)) = _; rw [if_neg h2]⟩
  have htp := newL_tp (G := G) D.lf hwh (by rw [hGm]; exact Nat.le_refl _)
  have hfr := newL_frm (gs := gs) hp
  have hqb : ∀ x, x * c < xs.length → (qs[x]?).getD B ∈ qs := fun x hx => by
    obtain ⟨q, hq⟩ := hqx x hx
    rw [hq]; exact List.mem_of_getElem? hq
  have hpc : ∀ x, ((newL gs xs).drop (x * c)).take (plen xs.length c x) = piece (newL gs xs) c x := fun x => by
    unfold piece plen
    rw [← take_min ((newL gs xs).drop (x * c)) c, List.length_drop, hlen]
  have hR : ∀ x, x * c < xs.length → RowAt G w (some ((qs[x]?).getD B)) (plen xs.length c x) (plen xs.length c x) (ptrs (piece (newL gs xs) c x)) := fun x hx => by
    have hpl : x * c + plen xs.length c x ≤ xs.length := by unfold plen; omega
    have hP := D.prow (o := x * c) (c := plen xs.length c x) (k := plen xs.length c x) (Nat.le_refl _) (by have := D.nc; omega) hpl
    rw [hpc] at hP
    refine ⟨by rw [ptrs_len, piece_len hlen.symm], .inr ⟨_, cur.toList, rfl, (D.lt _ (by simp [hqb x hx])).2, ?_⟩⟩
    rw [hα x hx]
    exact ⟨⟨x * c + 0, hκ x 0 hx (plen_pos hC.1 hx)⟩, hP, fun j hj => hκ x j hx hj⟩
  have hqm := map_range_take qs B (pnum xs.length c) (by rw [D.l2]; exact hpn)
  have E : TEnv G w B xs.length c (newL gs xs) (fun x => (qs[x]?).getD B) := by
    refine ⟨hlen.symm, hn, ⟨hC.1, by omega⟩, fun k hk => ⟨none, htp k hk⟩, fun k hk => (hfr k hk).2.2, hR, hα, ?_, by rw [hGm]; exact Nat.le_refl _⟩
    rw [hqm, hbl]
    refine List.nodup_append.2 ⟨n4.sublist (List.take_sublist _ _), n3, ?_⟩
    rintro x hx y hy rfl
    exact n5 x hy x (List.mem_of_mem_take hx) rfl
  have hcell : ∀ W, Off G ((newL gs xs).map T.g) w W → ∀ x, x * c < xs.length → ∃ t, (newL gs xs)[x * c]? = some t ∧ W.cell? ⟨B, x * c, none⟩ = some (ptr t.g) := fun W ho x hx => by
    obtain ⟨t, ht⟩ : ∃ t, (newL gs xs)[x * c]? = some t := ⟨(newL gs xs)[x * c]'(by rw [hlen]; exact hx), List.getElem?_eq_getElem _⟩
    refine ⟨t, ht, ?_⟩
    have hRW := (hR x hx).off ho fun b' hb' hm => by
      injection hb' with hb'
      obtain ⟨k, hk, e⟩ := List.mem_map.1 hm
      exact E.qn hx (by rw [hb', ← e]; exact g_in hk)
    obtain ⟨cur', _, _, hP', _⟩ := hRW.prow rfl (hα x hx) (plen_pos hC.1 hx)
    refine hP'.cell (j := 0) ?_
    unfold ptrs piece
    rw [List.getElem?_map, List.getElem?_take, if_pos (by have := hC.1; omega), List.getElem?_drop]
    rw [show x * c + 0 = x * c from rfl, ht]; rfl
  have := tiled_any a b B xs.length cap c (newL gs xs) _ w E hC D.nc (fun k hk => ⟨(hfr k hk).1, (hfr k hk).2.1⟩) ha hb hcell
  rw [newL_er gs xs D.l1] at this
  refine this.mono fun e w' h => h.built (by rw [hGl]; exact Nat.le_refl _) (fun k hk => by
    rw [hG]; show (if k ∈ qs then _ else (k, 0)) = _
    rw [if_neg (fun h => by have := (D.lt k (by simp [h])).1; omega)]) (fun x hx => ?_) D.base_le
  rw [hqm, hbl] at hx
  rcases List.mem_append.1 hx with hx | hx
  · exact (D.lt x (by simp [List.mem_of_mem_take hx])).1
  · exact (D.lt x (by simp [hx])).1
end
end Go.Proofs.YtcklmkjlbpjojaaDoor.X
namespace Go.Proofs.YtcklmkjlbpjojaaDoor.X
open Go.RowKit
set_option linter.unusedSimpArgs false
set_option linter.unusedVariables false

/-- A pane that has no size yet. -/
def Pane (e : E) : Prop := ∃ p, (1 ≤ p ∧ p ≤ 999) ∧ e = .mk p 0 0 0 []
theorem Pane.frm {e : E} (h : Pane e) : Frm e ∧ e.ks = [] ∧ e.alt := by
  obtain ⟨p, hp, rfl⟩ := h
  exact ⟨.leaf hp, rfl, .mk (by simp) (by simp)⟩
theorem rowE_frm {way : Int} (hw : way = 0 ∨ way = 1) (a b : Int) {es : List E} (hne : es ≠ []) (hF : ∀ e ∈ es, Frm e) (hA : ∀ e ∈ es, e.alt ∧ (e.ks = [] ∨ e.way ≠ way)) : ∃ e0 : E, Frm e0 ∧ rowE way a b es = e0.even a b ∧ e0.ps = psL es ∧ e0.alt ∧ (e0.ks = [] ∨ e0.way = way ∨ es.length = 1) := by
  match es, hne with
  | [e], _ => exact ⟨e, hF e (by simp), rfl, by rw [psL_cons, psL_nil, List.append_nil], (hA e (by simp)).1, .inr (.inr rfl)⟩
  | e1 :: e2 :: es, _ =>
    refine ⟨.mk 0 0 0 way (e1 :: e2 :: es), .node hw (by simp) hF, ?_, ?_, .mk (fun k hk => (hA k hk).2) fun k hk => (hA k hk).1, .inr (.inl rfl)⟩
    · rw [even_mk, if_neg (by simp)]; rfl
    · rw [E.ps_mk, if_neg (by simp)]; rfl
/-- What Preset needs of a frame. -/
structure Good (a b : Int) (es : List E) (e : E) : Prop where
  ok : e.pos → e.ok
  alt : e.alt
  a : e.a = a
  b : e.b = b
  ps : e.ps = psL es
theorem rowE_good {way : Int} (hw : way = 0 ∨ way = 1) (a b : Int) {es : List E} (hne : es ≠ []) (hF : ∀ e ∈ es, Frm e) (hA : ∀ e ∈ es, e.alt ∧ (e.ks = [] ∨ e.way ≠ way)) : Good a b es (rowE way a b es) := by
  obtain ⟨e0, h1, h2, h3, h4, h5⟩ := rowE_frm hw a b hne hF hA
  rw [h2]
  exact ⟨even_ok e0 h1 a b, even_alt e0 h4 a b, (even_a e0 a b).1, (even_a e0 a b).2, by rw [even_ps, h3]⟩
theorem chiefE_good {way : Int} (hw : way = 0 ∨ way = 1) (a b : Int) {es : List E} (hne : es ≠ []) (hP : ∀ e ∈ es, Pane e) : Good a b es (chiefE way a b es) := by
  match es, hne with
  | [e], _ => exact rowE_good hw a b (by simp) (fun e he => (hP e he).frm.1) fun e he => ⟨(hP e he).frm.2.2, .inl (hP e he).frm.2.1⟩
  | e :: e2 :: es, _ =>
    have he := (hP e (by simp)).frm
    have hT : ∀ x ∈ e2 :: es, Pane x := fun x hx => hP x (by simp at hx ⊢; exact .inr hx)
    rcases hw with rfl | rfl
    · obtain ⟨e0, h1, h2, h3, h4, h5⟩ := rowE_frm (way := 0) (.inl rfl) a ((b - 1).tdiv 2) (es := e2 :: es) (by simp) (fun x hx => (hT x hx).frm.1) fun x hx => ⟨(hT x hx).frm.2.2, .inl (hT x hx).frm.2.1⟩
      have hks : e0.ks = [] ∨ e0.way = 0 := by
        rcases h5 with h | h | h
        · exact .inl h
        · exact .inr h
        · match es, h with
          | [], _ => left; have := h2; exact (even_ks e0 a ((b - 1).tdiv 2)).1 (by rw [← h2]; exact (even_ks e2 _ _).2 (hT e2 (by simp)).frm.2.1)
      have e1 : chiefE 0 a b (e :: e2 :: es) = .mk 0 a b 1 [e.even a (b - 1 - (b - 1).tdiv 2), e0.even a ((b - 1).tdiv 2)] := by rw [← h2]; rfl
      rw [e1]
      refine ⟨fun hp => ?_, .mk (fun k hk => ?_) fun k hk => ?_, rfl, rfl, ?_⟩
      · have hp2 := ((pos_mk _ _ _ _ _).1 hp).2
        have o1 := even_ok e he.1 _ _ (hp2 _ (.head _))
        have o2 := even_ok e0 h1 _ _ (hp2 _ (.tail _ (.head _)))
        have g1 := o1.ge
        have g2 := o2.ge
        rw [(even_a _ _ _).1, (even_a _ _ _).2] at g1 g2
        refine .node g1.1 (by omega) (by simp) (.inr ⟨rfl, fun k hk => ?_, ?_⟩) fun k hk => ?_
        · simp at hk
          rcases hk with rfl | rfl
          · exact (even_a _ _ _).1
          · exact (even_a _ _ _).1
        · simp only [List.map_cons, List.map_nil, List.sum_cons, List.sum_nil, (even_a _ _ _).2]
          omega
        · simp at hk
          rcases hk with rfl | rfl
          · exact o1
          · exact o2
      · simp at hk
        rcases hk with rfl | rfl
        · exact .inl ((even_ks _ _ _).2 he.2.1)
        · rw [even_ks, even_way]
          exact hks.imp id fun h => by rw [h]; decide
      · simp at hk
        rcases hk with rfl | rfl
        · exact even_alt _ he.2.2 _ _
        · exact even_alt _ h4 _ _
      · rw [E.ps_mk, if_neg (by simp), psL_cons, psL_cons, psL_nil, even_ps, even_ps, h3]
        simp only [psL_cons, List.append_nil, List.nil_append, List.append_assoc]
    · obtain ⟨e0, h1, h2, h3, h4, h5⟩ := rowE_frm (way := 1) (.inr rfl) ((a - 1).tdiv 2) b (es := e2 :: es) (by simp) (fun x hx => (hT x hx).frm.1) fun x hx => ⟨(hT x hx).frm.2.2, .inl (hT x hx).frm.2.1⟩
      have hks : e0.ks = [] ∨ e0.way = 1 := by
        rcases h5 with h | h | h
        · exact .inl h
        · exact .inr h
        · match es, h with
          | [], _ => left; exact (even_ks e0 ((a - 1).tdiv 2) b).1 (by rw [← h2]; exact (even_ks e2 _ _).2 (hT e2 (by simp)).frm.2.1)
      have e1 : chiefE 1 a b (e :: e2 :: es) = .mk 0 a b 0 [e.even (a - 1 - (a - 1).tdiv 2) b, e0.even ((a - 1).tdiv 2) b] := by rw [← h2]; rfl
      rw [e1]
      refine ⟨fun hp => ?_, .mk (fun k hk => ?_) fun k hk => ?_, rfl, rfl, ?_⟩
      · have hp2 := ((pos_mk _ _ _ _ _).1 hp).2
        have o1 := even_ok e he.1 _ _ (hp2 _ (.head _))
        have o2 := even_ok e0 h1 _ _ (hp2 _ (.tail _ (.head _)))
        have g1 := o1.ge
        have g2 := o2.ge
        rw [(even_a _ _ _).1, (even_a _ _ _).2] at g1 g2
        refine .node (by omega) g1.2 (by simp) (.inl ⟨rfl, fun k hk => ?_, ?_⟩) fun k hk => ?_
        · simp at hk
          rcases hk with rfl | rfl
          · exact (even_a _ _ _).2
          · exact (even_a _ _ _).2
        · simp only [List.map_cons, List.map_nil, List.sum_cons, List.sum_nil, (even_a _ _ _).1]
          omega
        · simp at hk
          rcases hk with rfl | rfl
          · exact o1
          · exact o2
      · simp at hk
        rcases hk with rfl | rfl
        · exact .inl ((even_ks _ _ _).2 he.2.1)
        · rw [even_ks, even_way]
          exact hks.imp id fun h => by rw [h]; decide
      · simp at hk
        rcases hk with rfl | rfl
        · exact even_alt _ he.2.2 _ _
        · exact even_alt _ h4 _ _
      · rw [E.ps_mk, if_neg (by simp), psL_cons, psL_cons, psL_nil, even_ps, even_ps, h3]
        simp only [psL_cons, List.append_nil, List.nil_append, List.append_assoc]
theorem pieces_all (es : List E) (c : Nat) : ∀ k, ((List.range k).map fun x => (es.drop (x * c)).take c).flatten = es.take (k * c)
  | 0 => by simp
  | k + 1 => by
    rw [List.range_succ, List.map_append, List.flatten_append, pieces_all es c k, Nat.add_mul, Nat.one_mul, List.take_add]
    simp
theorem cell_good {a b : Int} {es : List E} (hne : es ≠ []) (hP : ∀ e ∈ es, Pane e) : Frm (cellE a b es) ∧ (cellE a b es).alt ∧ ((cellE a b es).ks = [] ∨ (cellE a b es).way ≠ 1) ∧ (cellE a b es).ps = psL es := by
  match es, hne with
  | [e], _ =>
    have h := (hP e (by simp)).frm
    exact ⟨h.1, h.2.2, .inl h.2.1, by rw [psL_cons, psL_nil, List.append_nil]; rfl⟩
  | e1 :: e2 :: es, _ =>
    refine ⟨.node (.inl rfl) (by simp) fun e he => (hP e he).frm.1, .mk (fun k hk => .inl (hP k hk).frm.2.1) fun k hk => (hP k hk).frm.2.2, .inr ?_, ?_⟩
    · show (0 : Int) ≠ 1; decide
    · show (E.mk 0 a b 0 (e1 :: e2 :: es)).ps = _
      rw [E.ps_mk, if_neg (by simp)]; rfl
theorem tiledE_good (n c : Nat) (a b : Int) {es : List E} (hn : n = es.length) (hc : 1 ≤ c) (hne : es ≠ []) (hP : ∀ e ∈ es, Pane e) : Good a b es (rowE 1 a b (tiledEs n c a b es)) := by
  have h1 : 1 ≤ n := by
    rw [hn]
    match es, hne with
    | e :: es, _ => simp
  have hcell : ∀ e ∈ tiledEs n c a b es, Frm e ∧ e.alt ∧ (e.ks = [] ∨ e.way ≠ 1) := fun e he => by
    unfold tiledEs at he
    obtain ⟨x, hx, rfl⟩ := List.mem_map.1 he
    have hxn := (pnum_iff hc).1 (List.mem_range.1 hx)
    have hne2 : (es.drop (x * c)).take c ≠ [] := by
      intro h
      have := congrArg List.length h
      rw [List.length_take, List.length_drop] at this
      simp at this; omega
    obtain ⟨g1, g2, g3, _⟩ := cell_good (a := a) (b := b) hne2 fun e he => hP e (List.mem_of_mem_drop (List.mem_of_mem_take he))
    exact ⟨g1, g2, g3⟩
  have hps : psL (tiledEs n c a b es) = psL es := by
    have h2 : psL (tiledEs n c a b es) = psL (((List.range (pnum n c)).map fun x => (es.drop (x * c)).take c).flatten) := by
      unfold tiledEs
      have : ∀ l : List Nat, (∀ x ∈ l, x < pnum n c) → psL (l.map fun x => cellE a b ((es.drop (x * c)).take c)) = psL ((l.map fun x => (es.drop (x * c)).take c).flatten) := by
        intro l
        induction l with
        | nil => intro _; simp [psL_nil]
        | cons x l ih =>
          intro hl
          rw [List.map_cons, List.map_cons, List.flatten_cons, psL_cons, psL_app, ih fun y hy => hl y (by simp [hy])]
          have hxn := (pnum_iff hc).1 (hl x (by simp))
          have hne2 : (es.drop (x * c)).take c ≠ [] := by
            intro h
            have := congrArg List.length h
            rw [List.length_take, List.length_drop] at this
            simp at this; omega
          rw [(cell_good (a := a) (b := b) hne2 fun e he => hP e (List.mem_of_mem_drop (List.mem_of_mem_take he))).2.2.2]
      exact this _ fun x hx => List.mem_range.1 hx
    rw [h2, pieces_all, List.take_of_length_le]
    rw [← hn]
    refine Nat.le_of_not_lt fun h => ?_
    exact absurd ((pnum_iff (n := n) hc).2 h) (Nat.lt_irrefl _)
  have hne3 : tiledEs n c a b es ≠ [] := by
    intro h
    have := congrArg List.length h
    unfold tiledEs at this
    simp at this
    have h4 := (pnum_iff (n := n) (x := 0) hc).2 (by omega)
    omega
  obtain ⟨k1, k2, k3, k4, k5⟩ := rowE_good (.inr rfl) a b hne3 (fun e he => (hcell e he).1) fun e he => (hcell e he).2
  exact ⟨k1, k2, k3, k4, by rw [k5, hps]⟩
theorem fresh_pane {xs : List T} (hp : ∀ s ∈ xs, 1 ≤ s.n.p ∧ s.n.p ≤ 999) : ∀ e ∈ xs.map fresh, Pane e := fun e he => by
  obtain ⟨s, hs, rfl⟩ := List.mem_map.1 he
  exact ⟨s.n.p, hp s hs, rfl⟩
theorem fresh_ps : ∀ xs : List T, psL (xs.map fresh) = xs.map fun s => s.n.p
  | [] => by simp [psL_nil]
  | s :: xs => by
    rw [List.map_cons, List.map_cons, psL_cons, fresh_ps xs]
    unfold fresh
    rw [E.ps_mk, psL_nil]; rfl
end Go.Proofs.YtcklmkjlbpjojaaDoor.X
