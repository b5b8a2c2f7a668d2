/- Layout: place. -/
import Derived.Test.YtcklmkjlbpjojaaDoorC4
namespace Go.Proofs.YtcklmkjlbpjojaaDoor
open Go.RowKit
set_option linter.unusedSimpArgs false
set_option linter.unusedVariables false

mutual
/-- All nodes' words. -/
def T.nds : T → List Nd
  | .mk n ks => n :: ndsL ks
def ndsL : List T → List Nd
  | [] => []
  | k :: ks => k.nds ++ ndsL ks
end
theorem T.nds_mk (n : Nd) (ks : List T) : (T.mk n ks).nds = n :: ndsL ks := by rw [T.nds]
theorem ndsL_nil : ndsL [] = [] := by rw [ndsL]
theorem ndsL_cons (k : T) (ks : List T) : ndsL (k :: ks) = k.nds ++ ndsL ks := by rw [ndsL]
theorem ndsL_app (l r : List T) : ndsL (l ++ r) = ndsL l ++ ndsL r := by
  induction l with
  | nil => simp [ndsL_nil]
  | cons k l ih => simp [ndsL_cons, ih]
theorem mem_ndsL {m : Nd} {ks : List T} : m ∈ ndsL ks ↔ ∃ k ∈ ks, m ∈ k.nds := by
  induction ks with
  | nil => simp [ndsL_nil]
  | cons k ks ih => simp [ndsL_cons, ih]
/-- A way is 0 or 1. -/
def T.w01 (t : T) : Prop := ∀ m ∈ t.nds, m.way = 0 ∨ m.way = 1
theorem T.w01.n {n : Nd} {ks : List T} (h : (T.mk n ks).w01) : n.way = 0 ∨ n.way = 1 := h n (by rw [T.nds_mk]; simp)
theorem T.w01.k {n : Nd} {ks : List T} (h : (T.mk n ks).w01) {k : T} (hk : k ∈ ks) : k.w01 := fun m hm => h m (by rw [T.nds_mk]; simp [mem_ndsL.2 ⟨k, hk, hm⟩])

def wr64 (z : Int) : Int := wrap64 z
/-- The next place, behind a node. -/
def nx (way : Int) (k : Nd) (x : Int) : Int := if way = 0 then wr64 (x + wr64 (k.a + 1)) else x
def ny (way : Int) (k : Nd) (y : Int) : Int := if way = 0 then y else wr64 (y + wr64 (k.b + 1))
mutual
def T.place : T → Int → Int → T
  | .mk n ks, x, y => .mk { n with x := x, y := y } (placeL n.way ks x y)
def placeL : Int → List T → Int → Int → List T
  | _, [], _, _ => []
  | way, k :: ks, x, y => k.place x y :: placeL way ks (nx way k.n x) (ny way k.n y)
end
theorem T.place_mk (n : Nd) (ks : List T) (x y : Int) : (T.mk n ks).place x y = .mk { n with x := x, y := y } (placeL n.way ks x y) := by rw [T.place]
theorem placeL_nil (way x y : Int) : placeL way [] x y = [] := by rw [placeL]
theorem placeL_cons (way : Int) (k : T) (ks : List T) (x y : Int) : placeL way (k :: ks) x y = k.place x y :: placeL way ks (nx way k.n x) (ny way k.n y) := by rw [placeL]
theorem T.place_g (t : T) (x y : Int) : (t.place x y).g = t.g := by cases t; rw [T.place_mk]; rfl
theorem T.place_n (t : T) (x y : Int) : (t.place x y).n = { t.n with x := x, y := y } := by cases t; rw [T.place_mk]; rfl
theorem placeL_len (way : Int) : ∀ (ks : List T) (x y : Int), (placeL way ks x y).length = ks.length
  | [], x, y => by rw [placeL_nil]
  | k :: ks, x, y => by rw [placeL_cons]; simp [placeL_len way ks]
theorem placeL_ptrs (way : Int) : ∀ (ks : List T) (x y : Int), ptrs (placeL way ks x y) = ptrs ks
  | [], x, y => by rw [placeL_nil]
  | k :: ks, x, y => by rw [placeL_cons]; simp only [ptrs, List.map_cons, T.place_g]; rw [show (placeL way ks _ _).map (fun t => ptr t.g) = ks.map (fun t => ptr t.g) from placeL_ptrs way ks _ _]
theorem T.place_bl (t : T) : ∀ x y, (t.place x y).bl = t.bl := by
  induction t using T.ind with
  | h n ks ih =>
    intro x y
    rw [T.place_mk, T.bl_mk, T.bl_mk]
    have : ∀ (l : List T) (x y : Int), (∀ k ∈ l, ∀ x y, (k.place x y).bl = k.bl) → blL (placeL n.way l x y) = blL l := by
      intro l
      induction l with
      | nil => intro x y _; rw [placeL_nil]
      | cons k l ih2 => intro x y h; rw [placeL_cons, blL_cons, blL_cons, h k (by simp), ih2 _ _ fun k hk => h k (by simp [hk])]
    rw [this ks x y ih]
theorem placeL_bl (way : Int) : ∀ (ks : List T) (x y : Int), blL (placeL way ks x y) = blL ks
  | [], x, y => by rw [placeL_nil]
  | k :: ks, x, y => by rw [placeL_cons, blL_cons, blL_cons, T.place_bl, placeL_bl way ks]

theorem heap_set {w : World} {g j : Nat} {c : Array Value} {e : TypeId} {f : Nat × Nat} (h : w.heap[g]? = some (.cells c e f)) (v : Value) : (w.setCell ⟨g, j, none⟩ v).heap[g]? = some (.cells (c.setIfInBounds j v) e f) := by
  simp [World.setCell, Array.getElem?_modify, h]
/-- A node whose own cells were turned. -/
theorem At.upd {w w' : World} {up up' : Option Nat} {n n' : Nd} {ks ks' : List T} (h : At w up n ks) (hg : n'.g = n.g) (hA : n'.A = n.A) (hc : n'.c = n.c) (hk : ptrs ks' = ptrs ks) (ho : Off [n.g] w w')
    (hh : w'.heap[n.g]? = some (.cells #[.int .i64 n'.p, .int .i64 n'.x, .int .i64 n'.y, .int .i64 n'.a, .int .i64 n'.b, .int .i64 n'.way, n'.row ks'.length, uptr up'] 58 (0, 0))) (hAg : n.A ≠ some n.g) : At w' up' n' ks' := by
  have hl : ks'.length = ks.length := by have := congrArg List.length hk; simpa [ptrs] using this
  have hr : ∀ k, n'.row k = n.row k := fun k => by unfold Nd.row; rw [hA, hc]
  refine ⟨by rw [hg]; exact hh, ?_⟩
  rw [hr, hl, hk]
  exact own_same h.r fun b hb => by
    rw [ownBlock_row] at hb
    exact ho.block b (h.lt b (by simp [hb])) (by simp; rintro rfl; exact hAg hb)
theorem At.setXY {w : World} {up : Option Nat} {n : Nd} {ks : List T} (h : At w up n ks) (hAg : n.A ≠ some n.g) (x y : Int) :
    At ((w.setCell ⟨n.g, 1, none⟩ (.int .i64 x)).setCell ⟨n.g, 2, none⟩ (.int .i64 y)) up { n with x := x, y := y } ks :=
  h.upd rfl rfl rfl rfl ((Off.set w ⟨n.g, 1, none⟩ _).trans (Off.set _ ⟨n.g, 2, none⟩ _) (by simp)) (heap_set (heap_set h.h _) _) hAg

/-- Where a loop over kids stands: those ahead are laid. -/
structure PlI (w : World) (up : Option Nat) (n : Nd) (ks : List T) (x y : Int) (j : Nat) (x' y' : Int) (wr : World) : Prop where
  a : At wr up { n with x := x, y := y } ks
  l : TPs wr (some n.g) ((placeL n.way ks x y).take j)
  r : TPs wr (some n.g) (ks.drop j)
  e : placeL n.way ks x y = (placeL n.way ks x y).take j ++ placeL n.way (ks.drop j) x' y'
  b : wr.heap[w.heap.size]? = some (.cells #[.int .i64 x', .int .i64 y'] 56 (0, 0))
  o : Off (n.g :: blL ks) w wr

theorem PlI.step {w wr w1 w2 : World} {up : Option Nat} {n : Nd} {ks : List T} {x y x' y' : Int} {j : Nat} {k : T} (h : PlI w up n ks x y j x' y' wr) (hk : ks[j]? = some k) (hdrop : ks.drop j = k :: ks.drop (j + 1))
    (hb : ∀ b ∈ n.g :: (n.A.toList ++ blL ks), b < w.heap.size) (hkN : (∀ b ∈ k.bl, b ∉ blL (ks.take j)) ∧ (∀ b ∈ k.bl, b ∉ blL (ks.drop (j + 1)))) (hgK : n.g ∉ blL ks) (hAK : ∀ b, n.A = some b → b ∉ blL ks)
    (hT : TP w1 (some n.g) (k.place x' y')) (o1 : Off k.bl wr w1) (o2 : Off [w.heap.size] w1 w2)
    (hb2 : w2.heap[w.heap.size]? = some (.cells #[.int .i64 (nx n.way k.n x'), .int .i64 (ny n.way k.n y')] 56 (0, 0))) :
    PlI w up n ks x y (j + 1) (nx n.way k.n x') (ny n.way k.n y') w2 ∧ At w1 up { n with x := x, y := y } ks ∧ w1.heap[w.heap.size]? = some (.cells #[.int .i64 x', .int .i64 y'] 56 (0, 0)) := by
  have hmem : k ∈ ks := List.mem_of_getElem? hk
  have hkK : ∀ b ∈ k.bl, b ∈ blL ks := fun b hb => mem_blL.2 ⟨k, hmem, hb⟩
  have hkw : ∀ b ∈ k.bl, b < w.heap.size := fun b h1 => hb b (by simp [hkK b h1])
  have hsr : w.heap.size < wr.heap.size := lt_of_heap h.b
  have o3 : Off (k.bl ++ [w.heap.size]) wr w2 := (o1.sub (S' := k.bl ++ [w.heap.size]) (by intro b hb; simp [hb])).trans o2 (by simp)
  have hA1 : At w1 up { n with x := x, y := y } ks := h.a.same fun b hb' => o1.block b (h.a.lt b hb') (fun hm => by
    rcases List.mem_cons.1 hb' with rfl | h2
    · exact hgK (hkK _ hm)
    · exact hAK b (by simpa using h2) (hkK _ hm))
  refine ⟨⟨?_, ?_, ?_, ?_, hb2, ?_⟩, hA1, (o1.block _ hsr (fun hm => by have := hkw _ hm; omega)).trans h.b⟩
  · exact hA1.same fun b hb' => o2.block b (hA1.lt b hb') (by
      have : b < w.heap.size := hb b (by
        rcases List.mem_cons.1 hb' with rfl | h2
        · exact List.mem_cons_self ..
        · exact List.mem_cons_of_mem _ (List.mem_append_left _ h2))
      simp; omega)
  · have e1 : (placeL n.way ks x y)[j]? = some (k.place x' y') := by
      rw [h.e, hdrop, placeL_cons, List.getElem?_append_right (by rw [List.length_take]; omega)]
      have : ((placeL n.way ks x y).take j).length = j := by
        rw [List.length_take, placeL_len]; have := (List.getElem?_eq_some_iff.1 hk).1; omega
      rw [this, Nat.sub_self]; rfl
    rw [take_succ' e1, TPs_app]
    refine ⟨h.l.off o3 fun b hb' => ?_, ?_⟩
    · have hm : b ∈ blL ks := by
        have : b ∈ blL (placeL n.way ks x y) := by rw [← List.take_append_drop j (placeL n.way ks x y), blL_app]; simp [hb']
        rwa [placeL_bl] at this
      have hlt := hb b (by simp [hm])
      have hl2 : blL ((placeL n.way ks x y).take j) = blL (ks.take j) := by
        have e2 := congrArg blL h.e
        rw [blL_app, placeL_bl, placeL_bl] at e2
        have e3 : blL ks = blL (ks.take j) ++ blL (ks.drop j) := by rw [← blL_app, List.take_append_drop]
        rw [e3] at e2
        exact (List.append_cancel_right e2).symm
      rw [hl2] at hb'
      simp only [List.mem_append, List.mem_singleton]
      rintro (h1 | h1)
      · exact hkN.1 b h1 hb'
      · omega
    · rw [TPs, TPs]
      refine ⟨hT.off o2 (fun b hb' => ?_), trivial⟩
      rw [T.place_bl] at hb'
      have := hkw b hb'
      simp; omega
  · refine TPs.off (show TPs wr (some n.g) (ks.drop (j + 1)) from ?_) o3 fun b hb' => ?_
    · have := h.r; rw [hdrop, TPs] at this; exact this.2
    · have hlt := hb b (by
        have : b ∈ blL ks := by rw [← List.take_append_drop (j + 1) ks, blL_app]; simp [hb']
        simp [this])
      simp only [List.mem_append, List.mem_singleton]
      rintro (h1 | h1)
      · exact hkN.2 b h1 hb'
      · omega
  · rw [h.e, hdrop, placeL_cons]
    have hl1 : ((placeL n.way ks x y).take j).length = j := by
      rw [List.length_take, placeL_len]; have := (List.getElem?_eq_some_iff.1 hk).1; omega
    have e2 : (placeL n.way ks x y).take j ++ k.place x' y' :: placeL n.way (ks.drop (j + 1)) (nx n.way k.n x') (ny n.way k.n y') = ((placeL n.way ks x y).take j ++ [k.place x' y']) ++ placeL n.way (ks.drop (j + 1)) (nx n.way k.n x') (ny n.way k.n y') := by simp
    have hl3 : ((placeL n.way ks x y).take j ++ [k.place x' y']).length = j + 1 := by rw [List.length_append, hl1]; rfl
    rw [e2, List.take_append_of_le_length (by omega), ← hl3, List.take_length]
  · exact h.o.trans o3 (by
      intro b hb'
      simp only [List.mem_append, List.mem_singleton] at hb'
      rcases hb' with h1 | rfl
      · exact .inl (by simp [hkK b h1])
      · exact .inr (Nat.le_refl _))

set_option maxHeartbeats 1000000 in
set_option maxRecDepth 100000 in
theorem place_any : ∀ (t : T) (up : Option Nat) (x y : Int) (w : World), TP w up t → t.bl.Nodup → t.w01 →
    Calls Tryd.prog 36 #[ptr t.g, .agg #[.int .i64 x, .int .i64 y]] w fun e w' => e = .returned (.tuple #[]) ∧ TP w' up (t.place x y) ∧ Off t.bl w w' := by
  intro t
  induction t using T.ind with
  | h n ks ih =>
    intro up x y w hT hN hW
    have hAt := hT.at_
    have hK := hT.kids
    have hlt : n.g < w.heap.size := hAt.lt _ (by simp)
    have hKlt : ∀ b ∈ blL ks, b < w.heap.size := fun b hb => hT.lt _ _ b (by rw [T.bl_mk]; simp [hb])
    have hAlt : ∀ b, n.A = some b → b < w.heap.size := fun b hb => hAt.lt _ (by simp [hb])
    have hsm := hAt.small
    rw [T.bl_mk] at hN
    have hgK : n.g ∉ blL ks := fun h => (List.nodup_cons.1 hN).1 (by simp [h])
    have hgA : ∀ b, n.A = some b → b ≠ n.g := fun b hb e => (List.nodup_cons.1 hN).1 (by subst e; simp [hb])
    have hAK : ∀ b, n.A = some b → b ∉ blL ks := fun b hb h => (List.nodup_append.1 (List.nodup_cons.1 hN).2).2.2 b (by simp [hb]) b h rfl
    have hKN : (blL ks).Nodup := (List.nodup_append.1 (List.nodup_cons.1 hN).2).2.1
    have hw01 := hW.n
    obtain ⟨len, hln⟩ : ∃ len, len = ks.length := ⟨_, rfl⟩
    -- the world at the loop's head
    have hAg : n.A ≠ some n.g := fun e => hgA _ e rfl
    obtain ⟨W0, hW0⟩ : ∃ W0, W0 = (w.setCell ⟨n.g, 1, none⟩ (.int .i64 x)).setCell ⟨n.g, 2, none⟩ (.int .i64 y) := ⟨_, rfl⟩
    have o0 : Off [n.g] w W0 := by rw [hW0]; exact (Off.set w ⟨n.g, 1, none⟩ _).trans (Off.set _ ⟨n.g, 2, none⟩ _) (by simp)
    have hs0 : W0.heap.size = w.heap.size := by rw [hW0]; simp
    have hI0 : PlI w up n ks x y 0 x y (W0.alloc (.cells #[.int .i64 x, .int .i64 y] 56)) := by
      have g0 := World.grownBy_alloc W0 (.cells #[.int .i64 x, .int .i64 y] 56) none
      have hA0 : At W0 up { n with x := x, y := y } ks := by rw [hW0]; exact hAt.setXY hAg x y
      have o1 := o0.trans (S' := []) (Off.of_grown g0) (by simp)
      refine ⟨hA0.same fun b hb => g0.block b (hA0.lt b hb) (by simp), by rw [List.take_zero, TPs]; trivial, ?_, by simp, ?_, o1.sub (by simp)⟩
      · rw [List.drop_zero]
        exact hK.off o1 fun b hb => by simp; rintro rfl; exact hgK hb
      · rw [← hs0]
        exact heap_alloc_new W0 _
    have f10 := hAt.free 1
    have f11 := hAt.free 2
    have c1 := hAt.c1
    have c2 := hAt.c2
    have c6 := hAt.c6
    replace hI0 := Lib.hid hI0
    obtain ⟨AA, hAA⟩ : ∃ AA, AA = adr n.A := ⟨_, rfl⟩
    rw [← hln, ← hAA] at c6
    rw [← hln] at hsm
    replace hln := Lib.hid hln; replace hAt := Lib.hid hAt; replace hK := Lib.hid hK; replace ih := Lib.hid ih; replace hAA := Lib.hid hAA; replace hT := Lib.hid hT
    replace hKlt := Lib.hid hKlt; replace hAlt := Lib.hid hAlt; replace hgA := Lib.hid hgA; replace hAK := Lib.hid hAK; replace hKN := Lib.hid hKN; replace hgK := Lib.hid hgK; replace hN := Lib.hid hN; replace hAg := Lib.hid hAg; replace hW := Lib.hid hW; replace hw01 := Lib.hid hw01
    show Calls Tryd.prog 36 #[ptr n.g, .agg #[.int .i64 x, .int .i64 y]] w _
    unfold ptr
    go_enter Tryd.func36, Tryd.ntmps36
    go_upto_region 2 with fail
    rw [← hW0]
    clear hW0 o0 hs0 f10 f11 c1 c2
    have c6' := hI0.out.a.c6
    rw [← hln.out] at c6'
    change World.cell? _ ⟨n.g, 6, none⟩ = some (.slice (adr n.A) len n.c) at c6'
    rw [← hAA.out] at c6'
    clear c6
    generalize W0.alloc (.cells #[.int .i64 x, .int .i64 y] 56) = W1 at *
    go_wp2_with fail
    go_loopw [15] (fun iv wr => ∃ j : Nat, j ≤ len ∧ iv = .int .i64 j ∧ ∃ x' y', Hid (PlI w up n ks x y j x' y' wr)) (fun iv _ => len - (intOf iv).toNat)
    case atStart => exact ⟨0, Nat.zero_le _, rfl, x, y, hI0⟩
    case round =>
      obtain ⟨j, hj, rfl, x', y', hI⟩ := hrel
      by_cases hlt2 : j < len
      · obtain ⟨k, hk⟩ : ∃ k, ks[j]? = some k := ⟨ks[j]'(by rw [← hln.out]; exact hlt2), List.getElem?_eq_getElem _⟩
        obtain ⟨b, hA, hc⟩ := hI.out.a.kid hk
        have hmem : k ∈ ks := List.mem_of_getElem? hk
        have hdrop : ks.drop j = k :: ks.drop (j + 1) := by
          obtain ⟨h1, h2⟩ := List.getElem?_eq_some_iff.1 hk
          rw [List.drop_eq_getElem_cons h1, h2]
        have hAb : AA = some ⟨b, 0, none⟩ := by rw [hAA.out]; show adr n.A = _; rw [show n.A = some b from hA]; rfl
        subst hAb
        have hbx := hI.out.b
        have b0 : wr.cell? ⟨w.heap.size, 0, none⟩ = some (.int .i64 x') := by simp [World.cell?, hbx]
        have b1 : wr.cell? ⟨w.heap.size, 1, none⟩ = some (.int .i64 y') := by simp [World.cell?, hbx]
        have hkT : TP wr (some n.g) k := TPs_iff.1 (hdrop ▸ hI.out.r) k (by simp)
        have hkN : k.bl.Nodup ∧ (∀ b ∈ k.bl, b ∉ blL (ks.take j)) ∧ (∀ b ∈ k.bl, b ∉ blL (ks.drop (j + 1))) := by
          have := hKN.out
          rw [← List.take_append_drop j ks, hdrop, blL_app, blL_cons] at this
          obtain ⟨_, h2, h3⟩ := List.nodup_append.1 this
          obtain ⟨h4, _, h6⟩ := List.nodup_append.1 h2
          exact ⟨h4, fun b hb hb' => h3 b hb' b (by simp [hb]) rfl, fun b hb hb' => h6 b hb b hb' rfl⟩
        have CK := Lib.hid (ih.out k hmem (some n.g) x' y' wr hkT hkN.1 (hW.out.k hmem))
        have hkK : ∀ b ∈ k.bl, b ∈ blL ks := fun b hb => mem_blL.2 ⟨k, hmem, hb⟩
        replace hk := Lib.hid hk; replace hdrop := Lib.hid hdrop; replace hbx := Lib.hid hbx; replace hkT := Lib.hid hkT; replace hkN := Lib.hid hkN; replace hkK := Lib.hid hkK; replace hA := Lib.hid hA
        unfold ptr at hc CK
        go_wp2_with fail
        refine CK.out.mono ?_
        rintro e w1 ⟨rfl, hT1, o1⟩
        have hbL : ∀ b ∈ n.g :: (n.A.toList ++ blL ks), b < w.heap.size := fun b hb => by
          simp only [List.mem_cons, List.mem_append] at hb
          rcases hb with rfl | hb | hb
          · exact hlt
          · exact hAlt.out b (by simpa using hb)
          · exact hKlt.out b hb
        have hst := fun w2 o2 h2 => hI.out.step (w2 := w2) hk.out hdrop.out hbL hkN.out.2 hgK.out hAK.out hT1 o1 o2 h2
        have hA1 : At w1 up { n with x := x, y := y } ks := hI.out.a.same fun b hb' => o1.block b (hI.out.a.lt b hb') (fun hm => by
          rcases List.mem_cons.1 hb' with rfl | h2
          · exact hgK.out (hkK.out _ hm)
          · exact hAK.out b (by simpa using h2) (hkK.out _ hm))
        have hbx1 : w1.heap[w.heap.size]? = some (.cells #[.int .i64 x', .int .i64 y'] 56 (0, 0)) := (o1.block _ (lt_of_heap hbx.out) (fun hm => by have := hKlt.out _ (hkK.out _ hm); omega)).trans hbx.out
        have d0 : w1.cell? ⟨w.heap.size, 0, none⟩ = some (.int .i64 x') := by simp [World.cell?, hbx1]
        have d1 : w1.cell? ⟨w.heap.size, 1, none⟩ = some (.int .i64 y') := by simp [World.cell?, hbx1]
        have d2 : ∀ j, w1.frozen? ⟨w.heap.size, j, none⟩ = false := fun j => by simp [World.frozen?, hbx1]
        have d20 := d2 0
        have d21 := d2 1
        have hkA : At w1 (some n.g) { k.n with x := x', y := y' } (placeL k.n.way k.ks x' y') := by
          have := hT1
          cases k
          rw [T.place_mk] at this
          exact this.at_
        have k3 : w1.cell? ⟨k.g, 3, none⟩ = some (.int .i64 k.n.a) := hkA.c3
        have k4 : w1.cell? ⟨k.g, 4, none⟩ = some (.int .i64 k.n.b) := hkA.c4
        have n5 : w1.cell? ⟨n.g, 5, none⟩ = some (.int .i64 n.way) := hA1.c5
        have hsz := lt_of_heap hbx1
        replace hst := Lib.hid hst; replace hA1 := Lib.hid hA1; replace hbx1 := Lib.hid hbx1; replace hkA := Lib.hid hkA; replace hT1 := Lib.hid hT1; replace o1 := Lib.hid o1; replace hbL := Lib.hid hbL
        clear d2 b0 b1 hc CK
        rcases hw01.out with hw | hw
        · rw [hw] at n5
          replace hw := Lib.hid hw
          go_upto_region 6 with fail
          go_still_tail 18, (by kernel_rfl)
          change wpList _ _ _ _ _ w1.drew
          go_wp2_with fail
          have hq := hst.out (w1.drew.setCell ⟨w.heap.size, 0, none⟩ (.int .i64 (nx n.way k.n x'))) ((Off.drew (S := [w.heap.size]) w1).trans (Off.set w1.drew ⟨w.heap.size, 0, none⟩ _) (by simp)) (by
            have := heap_set (w := w1.drew) (j := 0) hbx1.out (.int .i64 (nx n.way k.n x'))
            rw [this]
            simp [ny, hw.out])
          refine ⟨⟨j + 1, by omega, by go_num, nx n.way k.n x', ny n.way k.n y', ?_⟩, by simp [intOf]; omega⟩
          refine Lib.hid ?_
          have := hq.1
          simp only [nx, hw.out, if_true, wr64] at this ⊢
          exact this
        · rw [hw] at n5
          replace hw := Lib.hid hw
          go_upto_region 6 with fail
          go_still_tail 18, (by kernel_rfl)
          change wpList _ _ _ _ _ w1.drew
          go_wp2_with fail
          have hq := hst.out (w1.drew.setCell ⟨w.heap.size, 1, none⟩ (.int .i64 (ny n.way k.n y'))) ((Off.drew (S := [w.heap.size]) w1).trans (Off.set w1.drew ⟨w.heap.size, 1, none⟩ _) (by simp)) (by
            have := heap_set (w := w1.drew) (j := 1) hbx1.out (.int .i64 (ny n.way k.n y'))
            rw [this]
            simp [nx, hw.out])
          refine ⟨⟨j + 1, by omega, by go_num, nx n.way k.n x', ny n.way k.n y', ?_⟩, by simp [intOf]; omega⟩
          refine Lib.hid ?_
          have := hq.1
          simp only [ny, nx, hw.out, Int.reduceEq, if_false, wr64] at this ⊢
          exact this
      · have : j = len := by omega
        subst this
        go_wp2_with fail
        go_end0
        refine ⟨rfl, ?_, ?_⟩
        · rw [T.place_mk]
          refine .mk ?_ ?_
          · exact ⟨by have := hI.out.a.h; rw [placeL_len]; exact this, by have := hI.out.a.r; rw [placeL_ptrs, placeL_len]; exact this⟩
          · have := hI.out.l
            rwa [List.take_of_length_le (by rw [placeL_len, hln.out]; exact Nat.le_refl _)] at this
        · exact hI.out.o.sub fun b hb => .inl (by
            rw [T.bl_mk]
            rcases List.mem_cons.1 hb with rfl | hb
            · simp
            · simp [hb])
end Go.Proofs.YtcklmkjlbpjojaaDoor
