/- Layout: place; what is turned at a place; of a tree whose rows may share a block. -/
import Derived.Test.YtcklmkjlbpjojaaDoorXC
import Derived.Test.YtcklmkjlbpjojaaDoorE2c
namespace Go.Proofs.YtcklmkjlbpjojaaDoor.X
open Go.RowKit
set_option linter.unusedSimpArgs false
set_option linter.unusedVariables false
variable {G : Gh}

/-- Where a loop over kids stands: those ahead are laid. -/
structure PlI (G : Gh) (w : World) (up : Option Nat) (n : Nd) (ks : List T) (x y : Int) (j : Nat) (x' y' : Int) (wr : World) : Prop where
  a : At G wr up { n with x := x, y := y } ks
  l : TPs G wr (some n.g) ((placeL n.way ks x y).take j)
  r : TPs G wr (some n.g) (ks.drop j)
  e : placeL n.way ks x y = (placeL n.way ks x y).take j ++ placeL n.way (ks.drop j) x' y'
  b : wr.heap[w.heap.size]? = some (.cells #[.int .i64 x', .int .i64 y'] 56 (0, 0))
  o : Off G (n.g :: blL ks) w wr

theorem PlI.step {w wr w1 w2 : World} {up : Option Nat} {n : Nd} {ks : List T} {x y x' y' : Int} {j : Nat} {k : T} (h : PlI G w up n ks x y j x' y' wr) (hk : ks[j]? = some k) (hdrop : ks.drop j = k :: ks.drop (j + 1))
    (hb : ∀ b ∈ n.g :: (n.A.toList ++ blL ks), b < w.heap.size) (hkN : (∀ b ∈ k.bl, b ∉ blL (ks.take j)) ∧ (∀ b ∈ k.bl, b ∉ blL (ks.drop (j + 1)))) (hgK : n.g ∉ blL ks) (hAK : ∀ b, n.A = some b → b ∉ blL ks)
    (hT : TP G w1 (some n.g) (k.place x' y')) (o1 : Off G k.bl wr w1) (o2 : Off G [w.heap.size] w1 w2)
    (hb2 : w2.heap[w.heap.size]? = some (.cells #[.int .i64 (nx n.way k.n x'), .int .i64 (ny n.way k.n y')] 56 (0, 0))) :
    PlI G w up n ks x y (j + 1) (nx n.way k.n x') (ny n.way k.n y') w2 ∧ At G w1 up { n with x := x, y := y } ks ∧ w1.heap[w.heap.size]? = some (.cells #[.int .i64 x', .int .i64 y'] 56 (0, 0)) := by
  have hmem : k ∈ ks := List.mem_of_getElem? hk
  have hkK : ∀ b ∈ k.bl, b ∈ blL ks := fun b hb => mem_blL.2 ⟨k, hmem, hb⟩
  have hkw : ∀ b ∈ k.bl, b < w.heap.size := fun b h1 => hb b (by simp [hkK b h1])
  have hsr : w.heap.size < wr.heap.size := lt_of_heap h.b
  have o3 : Off G (k.bl ++ [w.heap.size]) wr w2 := (o1.sub (S' := k.bl ++ [w.heap.size]) (by intro b hb; simp [hb])).trans o2 (by simp)
  have hA1 : At G w1 up { n with x := x, y := y } ks := h.a.off o1 (fun b hb' hm => by
    rcases List.mem_cons.1 hb' with rfl | h2
    · exact hgK (hkK _ hm)
    · exact hAK b (by simpa using h2) (hkK _ hm))
  refine ⟨⟨?_, ?_, ?_, ?_, hb2, ?_⟩, hA1, (o1.wh (G.fresh h.o.m) hsr (fun hm => by have := hkw _ hm; omega)).trans h.b⟩
  · exact hA1.off o2 (fun b hb' => by
      have : b < w.heap.size := hb b (by
        rcases List.mem_cons.1 hb' with rfl | h2
        · exact List.mem_cons_self ..
        · exact List.mem_cons_of_mem _ (List.mem_append_left _ h2))
      simp; omega)
  · have e1 : (placeL n.way ks x y)[j]? = some (k.place x' y') := by
      rw [h.e, hdrop, placeL_cons, List.getElem?_append_right (by rw [List.length_take]; omega)]
      have : ((placeL n.way ks x y).take j).length = j := by
        rw [List.length_take, placeL_len]; have := (List.getElem?_eq_some_iff.1 hk).1; omega
      rw [this, Nat.sub_self]; rfl
    rw [take_succ' e1, TPs_app]
    refine ⟨h.l.off o3 fun b hb' => ?_, ?_⟩
    · have hm : b ∈ blL ks := by
        have : b ∈ blL (placeL n.way ks x y) := by rw [← List.take_append_drop j (placeL n.way ks x y), blL_app]; simp [hb']
        rwa [placeL_bl] at this
      have hlt := hb b (by simp [hm])
      have hl2 : blL ((placeL n.way ks x y).take j) = blL (ks.take j) := by
        have e2 := congrArg blL h.e
        rw [blL_app, placeL_bl, placeL_bl] at e2
        have e3 : blL ks = blL (ks.take j) ++ blL (ks.drop j) := by rw [← blL_app, List.take_append_drop]
        rw [e3] at e2
        exact (List.append_cancel_right e2).symm
      rw [hl2] at hb'
      simp only [List.mem_append, List.mem_singleton]
      rintro (h1 | h1)
      · exact hkN.1 b h1 hb'
      · omega
    · rw [TPs, TPs]
      refine ⟨hT.off o2 (fun b hb' => ?_), trivial⟩
      rw [T.place_bl] at hb'
      have := hkw b hb'
      simp; omega
  · refine TPs.off (show TPs G wr (some n.g) (ks.drop (j + 1)) from ?_) o3 fun b hb' => ?_
    · have := h.r; rw [hdrop, TPs] at this; exact this.2
    · have hlt := hb b (by
        have : b ∈ blL ks := by rw [← List.take_append_drop (j + 1) ks, blL_app]; simp [hb']
        simp [this])
      simp only [List.mem_append, List.mem_singleton]
      rintro (h1 | h1)
      · exact hkN.2 b h1 hb'
      · omega
  · rw [h.e, hdrop, placeL_cons]
    have hl1 : ((placeL n.way ks x y).take j).length = j := by
      rw [List.length_take, placeL_len]; have := (List.getElem?_eq_some_iff.1 hk).1; omega
    have e2 : (placeL n.way ks x y).take j ++ k.place x' y' :: placeL n.way (ks.drop (j + 1)) (nx n.way k.n x') (ny n.way k.n y') = ((placeL n.way ks x y).take j ++ [k.place x' y']) ++ placeL n.way (ks.drop (j + 1)) (nx n.way k.n x') (ny n.way k.n y') := by simp
    have hl3 : ((placeL n.way ks x y).take j ++ [k.place x' y']).length = j + 1 := by rw [List.length_append, hl1]; rfl
    rw [e2, List.take_append_of_le_length (by omega), ← hl3, List.take_length]
  · exact h.o.trans o3 (by
      intro b hb'
      simp only [List.mem_append, List.mem_singleton] at hb'
      rcases hb' with h1 | rfl
      · exact .inl (by simp [hkK b h1])
      · exact .inr (Nat.le_refl _))

/-- What lies round a place whose node is at g. -/
def CP (G : Gh) (w : World) : List Fr → T → Prop
  | [], _ => True
  | f :: c, t => At G w (upOf c) f.n (f.L ++ t :: f.R) ∧ TPs G w (some f.n.g) f.L ∧ TPs G w (some f.n.g) f.R ∧ CP G w c (.mk f.n (f.L ++ t :: f.R))
theorem TP_plug {w : World} : ∀ (c : List Fr) (t : T), TP G w none (plug c t) ↔ CP G w c t ∧ TP G w (upOf c) t
  | [], t => by simp [plug, CP, upOf]
  | f :: c, t => by
    rw [plug, TP_plug c, CP]
    constructor
    · rintro ⟨h1, h2⟩
      have hk := h2.kids
      rw [TPs_app, TPs] at hk
      exact ⟨⟨h2.at_, hk.1, hk.2.2, h1⟩, hk.2.1⟩
    · rintro ⟨⟨h1, h2, h3, h4⟩, h5⟩
      exact ⟨h4, .mk h1 (by rw [TPs_app, TPs]; exact ⟨h2, h5, h3⟩)⟩
theorem CP.other {w w' : World} : ∀ (c : List Fr) (t t' : T), CP G w c t → t'.g = t.g → w.heap.size ≤ w'.heap.size → (∀ b ∈ cbl c, Kp G w w' b) → CP G w' c t'
  | [], t, t', _, _, _, _ => trivial
  | f :: c, t, t', ⟨h1, h2, h3, h4⟩, hg, hz, hs => by
    rw [cbl] at hs
    refine ⟨(h1.same hz fun b hb => hs b (by simp only [List.mem_append]; exact .inl (.inl hb))).congr (by simp [ptrs, hg]), TPs_iff.2 fun k hk => (TPs_iff.1 h2 k hk).same _ _ hz fun b hb => hs b ?_, TPs_iff.2 fun k hk => (TPs_iff.1 h3 k hk).same _ _ hz fun b hb => hs b ?_, CP.other c _ _ h4 rfl hz fun b hb => hs b (by simp [hb])⟩
    · simp only [List.mem_append]; exact .inl (.inr (.inl (mem_blL.2 ⟨k, hk, hb⟩)))
    · simp only [List.mem_append]; exact .inl (.inr (.inr (mem_blL.2 ⟨k, hk, hb⟩)))
/-- What is turned at a place, the node's block kept. -/
theorem Tr.focus {base tr : Nat} {w w' : World} {c : List Fr} {t t' : T} {S : List Nat} (h : Tr G base w tr (plug c t)) (ho : Off G S w w') (hS : ∀ b ∈ S, b ∈ t.bl ∨ w.heap.size ≤ b)
    (hT : TP G w' (upOf c) t') (hg : t'.g = t.g) (hN : t'.bl.Nodup) (hb : ∀ b ∈ t'.bl, b ∈ t.bl ∨ w.heap.size ≤ b) (hbase : base ≤ w.heap.size) : Tr G base w' tr (plug c t') := by
  have hp := perm_plug c t
  have hp' := perm_plug c t'
  have hnd := hp.nodup_iff.1 h.nd
  obtain ⟨n1, n2, n3⟩ := List.nodup_append.1 hnd
  have hlt : ∀ b ∈ cbl c ++ t.bl, b < w.heap.size := fun b hb' => h.p.lt _ _ b (hp.mem_iff.2 hb')
  have hcS : ∀ b ∈ cbl c, b ∉ S := fun b hb' hm => by
    rcases hS b hm with h1 | h1
    · exact n3 b hb' b h1 rfl
    · have := hlt b (by simp [hb']); omega
  have hcl : ∀ b ∈ cbl c, Kp G w w' b := fun b hb' => ho.kp (hcS b hb')
  have htr := h.lt
  have htrS : tr ∉ S := fun hm => by
    rcases hS tr hm with h1 | h1
    · exact h.nt (hp.mem_iff.2 (by simp [h1]))
    · omega
  have hpt := (TP_plug c t).1 h.p
  refine ⟨?_, (TP_plug c t').2 ⟨CP.other c t t' hpt.1 hg ho.size hcl, hT⟩, ?_, ?_, ⟨h.lo.1, ?_⟩, h.q, h.gl⟩
  · have e : (plug c t').g = (plug c t).g := by
      rcases c with _ | ⟨f, c⟩
      · exact hg
      · have : ∀ (c : List Fr) (a b : T), a.g = b.g → (plug c a).g = (plug c b).g := by
          intro c
          induction c with
          | nil => intro a b h; exact h
          | cons f c ih => intro a b _; rw [plug, plug]; exact ih _ _ rfl
        exact this _ _ _ hg
    rw [e, ho.wh h.q htr htrS]; exact h.h
  · refine hp'.nodup_iff.2 (List.nodup_append.2 ⟨n1, hN, ?_⟩)
    rintro b hb1 b' hb2 rfl
    rcases hb b hb2 with h1 | h1
    · exact n3 b hb1 b h1 rfl
    · have := hlt b (by simp [hb1]); omega
  · intro hm
    rcases List.mem_append.1 (hp'.mem_iff.1 hm) with h1 | h1
    · exact h.nt (hp.mem_iff.2 (by simp [h1]))
    · rcases hb tr h1 with h2 | h2
      · exact h.nt (hp.mem_iff.2 (by simp [h2]))
      · omega
  · intro b hm
    rcases List.mem_append.1 (hp'.mem_iff.1 hm) with h1 | h1
    · exact h.lo.2 b (hp.mem_iff.2 (by simp [h1]))
    · rcases hb b h1 with h2 | h2
      · exact h.lo.2 b (hp.mem_iff.2 (by simp [h2]))
      · omega
theorem Tr.off {base tr : Nat} {w w' : World} {t : T} {S : List Nat} (h : Tr G base w tr t) (ho : Off G S w w') (h1 : tr ∉ S) (h2 : ∀ b ∈ t.bl, b ∉ S) : Tr G base w' tr t :=
  ⟨(ho.wh h.q h.lt h1).trans h.h, h.p.off ho h2, h.nd, h.nt, h.lo, h.q, h.gl⟩
/-- What is turned at a place, with blocks that lie outside of the tree. -/
theorem Tr.focus2 {base tr : Nat} {w w' : World} {c : List Fr} {t t' : T} {S : List Nat} (h : Tr G base w tr (plug c t)) (ho : Off G S w w') (hS : ∀ b ∈ S, b ∉ cbl c ∧ b ≠ tr)
    (hT : TP G w' (upOf c) t') (hg : t'.g = t.g) (hN : t'.bl.Nodup) (hb : ∀ b ∈ t'.bl, b ∉ cbl c ∧ b ≠ tr ∧ base ≤ b) : Tr G base w' tr (plug c t') := by
  have hp := perm_plug c t
  have hp' := perm_plug c t'
  have hnd := hp.nodup_iff.1 h.nd
  obtain ⟨n1, n2, n3⟩ := List.nodup_append.1 hnd
  have hlt : ∀ b ∈ cbl c ++ t.bl, b < w.heap.size := fun b hb' => h.p.lt _ _ b (hp.mem_iff.2 hb')
  have hcl : ∀ b ∈ cbl c, Kp G w w' b := fun b hb' => ho.kp (fun hm => (hS b hm).1 hb')
  have hpt := (TP_plug c t).1 h.p
  refine ⟨?_, (TP_plug c t').2 ⟨CP.other c t t' hpt.1 hg ho.size hcl, hT⟩, ?_, ?_, ⟨h.lo.1, ?_⟩, h.q, h.gl⟩
  · rw [plug_g c _ _ hg, ho.wh h.q h.lt (fun hm => (hS tr hm).2 rfl)]; exact h.h
  · refine hp'.nodup_iff.2 (List.nodup_append.2 ⟨n1, hN, ?_⟩)
    rintro b hb1 b' hb2 rfl
    exact (hb b hb2).1 hb1
  · intro hm
    rcases List.mem_append.1 (hp'.mem_iff.1 hm) with h1 | h1
    · exact h.nt (hp.mem_iff.2 (by simp [h1]))
    · exact (hb tr h1).2.1 rfl
  · intro b hm
    rcases List.mem_append.1 (hp'.mem_iff.1 hm) with h1 | h1
    · exact h.lo.2 b (hp.mem_iff.2 (by simp [h1]))
    · exact (hb b h1).2.2
/-- What is known of a place's blocks. -/
theorem Tr.apart {base tr : Nat} {w : World} {c : List Fr} {t : T} (h : Tr G base w tr (plug c t)) : t.bl.Nodup ∧ (∀ b ∈ t.bl, b ∉ cbl c ∧ b ≠ tr ∧ base ≤ b ∧ b < w.heap.size) ∧ (∀ b ∈ cbl c, b < w.heap.size ∧ b ≠ tr) := by
  have hp := perm_plug c t
  obtain ⟨n1, n2, n3⟩ := List.nodup_append.1 (hp.nodup_iff.1 h.nd)
  have hm : ∀ b ∈ t.bl, b ∈ (plug c t).bl := fun b hb => hp.mem_iff.2 (by simp [hb])
  refine ⟨n2, fun b hb => ⟨fun hc => n3 b hc b hb rfl, ?_, h.lo.2 b (hm b hb), h.p.lt _ _ b (hm b hb)⟩, fun b hb => ⟨h.p.lt _ _ b (hp.mem_iff.2 (by simp [hb])), ?_⟩⟩
  · rintro rfl; exact h.nt (hm _ hb)
  · rintro rfl; exact h.nt (hp.mem_iff.2 (by simp [hb]))
theorem Tr.placed {base tr : Nat} {w w' : World} {t : T} (h : Tr G base w tr t) (hp : TP G w' none (t.place 0 0)) (ho : Off G t.bl w w') : Tr G base w' tr (t.place 0 0) :=
  ⟨by rw [T.place_g, ho.wh h.q h.lt h.nt]; exact h.h, hp, by rw [T.place_bl]; exact h.nd, by rw [T.place_bl]; exact h.nt, by rw [T.place_bl]; exact h.lo, h.q, h.gl⟩
theorem Tr.turned {base tr : Nat} {w w' : World} {t t' : T} (h : Tr G base w tr t) (hp : TP G w' none t') (ho : Off G t.bl w w') (hg : t'.g = t.g) (hb : t'.bl = t.bl) : Tr G base w' tr t' :=
  ⟨by rw [hg, ho.wh h.q h.lt h.nt]; exact h.h, hp, by rw [hb]; exact h.nd, by rw [hb]; exact h.nt, ⟨h.lo.1, by rw [hb]; exact h.lo.2⟩, h.q, h.gl⟩
set_option maxHeartbeats 1000000 in
set_option maxRecDepth 100000 in
theorem place_any : ∀ (t : T) (up : Option Nat) (x y : Int) (w : World), TP G w up t → t.bl.Nodup → t.w01 →
    Calls Tryd.prog 36 #[ptr t.g, .agg #[.int .i64 x, .int .i64 y]] w fun e w' => e = .returned (.tuple #[]) ∧ TP G w' up (t.place x y) ∧ Off G t.bl w w' := by
  intro t
  induction t using T.ind with
  | h n ks ih =>
    intro up x y w hT hN hW
    have hAt := hT.at_
    have hK := hT.kids
    have hlt : n.g < w.heap.size := hAt.lt _ (by simp)
    have hKlt : ∀ b ∈ blL ks, b < w.heap.size := fun b hb => hT.lt _ _ b (by rw [T.bl_mk]; simp [hb])
    have hAlt : ∀ b, n.A = some b → b < w.heap.size := fun b hb => hAt.lt _ (by simp [hb])
    have hsm := hAt.small
    rw [T.bl_mk] at hN
    have hgK : n.g ∉ blL ks := fun h => (List.nodup_cons.1 hN).1 (by simp [h])
    have hgA : ∀ b, n.A = some b → b ≠ n.g := fun b hb e => (List.nodup_cons.1 hN).1 (by subst e; simp [hb])
    have hAK : ∀ b, n.A = some b → b ∉ blL ks := fun b hb h => (List.nodup_append.1 (List.nodup_cons.1 hN).2).2.2 b (by simp [hb]) b h rfl
    have hKN : (blL ks).Nodup := (List.nodup_append.1 (List.nodup_cons.1 hN).2).2.1
    have hw01 := hW.n
    obtain ⟨len, hln⟩ : ∃ len, len = ks.length := ⟨_, rfl⟩
    -- the world at the loop's head
    have hAg : n.A ≠ some n.g := fun e => hgA _ e rfl
    obtain ⟨W0, hW0⟩ : ∃ W0, W0 = (w.setCell ⟨n.g, 1, none⟩ (.int .i64 x)).setCell ⟨n.g, 2, none⟩ (.int .i64 y) := ⟨_, rfl⟩
    have o0 : Off G [n.g] w W0 := by rw [hW0]; exact (Off.setw hAt.m hAt.q 1 _).trans (Off.setw (by simpa using hAt.m) hAt.q 2 _) (by simp)
    have hs0 : W0.heap.size = w.heap.size := by rw [hW0]; simp
    have hI0 : PlI G w up n ks x y 0 x y (W0.alloc (.cells #[.int .i64 x, .int .i64 y] 56)) := by
      have g0 := World.grownBy_alloc W0 (.cells #[.int .i64 x, .int .i64 y] 56) none
      have hA0 : At G W0 up { n with x := x, y := y } ks := by rw [hW0]; exact hAt.setXY hAg x y
      have o1 := o0.trans (S' := []) (Off.of_grown o0.m' g0) (by simp)
      refine ⟨hA0.off (S := []) (Off.of_grown hA0.m g0) (by simp), by rw [List.take_zero, TPs]; trivial, ?_, by simp, ?_, o1.sub (by simp)⟩
      · rw [List.drop_zero]
        exact hK.off o1 fun b hb => by simp; rintro rfl; exact hgK hb
      · rw [← hs0]
        exact heap_alloc_new W0 _
    have f10 := hAt.free 1
    have f11 := hAt.free 2
    have c1 := hAt.c1
    have c2 := hAt.c2
    have c6 := hAt.c6
    replace hI0 := Lib.hid hI0
    obtain ⟨AA, hAA⟩ : ∃ AA, AA = adr G n.A := ⟨_, rfl⟩
    rw [← hln, ← hAA] at c6
    rw [← hln] at hsm
    replace hln := Lib.hid hln; replace hAt := Lib.hid hAt; replace hK := Lib.hid hK; replace ih := Lib.hid ih; replace hAA := Lib.hid hAA; have hGm := Lib.hid hT.m; replace hT := Lib.hid hT
    replace hKlt := Lib.hid hKlt; replace hAlt := Lib.hid hAlt; replace hgA := Lib.hid hgA; replace hAK := Lib.hid hAK; replace hKN := Lib.hid hKN; replace hgK := Lib.hid hgK; replace hN := Lib.hid hN; replace hAg := Lib.hid hAg; replace hW := Lib.hid hW; replace hw01 := Lib.hid hw01
    show Calls Tryd.prog 36 #[ptr n.g, .agg #[.int .i64 x, .int .i64 y]] w _
    unfold ptr
    go_enter Tryd.func36, Tryd.ntmps36
    go_upto_region 2 with fail
    rw [← hW0]
    clear hW0 o0 hs0 f10 f11 c1 c2
    have c6' := hI0.out.a.c6
    rw [← hln.out] at c6'
    change World.cell? _ ⟨n.g, 6, none⟩ = some (.slice (adr G n.A) len n.c) at c6'
    rw [← hAA.out] at c6'
    clear c6
    generalize W0.alloc (.cells #[.int .i64 x, .int .i64 y] 56) = W1 at *
    go_wp2_with fail
    go_loopw [15] (fun iv wr => ∃ j : Nat, j ≤ len ∧ iv = .int .i64 j ∧ ∃ x' y', Hid (PlI G w up n ks x y j x' y' wr)) (fun iv _ => len - (intOf iv).toNat)
    case atStart => exact ⟨0, Nat.zero_le _, rfl, x, y, hI0⟩
    case round =>
      obtain ⟨j, hj, rfl, x', y', hI⟩ := hrel
      by_cases hlt2 : j < len
      · obtain ⟨k, hk⟩ : ∃ k, ks[j]? = some k := ⟨ks[j]'(by rw [← hln.out]; exact hlt2), List.getElem?_eq_getElem _⟩
        obtain ⟨b, off, hA, hc⟩ := hI.out.a.kidc hk
        have hmem : k ∈ ks := List.mem_of_getElem? hk
        have hdrop : ks.drop j = k :: ks.drop (j + 1) := by
          obtain ⟨h1, h2⟩ := List.getElem?_eq_some_iff.1 hk
          rw [List.drop_eq_getElem_cons h1, h2]
        have hAb : AA = some ⟨b, off, none⟩ := by rw [hAA.out]; exact hA
        subst hAb
        have hbx := hI.out.b
        have b0 : wr.cell? ⟨w.heap.size, 0, none⟩ = some (.int .i64 x') := by simp [World.cell?, hbx]
        have b1 : wr.cell? ⟨w.heap.size, 1, none⟩ = some (.int .i64 y') := by simp [World.cell?, hbx]
        have hkT : TP G wr (some n.g) k := TPs_iff.1 (hdrop ▸ hI.out.r) k (by simp)
        have hkN : k.bl.Nodup ∧ (∀ b ∈ k.bl, b ∉ blL (ks.take j)) ∧ (∀ b ∈ k.bl, b ∉ blL (ks.drop (j + 1))) := by
          have := hKN.out
          rw [← List.take_append_drop j ks, hdrop, blL_app, blL_cons] at this
          obtain ⟨_, h2, h3⟩ := List.nodup_append.1 this
          obtain ⟨h4, _, h6⟩ := List.nodup_append.1 h2
          exact ⟨h4, fun b hb hb' => h3 b hb' b (by simp [hb]) rfl, fun b hb hb' => h6 b hb b hb' rfl⟩
        have CK := Lib.hid (ih.out k hmem (some n.g) x' y' wr hkT hkN.1 (hW.out.k hmem))
        have hkK : ∀ b ∈ k.bl, b ∈ blL ks := fun b hb => mem_blL.2 ⟨k, hmem, hb⟩
        replace hk := Lib.hid hk; replace hdrop := Lib.hid hdrop; replace hbx := Lib.hid hbx; replace hkT := Lib.hid hkT; replace hkN := Lib.hid hkN; replace hkK := Lib.hid hkK; replace hA := Lib.hid hA
        unfold ptr at hc CK
        go_wp2_with fail
        refine CK.out.mono ?_
        rintro e w1 ⟨rfl, hT1, o1⟩
        have hbL : ∀ b ∈ n.g :: (n.A.toList ++ blL ks), b < w.heap.size := fun b hb => by
          simp only [List.mem_cons, List.mem_append] at hb
          rcases hb with rfl | hb | hb
          · exact hlt
          · exact hAlt.out b (by simpa using hb)
          · exact hKlt.out b hb
        have hst := fun w2 o2 h2 => hI.out.step (w2 := w2) hk.out hdrop.out hbL hkN.out.2 hgK.out hAK.out hT1 o1 o2 h2
        have hA1 : At G w1 up { n with x := x, y := y } ks := hI.out.a.off o1 (fun b hb' hm => by
          rcases List.mem_cons.1 hb' with rfl | h2
          · exact hgK.out (hkK.out _ hm)
          · exact hAK.out b (by simpa using h2) (hkK.out _ hm))
        have hbx1 : w1.heap[w.heap.size]? = some (.cells #[.int .i64 x', .int .i64 y'] 56 (0, 0)) := (o1.wh (G.fresh hGm.out) (lt_of_heap hbx.out) (fun hm => by have := hKlt.out _ (hkK.out _ hm); omega)).trans hbx.out
        have d0 : w1.cell? ⟨w.heap.size, 0, none⟩ = some (.int .i64 x') := by simp [World.cell?, hbx1]
        have d1 : w1.cell? ⟨w.heap.size, 1, none⟩ = some (.int .i64 y') := by simp [World.cell?, hbx1]
        have d2 : ∀ j, w1.frozen? ⟨w.heap.size, j, none⟩ = false := fun j => by simp [World.frozen?, hbx1]
        have d20 := d2 0
        have d21 := d2 1
        have hkA : At G w1 (some n.g) { k.n with x := x', y := y' } (placeL k.n.way k.ks x' y') := by
          have := hT1
          cases k
          rw [T.place_mk] at this
          exact this.at_
        have k3 : w1.cell? ⟨k.g, 3, none⟩ = some (.int .i64 k.n.a) := hkA.c3
        have k4 : w1.cell? ⟨k.g, 4, none⟩ = some (.int .i64 k.n.b) := hkA.c4
        have n5 : w1.cell? ⟨n.g, 5, none⟩ = some (.int .i64 n.way) := hA1.c5
        have hsz := lt_of_heap hbx1
        replace hst := Lib.hid hst; replace hA1 := Lib.hid hA1; replace hbx1 := Lib.hid hbx1; replace hkA := Lib.hid hkA; replace hT1 := Lib.hid hT1; replace o1 := Lib.hid o1; replace hbL := Lib.hid hbL
        clear d2 b0 b1 hc CK
        rcases hw01.out with hw | hw
        · rw [hw] at n5
          replace hw := Lib.hid hw
          go_upto_region 6 with fail
          go_still_tail 18, (by kernel_rfl)
          change wpList _ _ _ _ _ w1.drew
          go_wp2_with fail
          have hq := hst.out (w1.drew.setCell ⟨w.heap.size, 0, none⟩ (.int .i64 (nx n.way k.n x'))) ((Off.drew (S := [w.heap.size]) o1.out.m').trans (Off.setw (w := w1.drew) o1.out.m' (G.fresh hGm.out) 0 _) (by simp)) (by
            have := heap_set (w := w1.drew) (j := 0) hbx1.out (.int .i64 (nx n.way k.n x'))
            rw [this]
            simp [ny, hw.out])
          refine ⟨⟨j + 1, by omega, by go_num, nx n.way k.n x', ny n.way k.n y', ?_⟩, by simp [intOf]; omega⟩
          refine Lib.hid ?_
          have := hq.1
          simp only [nx, hw.out, if_true, wr64] at this ⊢
          exact this
        · rw [hw] at n5
          replace hw := Lib.hid hw
          go_upto_region 6 with fail
          go_still_tail 18, (by kernel_rfl)
          change wpList _ _ _ _ _ w1.drew
          go_wp2_with fail
          have hq := hst.out (w1.drew.setCell ⟨w.heap.size, 1, none⟩ (.int .i64 (ny n.way k.n y'))) ((Off.drew (S := [w.heap.size]) o1.out.m').trans (Off.setw (w := w1.drew) o1.out.m' (G.fresh hGm.out) 1 _) (by simp)) (by
            have := heap_set (w := w1.drew) (j := 1) hbx1.out (.int .i64 (ny n.way k.n y'))
            rw [this]
            simp [nx, hw.out])
          refine ⟨⟨j + 1, by omega, by go_num, nx n.way k.n x', ny n.way k.n y', ?_⟩, by simp [intOf]; omega⟩
          refine Lib.hid ?_
          have := hq.1
          simp only [ny, nx, hw.out, Int.reduceEq, if_false, wr64] at this ⊢
          exact this
      · have : j = len := by omega
        subst this
        go_wp2_with fail
        go_end0
        refine ⟨rfl, ?_, ?_⟩
        · rw [T.place_mk]
          refine .mk ?_ ?_
          · exact ⟨by have := hI.out.a.h; rw [placeL_len]; exact this, hI.out.a.q, by have := hI.out.a.r; rw [placeL_ptrs, placeL_len]; exact this, hI.out.a.m⟩
          · have := hI.out.l
            rwa [List.take_of_length_le (by rw [placeL_len, hln.out]; exact Nat.le_refl _)] at this
        · exact hI.out.o.sub fun b hb => .inl (by
            rw [T.bl_mk]
            rcases List.mem_cons.1 hb with rfl | hb
            · simp
            · simp [hb])
end Go.Proofs.YtcklmkjlbpjojaaDoor.X
