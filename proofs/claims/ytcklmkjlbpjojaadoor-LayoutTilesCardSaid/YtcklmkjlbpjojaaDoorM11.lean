/- Layout: Close of a tree that lies well. Layout: Fit. Layout: two kids of a split turned; the way up. No walk. -/
import Derived.Test.YtcklmkjlbpjojaaDoorXN
namespace Go.Proofs.YtcklmkjlbpjojaaDoor
open Go.RowKit
set_option linter.unusedSimpArgs false
set_option linter.unusedVariables false

/-- Close of the only pane. -/
theorem close_one (base tr : Nat) (n : Nd) (pane : Int) (w : World) (hT : Tr base w tr (.mk n [])) (hf : (T.mk n []).find pane = some (.mk n [])) :
    Calls Tryd.prog 14 #[ptr tr, .int .i64 pane] w fun e w' => e = .returned (.int .i64 14) ∧ w.grownBy w' none := by
  have CL := Lib.hid (leaf_any base tr _ pane w hT (by rw [leaves_len, ps_leaf]; simp))
  rw [hf] at CL
  simp only [Option.map_some, uptr] at CL
  replace CL : Hid (Calls Tryd.prog 29 #[ptr tr, .int .i64 pane] w fun e w' => e = .returned (ptr n.g) ∧ w.grownBy w' none) := CL
  replace hT := Lib.hid hT
  unfold ptr at CL ⊢
  go_enter Tryd.func14, Tryd.ntmps14
  go_wp2_with fail
  refine CL.out.mono ?_
  rintro e w1 ⟨rfl, G1⟩
  have hA := (hT.out.p.grown G1).at_
  have c7 : w1.cell? ⟨n.g, 7, none⟩ = some (.pointer none) := hA.c7
  replace hA := Lib.hid hA; replace G1 := Lib.hid G1
  clear CL
  go_wp2_with fail
  go_ret
  exact ⟨rfl, G1.out⟩
theorem leaf_sz {t l : T} {k : Int} (hF : Fine t k) (hl : l ∈ t.leaves) (way : Int) : 1 ≤ l.n.sz way ∧ l.n.sz way ≤ 250 := by
  obtain ⟨c, e⟩ := leaf_plug t l hl
  obtain ⟨A, hA⟩ := nds_ctx c
  have hm : l.n ∈ t.nds := by rw [e]; exact (hA l l.n).2 (.inr (by cases l; rw [T.nds_mk]; simp [T.n]))
  have := nds_ok t hF.ok l.n hm
  have := hF.sz
  unfold Nd.sz
  split <;> omega
/-- What Close does with a tree that lies well. -/
def ClosePost (base tr : Nat) (t : T) (k : Int) (w : World) (e : Ending) (w' : World) : Prop :=
  ∃ (err : Int) (t' : T), e = .returned (.int .i64 err) ∧ Tr base w' tr t' ∧ Below base w w' ∧
    ((err = 14 ∧ t' = t) ∨ (err = 0 ∧ Fine t' k ∧ t'.er.alt ∧ t'.leaves.length + 1 = t.leaves.length))
theorem fine_sz {t : T} {k : Int} (hF : Fine t k) : t.n.a ≤ 1000 ∧ t.n.b ≤ 1000 := by have := hF.sz; omega
theorem close_any (base tr : Nat) (t : T) (k pane : Int) (w : World) (hT : Tr base w tr t) (hbase : base ≤ w.heap.size) (hF : Fine t k) (hA : t.er.alt) (hp : pane ∈ t.er.ps) (hl : t.leaves.length ≤ 32) :
    Calls Tryd.prog 14 #[ptr tr, .int .i64 pane] w (ClosePost base tr t k w) := by
  cases hf : t.find pane with
  | none => exact absurd hp (find_none_iff.1 hf)
  | some l =>
    obtain ⟨hlm, hlp⟩ := find_mem hf
    obtain ⟨_, _, hlk, _⟩ := mem_leaves t w none hT.p l hlm
    have hls := leaf_sz hF hlm
    obtain ⟨c, e⟩ := leaf_plug t l hlm
    cases c with
    | nil =>
      obtain ⟨n, rfl⟩ : ∃ n, l = .mk n [] := ⟨l.n, by cases l; cases hlk; rfl⟩
      replace e : t = .mk n [] := e
      subst e
      refine (close_one base tr n pane w hT hf).mono ?_
      rintro e w' ⟨rfl, G⟩
      exact ⟨14, _, rfl, hT.grown G, ⟨G.os, G.tape, G.output, G.size, fun j hj => G.block j (by omega) (by simp)⟩, .inl ⟨rfl, rfl⟩⟩
    | cons f c0 =>
      replace e : t = plug c0 (.mk f.n (f.L ++ l :: f.R)) := e
      obtain ⟨ks, hks⟩ : ∃ ks, ks = f.L ++ l :: f.R := ⟨_, rfl⟩
      rw [← hks] at e
      have hok := hF.ok
      rw [e] at hok hA hT hf
      have hnok := (ok_plug c0 (.mk f.n ks) (.mk f.n ks) hok).1
      have hnab : f.n.a ≤ 1000 ∧ f.n.b ≤ 1000 := by
        obtain ⟨A, hA2⟩ := nds_ctx c0
        have hm : f.n ∈ t.nds := by rw [e]; exact (hA2 _ f.n).2 (.inr (by rw [T.nds_mk]; simp))
        have := nds_ok t hF.ok f.n hm
        have := hF.sz
        omega
      have hne : ks ≠ [] := by rw [hks]; simp
      obtain ⟨_, _, _, h2, hway, _, _, hkok⟩ : f.n.p = 0 ∧ 1 ≤ f.n.a ∧ 1 ≤ f.n.b ∧ 2 ≤ ks.length ∧ (f.n.way = 0 ∨ f.n.way = 1) ∧ (∀ k ∈ ks, k.sz (1 - f.n.way) = f.n.sz (1 - f.n.way)) ∧ (ks.map fun k => k.sz f.n.way + 1).sum = f.n.sz f.n.way + 1 ∧ ∀ k ∈ ks, k.er.ok := by
        rcases ok_T.1 hnok with h | h
        · exact absurd h.1 hne
        · exact h
      have hklen := ok_len hnok hnab.1 hnab.2
      -- the neighbour
      obtain ⟨L, R, h, i, j, hsh, hi, hj, hx, hsub, hset⟩ : ∃ (L R : List T) (h : T) (i j : Nat), (ks = L ++ h :: l :: R ∨ (L = [] ∧ ks = l :: h :: R)) ∧ ks[i]? = some l ∧ ks[j]? = some h ∧ ((i = 0 ∧ j = 1) ∨ i = j + 1) ∧ (L ++ h :: R).Sublist ks ∧ (∀ x, (ks.set j x).take i ++ (ks.set j x).drop (i + 1) = L ++ x :: R) := by
        rcases List.eq_nil_or_concat f.L with hL | ⟨L, h, hL⟩
        · rw [hL, List.nil_append] at hks
          cases hR : f.R with
          | nil => rw [hR] at hks; rw [hks] at h2; simp at h2
          | cons h R =>
            rw [hR] at hks
            subst hks
            exact ⟨[], R, h, 0, 1, .inr ⟨rfl, rfl⟩, rfl, rfl, .inl ⟨rfl, rfl⟩, (List.Sublist.refl _).cons _, fun x => rfl⟩
        · rw [hL] at hks
          have hks' : ks = L ++ h :: l :: f.R := by rw [hks]; simp
          refine ⟨L, f.R, h, L.length + 1, L.length, .inl hks', by rw [hks']; simp, by rw [hks']; simp, .inr rfl, ?_, fun x => ?_⟩
          · rw [hks']
            exact (List.Sublist.refl _).append (List.Sublist.cons_cons h ((List.Sublist.refl _).cons _))
          · rw [hks', List.set_append_right _ _ (Nat.le_refl _)]
            simp only [Nat.sub_self, List.set_cons_zero]
            rw [show L ++ x :: l :: f.R = (L ++ [x]) ++ l :: f.R by simp, List.take_left' (by simp), List.drop_append]
            simp
      have hhm : h ∈ ks := List.mem_of_getElem? hj
      obtain ⟨hh1, hh2, hh3⟩ := ok_kid hnok hhm
      obtain ⟨h', hh'⟩ : ∃ h', h' = h.grow f.n.way (l.n.sz f.n.way + 1) := ⟨_, rfl⟩
      have hclo := fun t2 hc => closed_ok (t2 := t2) hok hA hsh hlk rfl hh' hc
      have hh'l : h'.ks.length = h.ks.length := by rw [hh']; exact grow_ks _ _ _
      have hk2 : h'.ks ≠ [] → 2 ≤ h'.ks.length ∧ h'.ks.length ≤ 1000 ∧ ∀ g d, c0 = g :: d → (g.L ++ h' :: g.R).length ≤ 1000 := by
        intro hne'
        rw [hh'l]
        have hne2 : h.ks ≠ [] := by intro e; rw [e] at hh'l; exact hne' (List.eq_nil_of_length_eq_zero hh'l)
        obtain ⟨hn', q, hhe⟩ : ∃ m q, h = .mk m q := ⟨h.n, h.ks, by cases h; rfl⟩
        have hq : h.ks = q := by rw [hhe]; rfl
        have hnn : h.n = hn' := by rw [hhe]; rfl
        rw [hhe] at hh1
        rw [hq] at hne2 ⊢
        rw [hnn] at hh2 hh3
        refine ⟨?_, ok_len hh1 (by omega) (by omega), fun g d e2 => ?_⟩
        · rcases ok_T.1 hh1 with h | h
          · exact absurd h.1 hne2
          · exact h.2.2.2.1
        · have hgok : (T.mk g.n (g.L ++ .mk f.n ks :: g.R)).er.ok := by
            rw [e2] at hok
            exact (ok_plug d (.mk g.n (g.L ++ .mk f.n ks :: g.R)) (.mk g.n []) hok).1
          have hgab : g.n.a ≤ 1000 ∧ g.n.b ≤ 1000 := by
            obtain ⟨A, hA2⟩ := nds_ctx d
            have hm : g.n ∈ t.nds := by
              rw [e, e2]
              exact (hA2 (.mk g.n (g.L ++ .mk f.n ks :: g.R)) g.n).2 (.inr (by rw [T.nds_mk]; simp))
            have := nds_ok t hF.ok g.n hm
            have := hF.sz
            omega
          have := ok_len hgok hgab.1 hgab.2
          simp only [List.length_append, List.length_cons] at this ⊢
          omega
      have hz := hls f.n.way
      refine (close_gen base tr c0 f.n ks L R l h h' i j pane (l.n.sz f.n.way) w hT hbase (by rw [← e]; omega) hf hlk hway ⟨rfl, by omega, by omega⟩ hklen hi hj hx hsub hset hh' hh1 ⟨by omega, by omega⟩ hk2 (fun t2 hc => ok_w01 (hclo t2 hc).1)).mono ?_
      rintro e' w' ⟨rfl, hB, t2, hc, hT2⟩
      obtain ⟨q1, q2, q3, q4, q5⟩ := hclo t2 hc
      rw [← e] at q3 q4 q5
      refine ⟨0, _, rfl, hT2, hB, .inr ⟨rfl, ⟨by rw [T.place_er]; exact q1, ?_, ?_, T.place_idem _ _ _, ?_⟩, by rw [T.place_er]; exact q2, ?_⟩⟩
      · rw [T.place_er]
        exact (List.nodup_cons.1 (q5.nodup_iff.1 hF.ps)).2
      · rw [T.place_er]
        exact fun p hp => hF.pk p (q5.mem_iff.2 (List.mem_cons_of_mem _ hp))
      · rw [(T.place_place t2 0 0 0 0).1, (T.place_place t2 0 0 0 0).2, q3, q4]; exact hF.sz
      · rw [leaves_len, leaves_len, T.place_er, q5.length_eq]; rfl
end Go.Proofs.YtcklmkjlbpjojaaDoor
namespace Go.Proofs.YtcklmkjlbpjojaaDoor
open Go.RowKit
set_option linter.unusedSimpArgs false
set_option linter.unusedVariables false

theorem grow_least (t : T) (way w' : Int) : ∀ z, (t.grow way z).least w' = t.least w' := by
  induction t using T.ind with
  | h n ks ih =>
    intro z
    rw [T.grow_mk, T.least_mk, T.least_mk, growR_len, (Nd.gr_g n way z).2.2.2.2.1, leastL_map, leastL_map, map_growR (T.least w') way n.way z ks ih]
theorem Tr.turned {base tr : Nat} {w w' : World} {t t' : T} (h : Tr base w tr t) (hp : TP w' none t') (ho : Off t.bl w w') (hg : t'.g = t.g) (hb : t'.bl = t.bl) : Tr base w' tr t' :=
  ⟨by rw [hg, ho.block tr h.lt h.nt]; exact h.h, hp, by rw [hb]; exact h.nd, by rw [hb]; exact h.nt, h.lo.1, by rw [hb]; exact h.lo.2⟩
/-- What is kept by all that leaves the panes as they are. -/
def KeepPost (base tr : Nat) (t : T) (k : Int) (w : World) (e : Ending) (w' : World) : Prop :=
  ∃ (err : Int) (t' : T), e = .returned (.int .i64 err) ∧ Tr base w' tr t' ∧ Below base w w' ∧ Fine t' k ∧ t'.er.alt ∧ t'.leaves.length = t.leaves.length
theorem fine_of {t t' : T} {k : Int} (hF : Fine t k) (hok : t'.er.ok) (hps : t'.er.ps = t.er.ps) (ha : t'.n.a ≤ 250) (hb : t'.n.b ≤ 120) : Fine (t'.place 0 0) k ∧ (t'.place 0 0).leaves.length = t.leaves.length := by
  refine ⟨⟨by rw [T.place_er]; exact hok, by rw [T.place_er, hps]; exact hF.ps, by rw [T.place_er, hps]; exact hF.pk, T.place_idem _ _ _, ?_⟩, by rw [leaves_len, leaves_len, T.place_er, hps]⟩
  rw [(T.place_place t' 0 0 0 0).1, (T.place_place t' 0 0 0 0).2]; exact ⟨ha, hb⟩
theorem i64_sub {a b : Int} (h1 : 1 ≤ a ∧ a ≤ 250) (h2 : 1 ≤ b ∧ b ≤ 250) : IntKind.i64.wrap (a - b) = a - b := by rw [IntKind.wrap_i64]; omega

set_option maxHeartbeats 400000 in
set_option maxRecDepth 100000 in
theorem fit_any (base tr : Nat) (t : T) (k a b : Int) (w : World) (hT : Tr base w tr t) (hbase : base ≤ w.heap.size) (hF : Fine t k) (hA : t.er.alt) (ha : 1 ≤ a ∧ a ≤ 250) (hb : 1 ≤ b ∧ b ≤ 120) :
    Calls Tryd.prog 20 #[ptr tr, .int .i64 a, .int .i64 b] w (KeepPost base tr t k w) := by
  have CM := fun W => may_any a b W
  have hge := hF.ok.ge
  rw [T.er_a, T.er_b] at hge
  have hsz := hF.sz
  have hl0 := least_le (.inl rfl) t hF.ok
  have hl1 := least_le (.inr rfl) t hF.ok
  have c0 := hT.c0
  have hAt := hT.p.atn
  have c3 : w.cell? ⟨t.g, 3, none⟩ = some (.int .i64 t.n.a) := hAt.c3
  have CL0 := least_any (way := 0) (.inl rfl) t none w hT.p hF.ok (by omega) (by omega)
  have CL1 := least_any (way := 1) (.inr rfl) t none w hT.p hF.ok (by omega) (by omega)
  have hm : mayB a b = true := by unfold mayB; simp; omega
  rw [hm] at CM
  obtain ⟨l0, hl0e⟩ : ∃ l0, l0 = t.least 0 := ⟨_, rfl⟩
  obtain ⟨l1, hl1e⟩ : ∃ l1, l1 = t.least 1 := ⟨_, rfl⟩
  rw [← hl0e] at CL0 hl0
  rw [← hl1e] at CL1 hl1
  have hla : l0 ≤ 250 := by have : t.sz 0 = t.n.a := rfl; omega
  have hlb : l1 ≤ 250 := by have : t.sz 1 = t.n.b := rfl; omega
  have hno : ∀ W, w.grownBy W none → KeepPost base tr t k w (.returned (.int .i64 5)) W := fun W G => ⟨5, t, rfl, hT.grown G, ⟨G.os, G.tape, G.output, G.size, fun j hj => G.block j (by omega) (by simp)⟩, hF, hA, rfl⟩
  have hwz : IntKind.i64.wrap (a - t.n.a) = a - t.n.a := i64_sub ha ⟨hge.1, hsz.1⟩
  have hwy : IntKind.i64.wrap (b - t.n.b) = b - t.n.b := i64_sub ⟨hb.1, by omega⟩ ⟨hge.2, by omega⟩
  have CG0 : l0 ≤ a → Calls Tryd.prog 37 #[ptr t.g, .int .i64 0, .int .i64 (a - t.n.a)] w.drew _ := fun h => grow_any (way := 0) (.inl rfl) t none (a - t.n.a) w.drew (hT.p.same _ _ fun _ _ => rfl) hT.nd hF.ok (by rw [← hl0e]; show l0 ≤ t.n.a + (a - t.n.a); omega) (by omega) (by omega) (by omega)
  obtain ⟨t1, ht1⟩ : ∃ t1, t1 = t.grow 0 (a - t.n.a) := ⟨_, rfl⟩
  obtain ⟨t2, ht2⟩ : ∃ t2, t2 = t1.grow 1 (b - t.n.b) := ⟨_, rfl⟩
  have h1 : l0 ≤ a → Gr 0 t t1 (a - t.n.a) := fun h => by rw [ht1]; exact grow_ok (.inl rfl) t _ hF.ok (by rw [← hl0e]; show l0 ≤ t.n.a + (a - t.n.a); omega)
  have h1n : l0 ≤ a → t1.n.a = a ∧ t1.n.b = t.n.b := fun h => by
    have q1 : t1.n.a = t.n.a + (a - t.n.a) := (h1 h).sz
    have q2 : t1.n.b = t.n.b := (h1 h).sz'
    omega
  have h1l : t1.least 1 = l1 := by rw [ht1, grow_least, hl1e]
  have h2 : l0 ≤ a → l1 ≤ b → Gr 1 t1 t2 (b - t.n.b) := fun x y => by
    have q := h1n x
    rw [ht2]; exact grow_ok (.inr rfl) t1 _ (h1 x).ok (by rw [h1l]; show l1 ≤ t1.n.b + (b - t.n.b); omega)
  have CG1 : l0 ≤ a → l1 ≤ b → ∀ W, TP W none t1 → Calls Tryd.prog 37 #[ptr t.g, .int .i64 1, .int .i64 (b - t.n.b)] W.drew fun e w' => e = .returned (.tuple #[]) ∧ TP w' none t2 ∧ Off t.bl W.drew w' := fun x y W hW => by
    have q := h1n x
    have := grow_any (way := 1) (.inr rfl) t1 none (b - t.n.b) W.drew (hW.same _ _ fun _ _ => rfl) (by rw [ht1, T.grow_bl]; exact hT.nd) (h1 x).ok (by rw [h1l]; show l1 ≤ t1.n.b + (b - t.n.b); omega) (by omega) (by omega) (by omega)
    rw [show t1.g = t.g by rw [ht1]; exact T.grow_g _ _ _, show t1.bl = t.bl by rw [ht1]; exact T.grow_bl _ _ _, ← ht2] at this
    exact this
  have h2b : t2.bl = t.bl ∧ t2.g = t.g := by rw [ht2, ht1]; exact ⟨by rw [T.grow_bl, T.grow_bl], by rw [T.grow_g, T.grow_g]⟩
  have h2f : l0 ≤ a → l1 ≤ b → Fine (t2.place 0 0) k ∧ (t2.place 0 0).leaves.length = t.leaves.length ∧ t2.w01 := fun x y => by
    have q := h1n x
    have q1 : t2.n.b = t1.n.b + (b - t.n.b) := (h2 x y).sz
    have q2 : t2.n.a = t1.n.a := (h2 x y).sz'
    have q3 := fine_of hF (h2 x y).ok (by rw [ht2, ht1, T.grow_ps, T.grow_ps]) (by omega) (by omega)
    exact ⟨q3.1, q3.2, ok_w01 (h2 x y).ok⟩
  have h2a : (t2.place 0 0).er.alt := by rw [T.place_er, ht2, ht1]; exact grow_alt _ _ _ (grow_alt _ _ _ hA)
  replace hm := Lib.hid hm; replace hl0e := Lib.hid hl0e; replace hl1e := Lib.hid hl1e; replace CL0 := Lib.hid CL0; replace CL1 := Lib.hid CL1; replace CM := Lib.hid CM; replace hno := Lib.hid hno; replace CG0 := Lib.hid CG0; replace CG1 := Lib.hid CG1; replace ht1 := Lib.hid ht1; replace ht2 := Lib.hid ht2; replace h1 := Lib.hid h1; replace h1n := Lib.hid h1n; replace h1l := Lib.hid h1l; replace h2 := Lib.hid h2; replace h2b := Lib.hid h2b; replace h2f := Lib.hid h2f; replace h2a := Lib.hid h2a; replace hF := Lib.hid hF; replace hA := Lib.hid hA; replace hT := Lib.hid hT; replace hAt := Lib.hid hAt; replace hbase := Lib.hid hbase
  unfold ptr at *
  go_enter Tryd.func20, Tryd.ntmps20
  go_wp2_with fail
  refine (CM.out _).mono ?_
  rintro e w1 ⟨rfl, rfl⟩
  go_wp2_with fail
  refine CL0.out.mono ?_
  rintro e w2 ⟨rfl, rfl⟩
  rcases Int.lt_or_le a l0 with hca | hca
  · go_wp2_with fail
    go_ret
    exact hno.out w2 (World.grownBy.refl w2 _)
  go_wp2_with fail
  refine CL1.out.mono ?_
  rintro e w3 ⟨rfl, rfl⟩
  rcases Int.lt_or_le b l1 with hcb | hcb
  · go_wp2_with fail
    go_ret
    exact hno.out w3 (World.grownBy.refl w3 _)
  go_upto_region 5 with fail
  go_still_tail 14, (by kernel_rfl)
  change wpList _ _ _ _ _ w3.drew
  go_wp2_with fail
  refine (CG0.out hca).mono ?_
  rintro e w4 ⟨rfl, hT4, o4⟩
  rw [← ht1.out] at hT4
  have o4' : Off t.bl w3 w4 := ⟨o4.os, o4.tape, o4.output, o4.size, o4.block⟩
  have hTr4 := hT.out.turned hT4 o4' (by rw [ht1.out]; exact T.grow_g _ _ _) (by rw [ht1.out]; exact T.grow_bl _ _ _)
  have c04 := hTr4.c0
  rw [show t1.g = t.g by rw [ht1.out]; exact T.grow_g _ _ _] at c04
  have c44 : w4.cell? ⟨t.g, 4, none⟩ = some (.int .i64 t.n.b) := by
    have := hT4.atn.c4
    rw [show t1.n.g = t.g by rw [ht1.out]; exact T.grow_g _ _ _, (h1n.out hca).2] at this; exact this
  have CGx := CG1.out hca hcb w4 hT4
  replace CGx := Lib.hid CGx; replace hT4 := Lib.hid hT4; replace o4 := Lib.hid o4; replace o4' := Lib.hid o4'; replace hTr4 := Lib.hid hTr4
  clear CG0 CG1 CL0 CL1 CM
  unfold ptr at c04
  go_upto_region 6 with fail
  go_still_tail 14, (by kernel_rfl)
  change wpList _ _ _ _ _ w4.drew
  go_wp2_with fail
  refine CGx.out.mono ?_
  rintro e w5 ⟨rfl, hT5, o5⟩
  have o5' : Off t.bl w4 w5 := ⟨o5.os, o5.tape, o5.output, o5.size, o5.block⟩
  have o45 : Off t.bl w3 w5 := o4'.out.trans o5' (fun b hb => .inl hb)
  have hTr5 := hT.out.turned hT5 o45 h2b.out.2 h2b.out.1
  have c05 := hTr5.c0
  rw [h2b.out.2] at c05
  obtain ⟨q1, q2, q3⟩ := h2f.out hca hcb
  have CPl := place_any t2 none 0 0 w5 hT5 hTr5.nd q3
  rw [h2b.out.2] at CPl
  have hB5 : Below base w3 w5 := o45.below hT.out.lo.2 hbase.out
  replace CPl := Lib.hid CPl; replace hT5 := Lib.hid hT5; replace o5 := Lib.hid o5; replace o5' := Lib.hid o5'; replace o45 := Lib.hid o45; replace hTr5 := Lib.hid hTr5; replace q1 := Lib.hid q1; replace q2 := Lib.hid q2; replace q3 := Lib.hid q3; replace hB5 := Lib.hid hB5
  clear CGx c04 c44
  unfold ptr at CPl c05
  go_wp2_with fail
  refine CPl.out.mono ?_
  rintro e w6 ⟨rfl, hT6, o6⟩
  go_wp2_with fail
  go_ret
  exact ⟨0, t2.place 0 0, rfl, hTr5.out.placed hT6 o6, hB5.out.trans (o6.below hTr5.out.lo.2 (Nat.le_trans hbase.out hB5.out.size)), q1.out, h2a.out, q2.out⟩
end Go.Proofs.YtcklmkjlbpjojaaDoor
namespace Go.Proofs.YtcklmkjlbpjojaaDoor
open Go.RowKit
set_option linter.unusedSimpArgs false
set_option linter.unusedVariables false

/-- How many steps up there are from a node. -/
def ups (w : World) : Nat → Nat → Nat
  | 0, _ => 0
  | N + 1, g => match w.cell? ⟨g, 7, none⟩ with
    | some (.pointer (some a)) => 1 + ups w N a.block
    | _ => 0
theorem ups_ctx {w : World} : ∀ (N : Nat) (c : List Fr) (s : T), TP w none (plug c s) → c.length ≤ N → ups w N s.g = c.length
  | 0, c, s, _, h => by
    have : c = [] := List.eq_nil_of_length_eq_zero (by omega)
    subst this; rfl
  | N + 1, [], s, hT, _ => by
    have h7 : w.cell? ⟨s.g, 7, none⟩ = some (.pointer none) := hT.atn.c7
    unfold ups
    rw [h7]; rfl
  | N + 1, f :: d, s, hT, h => by
    have h7 : w.cell? ⟨s.g, 7, none⟩ = some (.pointer (some ⟨f.n.g, 0, none⟩)) := ((TP_plug (f :: d) s).1 hT).2.atn.c7
    have := ups_ctx N d (.mk f.n (f.L ++ s :: f.R)) hT (by simp at h; omega)
    unfold ups
    rw [h7]
    show 1 + ups w N f.n.g = _
    rw [show f.n.g = (T.mk f.n (f.L ++ s :: f.R)).g from rfl, this, List.length_cons]; omega

theorem map_set_same {α : Type} (f : T → α) {l : List T} {i : Nat} {x y : T} (h : l[i]? = some x) (e : f y = f x) : (l.set i y).map f = l.map f := by
  refine List.ext_getElem? fun q => ?_
  rw [List.getElem?_map, List.getElem?_map, List.getElem?_set]
  split
  · rename_i e2
    subst e2
    rw [h]
    split
    · simp [e]
    · rename_i e3; exact absurd (List.getElem?_eq_some_iff.1 h).1 e3
  · rfl
theorem sum_set (f : T → Int) : ∀ (l : List T) (i : Nat) (x y : T), l[i]? = some x → ((l.set i y).map f).sum = (l.map f).sum - f x + f y
  | [], i, x, y, h => by simp at h
  | a :: l, 0, x, y, h => by
    simp at h; subst h
    simp only [List.set_cons_zero, List.map_cons, List.sum_cons]; omega
  | a :: l, i + 1, x, y, h => by
    have := sum_set f l i x y (by simpa using h)
    simp only [List.set_cons_succ, List.map_cons, List.sum_cons]; omega
theorem mem_set2 {l : List T} {i j : Nat} {x y k : T} (h : k ∈ (l.set i x).set j y) : k = y ∨ k = x ∨ ∃ q, q ≠ i ∧ q ≠ j ∧ l[q]? = some k := by
  obtain ⟨q, hq⟩ := List.mem_iff_getElem?.1 h
  rw [List.getElem?_set] at hq
  split at hq
  · split at hq
    · injection hq with hq; exact .inl hq.symm
    · cases hq
  · rename_i e1
    rw [List.getElem?_set] at hq
    split at hq
    · split at hq
      · injection hq with hq; exact .inr (.inl hq.symm)
      · cases hq
    · rename_i e2; exact .inr (.inr ⟨q, fun e => e2 e.symm, fun e => e1 e.symm, hq⟩)
theorem set_ne_get {l : List T} {i j : Nat} {x q : T} (h : l[j]? = some q) (hne : i ≠ j) : (l.set i x)[j]? = some q := by
  rw [List.getElem?_set_ne hne]; exact h
theorem kids_apart {ks : List T} (hN : (blL ks).Nodup) {i j : Nat} {a b : T} (hi : ks[i]? = some a) (hj : ks[j]? = some b) (hne : i ≠ j) : ∀ x ∈ a.bl, x ∉ b.bl := by
  intro x hx hb
  have h := hN
  rw [split_at hi] at h
  obtain ⟨_, h2, h3⟩ := kid_apart h
  have hm : b ∈ ks.take i ∨ b ∈ ks.drop (i + 1) := by
    rcases Nat.lt_or_ge j i with h | h
    · left
      obtain ⟨q1, q2⟩ := List.getElem?_eq_some_iff.1 hj
      exact List.mem_take_iff_getElem.2 ⟨j, by omega, q2⟩
    · right
      exact List.mem_of_getElem? (i := j - (i + 1)) (by rw [List.getElem?_drop, show i + 1 + (j - (i + 1)) = j by omega]; exact hj)
  rcases hm with hm | hm
  · exact h2 x hx (mem_blL.2 ⟨b, hm, hb⟩)
  · exact h3 x hx (mem_blL.2 ⟨b, hm, hb⟩)

theorem two_set {base tr : Nat} {w w' : World} {d : List Fr} {n : Nd} {ks : List T} {i j : Nat} {m q m' q' : T} (hT : Tr base w tr (plug d (.mk n ks))) (hbase : base ≤ w.heap.size) (hm : ks[i]? = some m) (hq : ks[j]? = some q) (hne : i ≠ j)
    (o : Off (m.bl ++ q.bl) w w') (hm' : TP w' (some n.g) m') (hq' : TP w' (some n.g) q') (gm : m'.g = m.g) (gq : q'.g = q.g) (bm : m'.bl = m.bl) (bq : q'.bl = q.bl) :
    Tr base w' tr (plug d (.mk n ((ks.set i m').set j q'))) ∧ Below base w w' := by
  have hp := (TP_plug d _).1 hT.p
  have hAt := hp.2.at_
  have hK := TPs_iff.1 hp.2.kids
  obtain ⟨nd, hin, hout⟩ := hT.apart
  obtain ⟨d1, d2, d3⟩ := bl_apart nd
  have hmk : ∀ b ∈ m.bl ++ q.bl, b ∈ blL ks := fun b hb => by
    rcases List.mem_append.1 hb with h | h
    · exact mem_blL.2 ⟨m, List.mem_of_getElem? hm, h⟩
    · exact mem_blL.2 ⟨q, List.mem_of_getElem? hq, h⟩
  have hq2 : (ks.set i m')[j]? = some q := set_ne_get hq hne
  have e1 : ptrs ((ks.set i m').set j q') = ptrs ks := by
    unfold ptrs
    rw [map_set_same (fun t : T => ptr t.g) hq2 (by rw [gq]), map_set_same (fun t : T => ptr t.g) hm (by rw [gm])]
  have e2 : blL ((ks.set i m').set j q') = blL ks := by
    rw [blL_flat, blL_flat, map_set_same T.bl hq2 bq, map_set_same T.bl hm bm]
  have hb2 : (T.mk n ((ks.set i m').set j q')).bl = (T.mk n ks).bl := by rw [T.bl_mk, T.bl_mk, e2]
  refine ⟨hT.focus (t' := .mk n ((ks.set i m').set j q')) o (fun b hb => .inl ?_) ?_ rfl (by rw [hb2]; exact nd) (fun b hb => .inl (by rw [← hb2]; exact hb)) hbase, o.below (B := base) (fun b hb => (hin b (by rw [T.bl_mk]; simp [hmk b hb])).2.2.1) hbase⟩
  · rw [T.bl_mk]; simp [hmk b hb]
  · refine .mk ((hAt.same fun b hb => o.block b (hAt.lt b hb) fun hm => ?_).congr e1) (TPs_iff.2 fun k hk => ?_)
    · have := hmk b hm
      rcases List.mem_cons.1 hb with rfl | hb
      · exact d1 this
      · exact (d2 b (by simpa using hb)).1 this
    · rcases mem_set2 hk with rfl | rfl | ⟨r, r1, r2, r3⟩
      · exact hq'
      · exact hm'
      · refine (hK k (List.mem_of_getElem? r3)).off o fun b hb hm2 => ?_
        rcases List.mem_append.1 hm2 with h | h
        · exact kids_apart d3 r3 hm r1 b hb h
        · exact kids_apart d3 r3 hq r2 b hb h

/-- What Resize keeps. -/
theorem resized_ok {d : List Fr} {n : Nd} {ks : List T} {i j : Nat} {m q : T} {z : Int} (hok : (plug d (.mk n ks)).er.ok) (halt : (plug d (.mk n ks)).er.alt) (hm : ks[i]? = some m) (hq : ks[j]? = some q) (hne : i ≠ j) (hz : 0 ≤ z) (hq2 : q.least n.way ≤ q.sz n.way - z) :
    ∀ t2, t2 = plug d (.mk n ((ks.set i (m.grow n.way z)).set j (q.grow n.way (-z)))) → t2.er.ok ∧ t2.er.alt ∧ t2.n.a = (plug d (.mk n ks)).n.a ∧ t2.n.b = (plug d (.mk n ks)).n.b ∧ t2.er.ps = (plug d (.mk n ks)).er.ps := by
  rintro t2 rfl
  obtain ⟨hnok, hq3⟩ := ok_plug d (.mk n ks) (.mk n ((ks.set i (m.grow n.way z)).set j (q.grow n.way (-z)))) hok
  obtain ⟨hnalt, hnf, qa⟩ := alt_plug d (.mk n ks) (.mk n ((ks.set i (m.grow n.way z)).set j (q.grow n.way (-z)))) halt
  have hne0 : ks ≠ [] := by rintro rfl; simp at hm
  obtain ⟨hp, ha, hb, h2, hway, hcr, hsum, hkok⟩ : n.p = 0 ∧ 1 ≤ n.a ∧ 1 ≤ n.b ∧ 2 ≤ ks.length ∧ (n.way = 0 ∨ n.way = 1) ∧ (∀ k ∈ ks, k.sz (1 - n.way) = n.sz (1 - n.way)) ∧ (ks.map fun k => k.sz n.way + 1).sum = n.sz n.way + 1 ∧ ∀ k ∈ ks, k.er.ok := by
    rcases ok_T.1 hnok with h | h
    · exact absurd h.1 hne0
    · exact h
  obtain ⟨hal, hka⟩ := alt_T.1 hnalt
  have hmm := List.mem_of_getElem? hm
  have hqm := List.mem_of_getElem? hq
  have hGm := grow_ok hway m z (hkok m hmm) (by have := least_le hway m (hkok m hmm); omega)
  have hGq := grow_ok hway q (-z) (hkok q hqm) (by omega)
  obtain ⟨m', hm'⟩ : ∃ m', m' = m.grow n.way z := ⟨_, rfl⟩
  obtain ⟨q', hq'⟩ : ∃ q', q' = q.grow n.way (-z) := ⟨_, rfl⟩
  rw [← hm', ← hq'] at hq3 qa ⊢
  rw [← hm'] at hGm
  rw [← hq'] at hGq
  have hq2' : (ks.set i m')[j]? = some q := set_ne_get hq hne
  have hnew : (T.mk n ((ks.set i m').set j q')).er.ok := by
    refine ok_T.2 (.inr ⟨hp, ha, hb, by simpa using h2, hway, fun k hk => ?_, ?_, fun k hk => ?_⟩)
    · rcases mem_set2 hk with rfl | rfl | ⟨r, r1, r2, r3⟩
      · rw [hGq.sz']; exact hcr q hqm
      · rw [hGm.sz']; exact hcr m hmm
      · exact hcr k (List.mem_of_getElem? r3)
    · rw [sum_set (fun k => k.sz n.way + 1) _ _ _ _ hq2', sum_set (fun k => k.sz n.way + 1) _ _ _ _ hm, hsum, hGq.sz, hGm.sz]; omega
    · rcases mem_set2 hk with rfl | rfl | ⟨r, r1, r2, r3⟩
      · exact hGq.ok
      · exact hGm.ok
      · exact hkok k (List.mem_of_getElem? r3)
  obtain ⟨q1, q4, q5⟩ := hq3 hnew rfl rfl
  refine ⟨q1, qa (alt_T.2 ⟨fun k hk => ?_, fun k hk => ?_⟩) ?_, q4, q5, ?_⟩
  · rcases mem_set2 hk with rfl | rfl | ⟨r, r1, r2, r3⟩
    · rw [hq', grow_ks_nil, grow_way]; exact hal q hqm
    · rw [hm', grow_ks_nil, grow_way]; exact hal m hmm
    · exact hal k (List.mem_of_getElem? r3)
  · rcases mem_set2 hk with rfl | rfl | ⟨r, r1, r2, r3⟩
    · rw [hq']; exact grow_alt _ _ _ (hka q hqm)
    · rw [hm']; exact grow_alt _ _ _ (hka m hmm)
    · exact hka k (List.mem_of_getElem? r3)
  · intro f e he
    rcases hnf f e he with h | h
    · exact absurd h hne0
    · exact .inr h
  · obtain ⟨A, B, hAB⟩ := ps_ctx d
    have hne2 : (ks.set i m').set j q' ≠ [] := by
      intro e
      have := congrArg List.length e
      simp at this
      exact hne0 this
    rw [hAB, hAB, ps_cons hne0, ps_cons hne2, map_set_same (fun k : T => k.er.ps) hq2' (by rw [hq', T.grow_ps]), map_set_same (fun k : T => k.er.ps) hm (by rw [hm', T.grow_ps])]
end Go.Proofs.YtcklmkjlbpjojaaDoor
