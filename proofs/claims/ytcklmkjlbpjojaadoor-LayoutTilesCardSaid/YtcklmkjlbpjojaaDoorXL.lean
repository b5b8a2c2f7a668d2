/- Layout: Close, Fit, Resize of a tree that lies well, whose rows may share a block. -/
import Derived.Test.YtcklmkjlbpjojaaDoorXK
import Derived.Test.YtcklmkjlbpjojaaDoorM12
namespace Go.Proofs.YtcklmkjlbpjojaaDoor.X
open Go.RowKit
set_option linter.unusedSimpArgs false
set_option linter.unusedVariables false
variable {G : Gh}

/-- Close of the only pane. -/
theorem close_one (base tr : Nat) (n : Nd) (pane : Int) (w : World) (hT : Tr G base w tr (.mk n [])) (hf : (T.mk n []).find pane = some (.mk n [])) :
    Calls Tryd.prog 14 #[ptr tr, .int .i64 pane] w fun e w' => e = .returned (.int .i64 14) ∧ w.grownBy w' none := by
  have CL := Lib.hid (leaf_any base tr _ pane w hT (by rw [leaves_len, ps_leaf]; simp))
  rw [hf] at CL
  simp only [Option.map_some, uptr] at CL
  replace CL : Hid (Calls Tryd.prog 29 #[ptr tr, .int .i64 pane] w fun e w' => e = .returned (ptr n.g) ∧ w.grownBy w' none) := CL
  replace hT := Lib.hid hT
  unfold ptr at CL ⊢
  go_enter Tryd.func14, Tryd.ntmps14
  go_wp2_with fail
  refine CL.out.mono ?_
  rintro e w1 ⟨rfl, G1⟩
  have hA := (hT.out.p.grown G1).at_
  have c7 : w1.cell? ⟨n.g, 7, none⟩ = some (.pointer none) := hA.c7
  replace hA := Lib.hid hA; replace G1 := Lib.hid G1
  clear CL
  go_wp2_with fail
  go_ret
  exact ⟨rfl, G1.out⟩
/-- What Close does with a tree that lies well. -/
def ClosePost (G : Gh) (base tr : Nat) (t : T) (k : Int) (w : World) (e : Ending) (w' : World) : Prop :=
  ∃ (err : Int) (t' : T), e = .returned (.int .i64 err) ∧ Tr G base w' tr t' ∧ Below base w w' ∧
    ((err = 14 ∧ t' = t) ∨ (err = 0 ∧ Fine t' k ∧ t'.er.alt ∧ t'.leaves.length + 1 = t.leaves.length))
theorem close_any (base tr : Nat) (t : T) (k pane : Int) (w : World) (hT : Tr G base w tr t) (hbase : base ≤ w.heap.size) (hF : Fine t k) (hA : t.er.alt) (hp : pane ∈ t.er.ps) (hl : t.leaves.length ≤ 32) :
    Calls Tryd.prog 14 #[ptr tr, .int .i64 pane] w (ClosePost G base tr t k w) := by
  cases hf : t.find pane with
  | none => exact absurd hp (find_none_iff.1 hf)
  | some l =>
    obtain ⟨hlm, hlp⟩ := find_mem hf
    obtain ⟨_, _, hlk, _⟩ := mem_leaves t w none hT.p l hlm
    have hls := leaf_sz hF hlm
    obtain ⟨c, e⟩ := leaf_plug t l hlm
    cases c with
    | nil =>
      obtain ⟨n, rfl⟩ : ∃ n, l = .mk n [] := ⟨l.n, by cases l; cases hlk; rfl⟩
      replace e : t = .mk n [] := e
      subst e
      refine (close_one base tr n pane w hT hf).mono ?_
      rintro e w' ⟨rfl, G⟩
      exact ⟨14, _, rfl, hT.grown G, ⟨G.os, G.tape, G.output, G.size, fun j hj => G.block j (by omega) (by simp)⟩, .inl ⟨rfl, rfl⟩⟩
    | cons f c0 =>
      replace e : t = plug c0 (.mk f.n (f.L ++ l :: f.R)) := e
      obtain ⟨ks, hks⟩ : ∃ ks, ks = f.L ++ l :: f.R := ⟨_, rfl⟩
      rw [← hks] at e
      have hok := hF.ok
      rw [e] at hok hA hT hf
      have hnok := (ok_plug c0 (.mk f.n ks) (.mk f.n ks) hok).1
      have hnab : f.n.a ≤ 1000 ∧ f.n.b ≤ 1000 := by
        obtain ⟨A, hA2⟩ := nds_ctx c0
        have hm : f.n ∈ t.nds := by rw [e]; exact (hA2 _ f.n).2 (.inr (by rw [T.nds_mk]; simp))
        have := nds_ok t hF.ok f.n hm
        have := hF.sz
        omega
      have hne : ks ≠ [] := by rw [hks]; simp
      obtain ⟨_, _, _, h2, hway, _, _, hkok⟩ : f.n.p = 0 ∧ 1 ≤ f.n.a ∧ 1 ≤ f.n.b ∧ 2 ≤ ks.length ∧ (f.n.way = 0 ∨ f.n.way = 1) ∧ (∀ k ∈ ks, k.sz (1 - f.n.way) = f.n.sz (1 - f.n.way)) ∧ (ks.map fun k => k.sz f.n.way + 1).sum = f.n.sz f.n.way + 1 ∧ ∀ k ∈ ks, k.er.ok := by
        rcases ok_T.1 hnok with h | h
        · exact absurd h.1 hne
        · exact h
      have hklen := ok_len hnok hnab.1 hnab.2
      -- the neighbour
      obtain ⟨L, R, h, i, j, hsh, hi, hj, hx, hsub, hset⟩ : ∃ (L R : List T) (h : T) (i j : Nat), (ks = L ++ h :: l :: R ∨ (L = [] ∧ ks = l :: h :: R)) ∧ ks[i]? = some l ∧ ks[j]? = some h ∧ ((i = 0 ∧ j = 1) ∨ i = j + 1) ∧ (L ++ h :: R).Sublist ks ∧ (∀ x, (ks.set j x).take i ++ (ks.set j x).drop (i + 1) = L ++ x :: R) := by
        rcases List.eq_nil_or_concat f.L with hL | ⟨L, h, hL⟩
        · rw [hL, List.nil_append] at hks
          cases hR : f.R with
          | nil => rw [hR] at hks; rw [hks] at h2; simp at h2
          | cons h R =>
            rw [hR] at hks
            subst hks
            exact ⟨[], R, h, 0, 1, .inr ⟨rfl, rfl⟩, rfl, rfl, .inl ⟨rfl, rfl⟩, (List.Sublist.refl _).cons _, fun x => rfl⟩
        · rw [hL] at hks
          have hks' : ks = L ++ h :: l :: f.R := by rw [hks]; simp
          refine ⟨L, f.R, h, L.length + 1, L.length, .inl hks', by rw [hks']; simp, by rw [hks']; simp, .inr rfl, ?_, fun x => ?_⟩
          · rw [hks']
            exact (List.Sublist.refl _).append (List.Sublist.cons_cons h ((List.Sublist.refl _).cons _))
          · rw [hks', List.set_append_right _ _ (Nat.le_refl _)]
            simp only [Nat.sub_self, List.set_cons_zero]
            rw [show L ++ x :: l :: f.R = (L ++ [x]) ++ l :: f.R by simp, List.take_left' (by simp), List.drop_append]
            simp
      have hhm : h ∈ ks := List.mem_of_getElem? hj
      obtain ⟨hh1, hh2, hh3⟩ := ok_kid hnok hhm
      obtain ⟨h', hh'⟩ : ∃ h', h' = h.grow f.n.way (l.n.sz f.n.way + 1) := ⟨_, rfl⟩
      have hclo := fun t2 hc => closed_ok (t2 := t2) hok hA hsh hlk rfl hh' hc
      have hh'l : h'.ks.length = h.ks.length := by rw [hh']; exact grow_ks _ _ _
      have hk2 : h'.ks ≠ [] → 2 ≤ h'.ks.length ∧ h'.ks.length ≤ 1000 ∧ ∀ g d, c0 = g :: d → (g.L ++ h' :: g.R).length ≤ 1000 := by
        intro hne'
        rw [hh'l]
        have hne2 : h.ks ≠ [] := by intro e; rw [e] at hh'l; exact hne' (List.eq_nil_of_length_eq_zero hh'l)
        obtain ⟨hn', q, hhe⟩ : ∃ m q, h = .mk m q := ⟨h.n, h.ks, by cases h; rfl⟩
        have hq : h.ks = q := by rw [hhe]; rfl
        have hnn : h.n = hn' := by rw [hhe]; rfl
        rw [hhe] at hh1
        rw [hq] at hne2 ⊢
        rw [hnn] at hh2 hh3
        refine ⟨?_, ok_len hh1 (by omega) (by omega), fun g d e2 => ?_⟩
        · rcases ok_T.1 hh1 with h | h
          · exact absurd h.1 hne2
          · exact h.2.2.2.1
        · have hgok : (T.mk g.n (g.L ++ .mk f.n ks :: g.R)).er.ok := by
            rw [e2] at hok
            exact (ok_plug d (.mk g.n (g.L ++ .mk f.n ks :: g.R)) (.mk g.n []) hok).1
          have hgab : g.n.a ≤ 1000 ∧ g.n.b ≤ 1000 := by
            obtain ⟨A, hA2⟩ := nds_ctx d
            have hm : g.n ∈ t.nds := by
              rw [e, e2]
              exact (hA2 (.mk g.n (g.L ++ .mk f.n ks :: g.R)) g.n).2 (.inr (by rw [T.nds_mk]; simp))
            have := nds_ok t hF.ok g.n hm
            have := hF.sz
            omega
          have := ok_len hgok hgab.1 hgab.2
          simp only [List.length_append, List.length_cons] at this ⊢
          omega
      have hz := hls f.n.way
      refine (close_gen base tr c0 f.n ks L R l h h' i j pane (l.n.sz f.n.way) w hT hbase (by rw [← e]; omega) hf hlk hway ⟨rfl, by omega, by omega⟩ hklen hi hj hx hsub hset hh' hh1 ⟨by omega, by omega⟩ hk2 (fun t2 hc => ok_w01 (hclo t2 hc).1)).mono ?_
      rintro e' w' ⟨rfl, hB, t2, hc, hT2⟩
      obtain ⟨q1, q2, q3, q4, q5⟩ := hclo t2 hc
      rw [← e] at q3 q4 q5
      refine ⟨0, _, rfl, hT2, hB, .inr ⟨rfl, ⟨by rw [T.place_er]; exact q1, ?_, ?_, T.place_idem _ _ _, ?_⟩, by rw [T.place_er]; exact q2, ?_⟩⟩
      · rw [T.place_er]
        exact (List.nodup_cons.1 (q5.nodup_iff.1 hF.ps)).2
      · rw [T.place_er]
        exact fun p hp => hF.pk p (q5.mem_iff.2 (List.mem_cons_of_mem _ hp))
      · rw [(T.place_place t2 0 0 0 0).1, (T.place_place t2 0 0 0 0).2, q3, q4]; exact hF.sz
      · rw [leaves_len, leaves_len, T.place_er, q5.length_eq]; rfl
/-- What is kept by all that leaves the panes as they are. -/
def KeepPost (G : Gh) (base tr : Nat) (t : T) (k : Int) (w : World) (e : Ending) (w' : World) : Prop :=
  ∃ (err : Int) (t' : T), e = .returned (.int .i64 err) ∧ Tr G base w' tr t' ∧ Below base w w' ∧ Fine t' k ∧ t'.er.alt ∧ t'.leaves.length = t.leaves.length
set_option maxHeartbeats 400000 in
set_option maxRecDepth 100000 in
theorem fit_any (base tr : Nat) (t : T) (k a b : Int) (w : World) (hT : Tr G base w tr t) (hbase : base ≤ w.heap.size) (hF : Fine t k) (hA : t.er.alt) (ha : 1 ≤ a ∧ a ≤ 250) (hb : 1 ≤ b ∧ b ≤ 120) :
    Calls Tryd.prog 20 #[ptr tr, .int .i64 a, .int .i64 b] w (KeepPost G base tr t k w) := by
  have CM := fun W => may_any a b W
  have hge := hF.ok.ge
  rw [T.er_a, T.er_b] at hge
  have hsz := hF.sz
  have hl0 := least_le (.inl rfl) t hF.ok
  have hl1 := least_le (.inr rfl) t hF.ok
  have c0 := hT.c0
  have hAt := hT.p.atn
  have c3 : w.cell? ⟨t.g, 3, none⟩ = some (.int .i64 t.n.a) := hAt.c3
  have CL0 := least_any (way := 0) (.inl rfl) t none w hT.p hF.ok (by omega) (by omega)
  have CL1 := least_any (way := 1) (.inr rfl) t none w hT.p hF.ok (by omega) (by omega)
  have hm : mayB a b = true := by unfold mayB; simp; omega
  rw [hm] at CM
  obtain ⟨l0, hl0e⟩ : ∃ l0, l0 = t.least 0 := ⟨_, rfl⟩
  obtain ⟨l1, hl1e⟩ : ∃ l1, l1 = t.least 1 := ⟨_, rfl⟩
  rw [← hl0e] at CL0 hl0
  rw [← hl1e] at CL1 hl1
  have hla : l0 ≤ 250 := by have : t.sz 0 = t.n.a := rfl; omega
  have hlb : l1 ≤ 250 := by have : t.sz 1 = t.n.b := rfl; omega
  have hno : ∀ W, w.grownBy W none → KeepPost G base tr t k w (.returned (.int .i64 5)) W := fun W G => ⟨5, t, rfl, hT.grown G, ⟨G.os, G.tape, G.output, G.size, fun j hj => G.block j (by omega) (by simp)⟩, hF, hA, rfl⟩
  have hwz : IntKind.i64.wrap (a - t.n.a) = a - t.n.a := i64_sub ha ⟨hge.1, hsz.1⟩
  have hwy : IntKind.i64.wrap (b - t.n.b) = b - t.n.b := i64_sub ⟨hb.1, by omega⟩ ⟨hge.2, by omega⟩
  have CG0 : l0 ≤ a → Calls Tryd.prog 37 #[ptr t.g, .int .i64 0, .int .i64 (a - t.n.a)] w.drew _ := fun h => grow_any (way := 0) (.inl rfl) t none (a - t.n.a) w.drew (hT.p.heap rfl) hT.nd hF.ok (by rw [← hl0e]; show l0 ≤ t.n.a + (a - t.n.a); omega) (by omega) (by omega) (by omega)
  obtain ⟨t1, ht1⟩ : ∃ t1, t1 = t.grow 0 (a - t.n.a) := ⟨_, rfl⟩
  obtain ⟨t2, ht2⟩ : ∃ t2, t2 = t1.grow 1 (b - t.n.b) := ⟨_, rfl⟩
  have h1 : l0 ≤ a → Gr 0 t t1 (a - t.n.a) := fun h => by rw [ht1]; exact grow_ok (.inl rfl) t _ hF.ok (by rw [← hl0e]; show l0 ≤ t.n.a + (a - t.n.a); omega)
  have h1n : l0 ≤ a → t1.n.a = a ∧ t1.n.b = t.n.b := fun h => by
    have q1 : t1.n.a = t.n.a + (a - t.n.a) := (h1 h).sz
    have q2 : t1.n.b = t.n.b := (h1 h).sz'
    omega
  have h1l : t1.least 1 = l1 := by rw [ht1, grow_least, hl1e]
  have h2 : l0 ≤ a → l1 ≤ b → Gr 1 t1 t2 (b - t.n.b) := fun x y => by
    have q := h1n x
    rw [ht2]; exact grow_ok (.inr rfl) t1 _ (h1 x).ok (by rw [h1l]; show l1 ≤ t1.n.b + (b - t.n.b); omega)
  have CG1 : l0 ≤ a → l1 ≤ b → ∀ W, TP G W none t1 → Calls Tryd.prog 37 #[ptr t.g, .int .i64 1, .int .i64 (b - t.n.b)] W.drew fun e w' => e = .returned (.tuple #[]) ∧ TP G w' none t2 ∧ Off G t.bl W.drew w' := fun x y W hW => by
    have q := h1n x
    have := grow_any (way := 1) (.inr rfl) t1 none (b - t.n.b) W.drew (hW.heap rfl) (by rw [ht1, T.grow_bl]; exact hT.nd) (h1 x).ok (by rw [h1l]; show l1 ≤ t1.n.b + (b - t.n.b); omega) (by omega) (by omega) (by omega)
    rw [show t1.g = t.g by rw [ht1]; exact T.grow_g _ _ _, show t1.bl = t.bl by rw [ht1]; exact T.grow_bl _ _ _, ← ht2] at this
    exact this
  have h2b : t2.bl = t.bl ∧ t2.g = t.g := by rw [ht2, ht1]; exact ⟨by rw [T.grow_bl, T.grow_bl], by rw [T.grow_g, T.grow_g]⟩
  have h2f : l0 ≤ a → l1 ≤ b → Fine (t2.place 0 0) k ∧ (t2.place 0 0).leaves.length = t.leaves.length ∧ t2.w01 := fun x y => by
    have q := h1n x
    have q1 : t2.n.b = t1.n.b + (b - t.n.b) := (h2 x y).sz
    have q2 : t2.n.a = t1.n.a := (h2 x y).sz'
    have q3 := fine_of hF (h2 x y).ok (by rw [ht2, ht1, T.grow_ps, T.grow_ps]) (by omega) (by omega)
    exact ⟨q3.1, q3.2, ok_w01 (h2 x y).ok⟩
  have h2a : (t2.place 0 0).er.alt := by rw [T.place_er, ht2, ht1]; exact grow_alt _ _ _ (grow_alt _ _ _ hA)
  replace hm := Lib.hid hm; replace hl0e := Lib.hid hl0e; replace hl1e := Lib.hid hl1e; replace CL0 := Lib.hid CL0; replace CL1 := Lib.hid CL1; replace CM := Lib.hid CM; replace hno := Lib.hid hno; replace CG0 := Lib.hid CG0; replace CG1 := Lib.hid CG1; replace ht1 := Lib.hid ht1; replace ht2 := Lib.hid ht2; replace h1 := Lib.hid h1; replace h1n := Lib.hid h1n; replace h1l := Lib.hid h1l; replace h2 := Lib.hid h2; replace h2b := Lib.hid h2b; replace h2f := Lib.hid h2f; replace h2a := Lib.hid h2a; replace hF := Lib.hid hF; replace hA := Lib.hid hA; replace hT := Lib.hid hT; replace hAt := Lib.hid hAt; replace hbase := Lib.hid hbase
  unfold ptr at *
  go_enter Tryd.func20, Tryd.ntmps20
  go_wp2_with fail
  refine (CM.out _).mono ?_
  rintro e w1 ⟨rfl, rfl⟩
  go_wp2_with fail
  refine CL0.out.mono ?_
  rintro e w2 ⟨rfl, rfl⟩
  rcases Int.lt_or_le a l0 with hca | hca
  · go_wp2_with fail
    go_ret
    exact hno.out w2 (World.grownBy.refl w2 _)
  go_wp2_with fail
  refine CL1.out.mono ?_
  rintro e w3 ⟨rfl, rfl⟩
  rcases Int.lt_or_le b l1 with hcb | hcb
  · go_wp2_with fail
    go_ret
    exact hno.out w3 (World.grownBy.refl w3 _)
  go_upto_region 5 with fail
  go_still_tail 14, (by kernel_rfl)
  change wpList _ _ _ _ _ w3.drew
  go_wp2_with fail
  refine (CG0.out hca).mono ?_
  rintro e w4 ⟨rfl, hT4, o4⟩
  rw [← ht1.out] at hT4
  have o4' : Off G t.bl w3 w4 := o4.undrew
  have hTr4 := hT.out.turned hT4 o4' (by rw [ht1.out]; exact T.grow_g _ _ _) (by rw [ht1.out]; exact T.grow_bl _ _ _)
  have c04 := hTr4.c0
  rw [show t1.g = t.g by rw [ht1.out]; exact T.grow_g _ _ _] at c04
  have c44 : w4.cell? ⟨t.g, 4, none⟩ = some (.int .i64 t.n.b) := by
    have := hT4.atn.c4
    rw [show t1.n.g = t.g by rw [ht1.out]; exact T.grow_g _ _ _, (h1n.out hca).2] at this; exact this
  have CGx := CG1.out hca hcb w4 hT4
  replace CGx := Lib.hid CGx; replace hT4 := Lib.hid hT4; replace o4 := Lib.hid o4; replace o4' := Lib.hid o4'; replace hTr4 := Lib.hid hTr4
  clear CG0 CG1 CL0 CL1 CM
  unfold ptr at c04
  go_upto_region 6 with fail
  go_still_tail 14, (by kernel_rfl)
  change wpList _ _ _ _ _ w4.drew
  go_wp2_with fail
  refine CGx.out.mono ?_
  rintro e w5 ⟨rfl, hT5, o5⟩
  have o5' : Off G t.bl w4 w5 := o5.undrew
  have o45 : Off G t.bl w3 w5 := o4'.out.trans o5' (fun b hb => .inl hb)
  have hTr5 := hT.out.turned hT5 o45 h2b.out.2 h2b.out.1
  have c05 := hTr5.c0
  rw [h2b.out.2] at c05
  obtain ⟨q1, q2, q3⟩ := h2f.out hca hcb
  have CPl := place_any t2 none 0 0 w5 hT5 hTr5.nd q3
  rw [h2b.out.2] at CPl
  have hB5 : Below base w3 w5 := o45.below hT.out.lo.2 hbase.out hT.out.gl
  replace CPl := Lib.hid CPl; replace hT5 := Lib.hid hT5; replace o5 := Lib.hid o5; replace o5' := Lib.hid o5'; replace o45 := Lib.hid o45; replace hTr5 := Lib.hid hTr5; replace q1 := Lib.hid q1; replace q2 := Lib.hid q2; replace q3 := Lib.hid q3; replace hB5 := Lib.hid hB5
  clear CGx c04 c44
  unfold ptr at CPl c05
  go_wp2_with fail
  refine CPl.out.mono ?_
  rintro e w6 ⟨rfl, hT6, o6⟩
  go_wp2_with fail
  go_ret
  exact ⟨0, t2.place 0 0, rfl, hTr5.out.placed hT6 o6, hB5.out.trans (o6.below hTr5.out.lo.2 (Nat.le_trans hbase.out hB5.out.size) hTr5.out.gl), q1.out, h2a.out, q2.out⟩
theorem ups_ctx {w : World} : ∀ (N : Nat) (c : List Fr) (s : T), TP G w none (plug c s) → c.length ≤ N → ups w N s.g = c.length
  | 0, c, s, _, h => by
    have : c = [] := List.eq_nil_of_length_eq_zero (by omega)
    subst this; rfl
  | N + 1, [], s, hT, _ => by
    have h7 : w.cell? ⟨s.g, 7, none⟩ = some (.pointer none) := hT.atn.c7
    unfold ups
    rw [h7]; rfl
  | N + 1, f :: d, s, hT, h => by
    have h7 : w.cell? ⟨s.g, 7, none⟩ = some (.pointer (some ⟨f.n.g, 0, none⟩)) := ((TP_plug (f :: d) s).1 hT).2.atn.c7
    have := ups_ctx N d (.mk f.n (f.L ++ s :: f.R)) hT (by simp at h; omega)
    unfold ups
    rw [h7]
    show 1 + ups w N f.n.g = _
    rw [show f.n.g = (T.mk f.n (f.L ++ s :: f.R)).g from rfl, this, List.length_cons]; omega

theorem two_set {base tr : Nat} {w w' : World} {d : List Fr} {n : Nd} {ks : List T} {i j : Nat} {m q m' q' : T} (hT : Tr G base w tr (plug d (.mk n ks))) (hbase : base ≤ w.heap.size) (hm : ks[i]? = some m) (hq : ks[j]? = some q) (hne : i ≠ j)
    (o : Off G (m.bl ++ q.bl) w w') (hm' : TP G w' (some n.g) m') (hq' : TP G w' (some n.g) q') (gm : m'.g = m.g) (gq : q'.g = q.g) (bm : m'.bl = m.bl) (bq : q'.bl = q.bl) :
    Tr G base w' tr (plug d (.mk n ((ks.set i m').set j q'))) ∧ Below base w w' := by
  have hp := (TP_plug d _).1 hT.p
  have hAt := hp.2.at_
  have hK := TPs_iff.1 hp.2.kids
  obtain ⟨nd, hin, hout⟩ := hT.apart
  obtain ⟨d1, d2, d3⟩ := bl_apart nd
  have hmk : ∀ b ∈ m.bl ++ q.bl, b ∈ blL ks := fun b hb => by
    rcases List.mem_append.1 hb with h | h
    · exact mem_blL.2 ⟨m, List.mem_of_getElem? hm, h⟩
    · exact mem_blL.2 ⟨q, List.mem_of_getElem? hq, h⟩
  have hq2 : (ks.set i m')[j]? = some q := set_ne_get hq hne
  have e1 : ptrs ((ks.set i m').set j q') = ptrs ks := by
    unfold ptrs
    rw [map_set_same (fun t : T => ptr t.g) hq2 (by rw [gq]), map_set_same (fun t : T => ptr t.g) hm (by rw [gm])]
  have e2 : blL ((ks.set i m').set j q') = blL ks := by
    rw [blL_flat, blL_flat, map_set_same T.bl hq2 bq, map_set_same T.bl hm bm]
  have hb2 : (T.mk n ((ks.set i m').set j q')).bl = (T.mk n ks).bl := by rw [T.bl_mk, T.bl_mk, e2]
  refine ⟨hT.focus (t' := .mk n ((ks.set i m').set j q')) o (fun b hb => .inl ?_) ?_ rfl (by rw [hb2]; exact nd) (fun b hb => .inl (by rw [← hb2]; exact hb)) hbase, o.below (B := base) (fun b hb => (hin b (by rw [T.bl_mk]; simp [hmk b hb])).2.2.1) hbase hT.gl⟩
  · rw [T.bl_mk]; simp [hmk b hb]
  · refine .mk ((hAt.off o fun b hb hm => ?_).congr e1) (TPs_iff.2 fun k hk => ?_)
    · have := hmk b hm
      rcases List.mem_cons.1 hb with rfl | hb
      · exact d1 this
      · exact (d2 b (by simpa using hb)).1 this
    · rcases mem_set2 hk with rfl | rfl | ⟨r, r1, r2, r3⟩
      · exact hq'
      · exact hm'
      · refine (hK k (List.mem_of_getElem? r3)).off o fun b hb hm2 => ?_
        rcases List.mem_append.1 hm2 with h | h
        · exact kids_apart d3 r3 hm r1 b hb h
        · exact kids_apart d3 r3 hq r2 b hb h

set_option maxHeartbeats 400000 in
set_option maxRecDepth 100000 in
theorem resize_any (base tr : Nat) (t : T) (k pane z nn : Int) (w : World) (hT : Tr G base w tr t) (hbase : base ≤ w.heap.size) (hF : Fine t k) (hA : t.er.alt) (hp : pane ∈ t.er.ps) (hl : t.leaves.length ≤ 32) (hz : 0 ≤ z ∧ z ≤ 255) (hn : 1 ≤ nn ∧ nn ≤ 20) :
    Calls Tryd.prog 18 #[ptr tr, .int .i64 pane, .int .u8 z, .int .i64 nn] w (KeepPost G base tr t k w) := by
  cases hf : t.find pane with
  | none => exact absurd hp (find_none_iff.1 hf)
  | some l =>
  obtain ⟨hlm, hlp⟩ := find_mem hf
  obtain ⟨c, hce⟩ := leaf_plug t l hlm
  have CL := Lib.hid (leaf_any base tr _ pane w hT (by omega))
  rw [hf] at CL
  have CI : Hid (∀ W, Calls Tryd.prog 40 #[.string ⟨#[76, 82, 85, 68]⟩, .int .u8 z] W fun e w' => e = .returned (.int .i64 (match sideOf z with | some i => (i : Int) | none => -1)) ∧ w' = W) := Lib.hid (fun W => ib_any z W hz.1 hz.2)
  simp only [Option.map_some, uptr] at CL
  have hno : ∀ (W : World) (err : Int), w.grownBy W none → KeepPost G base tr t k w (.returned (.int .i64 err)) W := fun W err G => ⟨err, t, rfl, hT.grown G, ⟨G.os, G.tape, G.output, G.size, fun j hj => G.block j (by omega) (by simp)⟩, hF, hA, rfl⟩
  replace hno := Lib.hid hno; replace hT := Lib.hid hT; replace hbase := Lib.hid hbase; replace hF := Lib.hid hF; replace hA := Lib.hid hA; replace hf := Lib.hid hf; replace hp := Lib.hid hp; replace hlm := Lib.hid hlm; replace hce := Lib.hid hce; replace hl := Lib.hid hl
  unfold ptr at CL ⊢
  cases hs : sideOf z with
  | none =>
    rw [hs] at CI
    go_enter Tryd.func18, Tryd.ntmps18
    go_wp2_with fail
    refine CL.out.mono ?_
    rintro e w1 ⟨rfl, G1⟩
    replace G1 := Lib.hid G1
    clear CL
    go_wp2_with fail
    refine (CI.out _).mono ?_
    rintro e w2 ⟨rfl, rfl⟩
    go_wp2_with fail
    go_ret
    exact hno.out w2 1 G1.out
  | some i =>
    rw [hs] at CI
    have hi4 := side_lt hs
    obtain ⟨al, hal⟩ : ∃ al : Nat, al = i / 2 := ⟨_, rfl⟩
    have hal2 : al < 2 := by omega
    have hq : (i : Int).tdiv 2 = (al : Int) := by rw [Int.tdiv_eq_ediv_of_nonneg (by omega)]; omega
    have hr : (i : Int).tmod 2 = ((i % 2 : Nat) : Int) := by rw [Int.tmod_eq_emod_of_nonneg (by omega)]; omega
    have hi0 : ¬ ((i : Int) < 0) := by omega
    replace hs := Lib.hid hs; replace hal := Lib.hid hal
    go_enter Tryd.func18, Tryd.ntmps18
    go_wp2_with fail
    refine CL.out.mono ?_
    rintro e w1 ⟨rfl, G1⟩
    have hT1 := hT.out.grown G1
    replace G1 := Lib.hid G1; replace hT1 := Lib.hid hT1
    clear CL
    go_wp2_with fail
    refine (CI.out _).mono ?_
    rintro e w2 ⟨rfl, rfl⟩
    clear CI
    go_wp2_with fail
    go_loopw [9] (fun lv wr => ∃ (c' : List Fr) (s : T), lv = .pointer (some ⟨s.g, 0, none⟩) ∧ wr = w2 ∧ Hid (t = plug c' s ∧ c'.length ≤ c.length)) (fun lv wr => match lv with | .pointer (some a) => ups wr c.length a.block | _ => 0)
    case atStart => exact ⟨c, l, rfl, rfl, Lib.hid ⟨hce.out, Nat.le_refl _⟩⟩
    case round =>
      obtain ⟨c', s, rfl, rfl, hI⟩ := hrel
      have hT2 : Tr G base wr tr (plug c' s) := by rw [← hI.out.1]; exact hT1.out
      have hp2 := (TP_plug c' s).1 hT2.p
      have hu := ups_ctx c.length c' s hT2.p hI.out.2
      cases c' with
      | nil =>
        have c7 : wr.cell? ⟨s.g, 7, none⟩ = some (.pointer none) := hp2.2.atn.c7
        replace hT2 := Lib.hid hT2; replace hp2 := Lib.hid hp2; replace hu := Lib.hid hu
        go_wp2_with fail
        go_ret
        exact hno.out wr 14 G1.out
      | cons f d =>
        have c7 : wr.cell? ⟨s.g, 7, none⟩ = some (.pointer (some ⟨f.n.g, 0, none⟩)) := hp2.2.atn.c7
        have hT3 : Tr G base wr tr (plug d (.mk f.n (f.L ++ s :: f.R))) := hT2
        have hp3 := (TP_plug d _).1 hT3.p
        have hAf := hp3.2.at_
        have f5 := hAf.c5
        obtain ⟨fw, hfw⟩ : ∃ fw, fw = f.n.way := ⟨_, rfl⟩
        rw [← hfw] at f5
        have hu2 := ups_ctx c.length d (.mk f.n (f.L ++ s :: f.R)) hT3.p (by have := hI.out.2; simp at this; omega)
        have hmeas : ups wr c.length f.n.g < ups wr c.length s.g := by rw [hu]; rw [show f.n.g = (T.mk f.n (f.L ++ s :: f.R)).g from rfl, hu2]; simp
        replace hT2 := Lib.hid hT2; replace hp2 := Lib.hid hp2; replace hu := Lib.hid hu; replace hT3 := Lib.hid hT3; replace hp3 := Lib.hid hp3; replace hAf := Lib.hid hAf; replace hfw := Lib.hid hfw; replace hu2 := Lib.hid hu2
        by_cases hwa : fw = (al : Int)
        · replace hmeas := Lib.hid hmeas
          have hok : (plug d (.mk f.n (f.L ++ s :: f.R))).er.ok := by
            have := hF.out.ok; rw [hI.out.1] at this; exact this
          have hab : f.n.a ≤ 1000 ∧ f.n.b ≤ 1000 := by
            obtain ⟨B, hB⟩ := nds_ctx d
            have hm : f.n ∈ t.nds := by
              rw [hI.out.1]
              exact (hB (.mk f.n (f.L ++ s :: f.R)) f.n).2 (.inr (by rw [T.nds_mk]; simp))
            have := nds_ok t hF.out.ok f.n hm
            have := hF.out.sz
            omega
          have hnok := (ok_plug d (.mk f.n (f.L ++ s :: f.R)) (.mk f.n []) hok).1
          obtain ⟨ks, hks⟩ : ∃ ks, ks = f.L ++ s :: f.R := ⟨_, rfl⟩
          have hlen2 : 2 ≤ ks.length := by
            rw [hks]
            rcases ok_T.1 hnok with h | h
            · exact absurd h.1 (by simp)
            · exact h.2.2.2.1
          have hlen3 : ks.length ≤ 1000 := by rw [hks]; exact ok_len hnok hab.1 hab.2
          obtain ⟨kk, x, y, hx, hy, hmin⟩ := edge_of (by rw [← hks]; exact hlen2)
          have hidx : ks[f.L.length]? = some s := by rw [hks]; simp
          rw [← hks] at hx hy hmin
          obtain ⟨len, hlen⟩ : ∃ len, len = ks.length := ⟨_, rfl⟩
          obtain ⟨idx, hidxe⟩ : ∃ idx, idx = f.L.length := ⟨_, rfl⟩
          rw [← hlen, ← hidxe] at hmin
          rw [← hlen] at hlen2 hlen3
          rw [← hidxe] at hidx
          have hyl : kk + 1 < len := by rw [hlen]; exact (List.getElem?_eq_some_iff.1 hy).1
          obtain ⟨e1, e2, e3, e4, e5, e6⟩ := edge_lt hyl hlen3
          have hwl := wrap_less hlen3
          obtain ⟨Bf, fo, hfr, hxc⟩ := hAf.out.kidc (i := kk) (k := x) (by rw [← hks]; exact hx)
          obtain ⟨Bf', fo', hbf', hyc⟩ := hAf.out.kidc (i := kk + 1) (k := y) (by rw [← hks]; exact hy)
          rw [hfr] at hbf'
          injection hbf' with hbf'
          injection hbf' with hb1 hb2
          subst hb1; subst hb2
          have f6 : wr.cell? ⟨f.n.g, 6, none⟩ = some (.slice (some ⟨Bf, fo, none⟩) len f.n.c) := by have := hAf.out.c6; rw [hfr, ← hks, ← hlen] at this; exact this
          have hR := hAf.out.rd
          rw [hfr, ← hks] at hR
          obtain ⟨nd, hin, hout⟩ := hT3.out.apart
          rw [← hks] at nd
          obtain ⟨d1, d2, d3⟩ := bl_apart nd
          have hsep : ∀ r ∈ ks.take idx, r.g ≠ s.g := by
            rw [split_at hidx] at d3
            exact g_sep d3
          have hK := TPs_iff.1 hp3.out.2.kids
          rw [← hks] at hK
          have CX := index_any (some ⟨Bf, fo, none⟩) len f.n.c s.g idx ks s wr hlen (Nat.le_trans hlen3 (by decide)) hR hidx rfl hsep (fun r hr => (hK r hr).isC)
          replace hok := Lib.hid hok; replace hab := Lib.hid hab; replace hnok := Lib.hid hnok; replace hks := Lib.hid hks; replace hx := Lib.hid hx; replace hy := Lib.hid hy; replace hidx := Lib.hid hidx; replace hlen := Lib.hid hlen; replace hidxe := Lib.hid hidxe; replace hfr := Lib.hid hfr; replace hR := Lib.hid hR; replace nd := Lib.hid nd; replace hin := Lib.hid hin; replace hout := Lib.hid hout; replace d1 := Lib.hid d1; replace d2 := Lib.hid d2; replace d3 := Lib.hid d3; replace hsep := Lib.hid hsep; replace hK := Lib.hid hK; replace CX := Lib.hid CX
          replace hlen2 := Lib.hid hlen2; replace hlen3 := Lib.hid hlen3
          unfold ptr at hxc hyc CX
          go_wp2_with fail
          refine CX.out.mono ?_
          rintro e w3 ⟨rfl, rfl⟩
          clear CX
          go_upto_region 14 with fail
          refine wp_region_still_tail 10 (by kernel_rfl) (by kernel_rfl) ?_
          simp only [List.take_succ_cons, List.take_zero, List.drop_succ_cons, List.drop_zero]
          repeat still_step
          refine wpStill_nil ?_
          change wpList _ _ _ _ _ w3.drew
          go_upto_if 81 with fail
          go_cut [14, 15] (fun mv lv wx => ∃ (pm pq : Nat) (m q : T), mv = .pointer (some ⟨m.g, 0, none⟩) ∧ lv = .pointer (some ⟨q.g, 0, none⟩) ∧ wx = w3.drew ∧ Hid (ks[pm]? = some m ∧ ks[pq]? = some q ∧ pm ≠ pq))
          case first =>
            by_cases he : i % 2 = 0
            · have he2 : (((i % 2 : Nat) : Int) == 0) = true := by rw [he]; rfl
              replace he := Lib.hid he
              go_wp2_with fail
              go_meet
              exact ⟨kk + 1, kk, y, x, rfl, rfl, rfl, Lib.hid ⟨hy.out, hx.out, by omega⟩⟩
            · have he2 : (((i % 2 : Nat) : Int) == 0) = false := beq_eq_false_iff_ne.2 (by omega)
              replace he := Lib.hid he
              go_wp2_with fail
              go_meet
              exact ⟨kk, kk + 1, x, y, rfl, rfl, rfl, Lib.hid ⟨hx.out, hy.out, by omega⟩⟩
          case rest =>
            obtain ⟨pm, pq, m, q, rfl, rfl, rfl, hMQ⟩ := hcut
            obtain ⟨wx, hwx⟩ : ∃ wx, wx = w3.drew := ⟨_, rfl⟩
            rw [← hwx]
            obtain ⟨hm, hq', hpn⟩ := hMQ.out
            have hmm := List.mem_of_getElem? hm
            have hqm := List.mem_of_getElem? hq'
            obtain ⟨ma, mb, mc⟩ := ok_kid hnok.out (k := m) (by rw [← hks.out]; exact hmm)
            obtain ⟨qa, qb, qc⟩ := ok_kid hnok.out (k := q) (by rw [← hks.out]; exact hqm)
            obtain ⟨ab1, ab2⟩ := hab.out
            have hal3 : (al : Int) = 0 ∨ (al : Int) = 1 := by omega
            have hfal : f.n.way = (al : Int) := by rw [← hfw.out]; exact hwa
            have hTq : TP G wx (some f.n.g) q := by rw [hwx]; exact (hK.out q hqm).heap rfl
            have hTm : TP G wx (some f.n.g) m := by rw [hwx]; exact (hK.out m hmm).heap rfl
            have hqN : q.bl.Nodup := by
              have := d3.out
              rw [split_at hq'] at this
              exact (kid_apart this).1
            have hmN : m.bl.Nodup := by
              have := d3.out
              rw [split_at hm] at this
              exact (kid_apart this).1
            have hmq : ∀ b ∈ q.bl, b ∉ m.bl := kids_apart d3.out hq' hm (fun e => hpn e.symm)
            obtain ⟨qz, hqz⟩ : ∃ qz, qz = q.sz al := ⟨_, rfl⟩
            have q3 : wx.cell? ⟨q.g, 3 + al, none⟩ = some (.int .i64 qz) := by
              rw [hqz]
              rcases Nat.lt_or_ge al 1 with h | h
              · obtain rfl : al = 0 := by omega
                exact hTq.atn.c3
              · obtain rfl : al = 1 := by omega
                exact hTq.atn.c4
            obtain ⟨lk, hlk⟩ : ∃ lk, lk = q.least al := ⟨_, rfl⟩
            have hlq := least_le hal3 q qa
            have hqz1 : qz ≤ 1000 := by rw [hqz]; exact sz_le (Int.le_trans qb ab1) (Int.le_trans qc ab2) _
            rw [← hlk, ← hqz] at hlq
            have CLq := least_any (way := (al : Int)) hal3 q (some f.n.g) wx.drew (hTq.heap rfl) qa (Int.le_trans qb ab1) (Int.le_trans qc ab2)
            rw [← hlk] at CLq
            obtain ⟨zz, hzz⟩ : ∃ zz, zz = min nn (qz - lk) := ⟨_, rfl⟩
            have e8 : min nn (IntKind.i64.wrap (qz - lk)) = zz := by rw [IntKind.wrap_i64]; omega
            have hzz1 : 0 ≤ zz ∧ zz ≤ 20 ∧ lk ≤ qz - zz := by omega
            have CGm := grow_any hal3 m (some f.n.g) zz wx.drew (hTm.heap rfl) hmN ma (by have := least_le hal3 m ma; omega) (Int.le_trans mb ab1) (Int.le_trans mc ab2) (by omega)
            have CGq : ∀ W, TP G W (some f.n.g) q → Calls Tryd.prog 37 #[ptr q.g, .int .i64 al, .int .i64 (-zz)] W fun e w' => e = .returned (.tuple #[]) ∧ TP G w' (some f.n.g) (q.grow al (-zz)) ∧ Off G q.bl W w' := fun W hW => grow_any hal3 q (some f.n.g) (-zz) W hW hqN qa (by rw [← hlk, ← hqz]; omega) (Int.le_trans qb ab1) (Int.le_trans qc ab2) (by omega)
            have hres := resized_ok (z := zz) (by have := hok.out; rw [← hks.out] at this; exact this) (by have := hA.out; rw [hI.out.1, show plug (f :: d) s = plug d (.mk f.n (f.L ++ s :: f.R)) from rfl, ← hks.out] at this; exact this) hm hq' hpn hzz1.1 (by rw [hfal, ← hlk]; show lk ≤ q.sz al - zz; rw [← hqz]; exact hzz1.2.2) _ rfl
            rw [hfal] at hres
            have hz0 := hzz1.1
            have hz20 := hzz1.2.1
            have hqzb : -1000 ≤ qz - lk ∧ qz - lk ≤ 1000 := by omega
            have hal4 : (al : Int) < 2 := by omega
            have hal5 : (0 : Int) ≤ (al : Int) := by omega
            replace hwx := Lib.hid hwx; replace hm := Lib.hid hm; replace hq' := Lib.hid hq'; replace hpn := Lib.hid hpn; replace hmm := Lib.hid hmm; replace hqm := Lib.hid hqm; replace ma := Lib.hid ma; replace mb := Lib.hid mb; replace mc := Lib.hid mc; replace qa := Lib.hid qa; replace qb := Lib.hid qb; replace qc := Lib.hid qc; replace ab1 := Lib.hid ab1; replace ab2 := Lib.hid ab2; replace hal3 := Lib.hid hal3; replace hfal := Lib.hid hfal; replace hTq := Lib.hid hTq; replace hTm := Lib.hid hTm; replace hqN := Lib.hid hqN; replace hmN := Lib.hid hmN; replace hmq := Lib.hid hmq; replace hqz := Lib.hid hqz; replace hlk := Lib.hid hlk; replace hlq := Lib.hid hlq; replace CLq := Lib.hid CLq; replace hzz := Lib.hid hzz; replace e8 := Lib.hid e8; replace hzz1 := Lib.hid hzz1; replace CGm := Lib.hid CGm; replace CGq := Lib.hid CGq; replace hres := Lib.hid hres
            unfold ptr at CLq CGm
            go_upto_region 17 with fail
            refine wp_region_still_tail 12 (by kernel_rfl) (by kernel_rfl) ?_
            simp only [List.take_succ_cons, List.take_zero, List.drop_succ_cons, List.drop_zero]
            repeat still_step
            still_call (CLq.out)
            repeat still_step
            refine wpStill_nil ?_
            change wpList _ _ _ _ _ wx.drew
            simp only [e8.out]
            have hG2 : w.grownBy wx.drew none := by rw [hwx.out]; exact g_drew (g_drew G1.out)
            replace hG2 := Lib.hid hG2
            by_cases hzero : zz = 0
            · subst hzero
              go_wp2_with fail
              go_ret
              exact hno.out _ 5 hG2.out
            have hzb : (zz == 0) = false := beq_eq_false_iff_ne.2 hzero
            go_wp2_with fail
            refine CGm.out.mono ?_
            rintro e w4 ⟨rfl, hTm4, o4⟩
            have o4' : Off G m.bl w3 w4 := by
              have o := o4
              rw [hwx.out] at o
              exact o.undrew.undrew
            have CGq4 := CGq.out w4 ((hK.out q hqm.out).off o4' hmq.out)
            replace hTm4 := Lib.hid hTm4; replace o4 := Lib.hid o4; replace o4' := Lib.hid o4'; replace CGq4 := Lib.hid CGq4
            clear CGm CGq CLq
            unfold ptr at CGq4
            go_wp2_with fail
            refine CGq4.out.mono ?_
            rintro e w5 ⟨rfl, hTq5, o5⟩
            have o45 : Off G (m.bl ++ q.bl) w3 w5 := (o4'.out.sub (S' := m.bl ++ q.bl) (fun b hb => .inl (by simp [hb]))).trans o5 (fun b hb => .inl (by simp [hb]))
            have hTm5 : TP G w5 (some f.n.g) (m.grow al zz) := hTm4.out.off o5 (fun b hb hb2 => hmq.out b hb2 (by rwa [T.grow_bl] at hb))
            have hbase3 : base ≤ w3.heap.size := Nat.le_trans hbase.out G1.out.size
            obtain ⟨hT5, hB5⟩ := two_set (by have := hT3.out; rw [← hks.out] at this; exact this) hbase3 hm.out hq'.out hpn.out o45 hTm5 hTq5 (T.grow_g _ _ _) (T.grow_g _ _ _) (T.grow_bl _ _ _) (T.grow_bl _ _ _)
            obtain ⟨tt, htt⟩ : ∃ tt, tt = plug d (.mk f.n ((ks.set pm (m.grow al zz)).set pq (q.grow al (-zz)))) := ⟨_, rfl⟩
            have hres' := hres.out
            rw [← htt] at hT5 hres'
            obtain ⟨r1, r2, r3, r4, r5⟩ := hres'
            have htp : plug d (.mk f.n ks) = t := by rw [hks.out]; exact hI.out.1.symm
            rw [htp] at r3 r4 r5
            have hsz := hF.out.sz
            have hfine := fine_of hF.out r1 r5 (by omega) (by omega)
            have q60 := hT5.c0
            have CPl := place_any tt none 0 0 w5 hT5.p hT5.nd (ok_w01 r1)
            have hB : Below base w w5 := Below.trans ⟨G1.out.os, G1.out.tape, G1.out.output, G1.out.size, fun j hj => G1.out.block j (Nat.lt_of_lt_of_le hj hbase.out) (by simp)⟩ hB5
            have hfin : ∀ w6, TP G w6 none (tt.place 0 0) → Off G tt.bl w5 w6 → KeepPost G base tr t k w (.returned (.int .i64 0)) w6 := fun w6 hT6 o6 =>
              ⟨0, tt.place 0 0, rfl, hT5.placed hT6 o6, hB.trans (o6.below hT5.lo.2 (Nat.le_trans hbase.out hB.size) hT5.gl), hfine.1, by rw [T.place_er]; exact r2, hfine.2⟩
            replace hfin := Lib.hid hfin; replace CPl := Lib.hid CPl; replace hB := Lib.hid hB; replace hfine := Lib.hid hfine; replace hsz := Lib.hid hsz; replace htp := Lib.hid htp; replace r1 := Lib.hid r1; replace r2 := Lib.hid r2; replace r3 := Lib.hid r3; replace r4 := Lib.hid r4; replace r5 := Lib.hid r5; replace htt := Lib.hid htt; replace hT5 := Lib.hid hT5; replace hB5 := Lib.hid hB5; replace hTm5 := Lib.hid hTm5; replace o45 := Lib.hid o45; replace hTq5 := Lib.hid hTq5; replace o5 := Lib.hid o5
            clear CGq4 f6 f5 c7 hxc hyc q3
            unfold ptr at CPl q60
            go_wp2_with fail
            refine CPl.out.mono ?_
            rintro e w6 ⟨rfl, hT6, o6⟩
            go_wp2_with fail
            go_ret
            exact hfin.out w6 hT6 o6
        · go_wp2_with fail
          refine ⟨⟨d, .mk f.n (f.L ++ s :: f.R), rfl, trivial, Lib.hid ⟨hI.out.1, by have := hI.out.2; simp at this; omega⟩⟩, ?_⟩
          exact hmeas
end Go.Proofs.YtcklmkjlbpjojaaDoor.X
