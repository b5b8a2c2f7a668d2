/- Layout: Split as a whole; what it keeps. -/
import Derived.Test.YtcklmkjlbpjojaaDoorE3
import Derived.Test.YtcklmkjlbpjojaaDoorE4
namespace Go.Proofs.YtcklmkjlbpjojaaDoor
open Go.RowKit
set_option linter.unusedSimpArgs false
set_option linter.unusedVariables false

/-- A tree that lies well: filled, its panes apart and from 1 to k, its places those of its sizes. -/
structure Fine (t : T) (k : Int) : Prop where
  ok : t.er.ok
  ps : t.er.ps.Nodup
  pk : ∀ p ∈ t.er.ps, 1 ≤ p ∧ p ≤ k
  pl : t.place 0 0 = t
  sz : t.n.a ≤ 250 ∧ t.n.b ≤ 120
theorem placeL_idem (way : Int) (h : ∀ k : T, ∀ x y, (k.place x y).place x y = k.place x y) : ∀ (ks : List T) (x y : Int), placeL way (placeL way ks x y) x y = placeL way ks x y
  | [], x, y => by rw [placeL_nil, placeL_nil]
  | k :: ks, x, y => by
    rw [placeL_cons, placeL_cons, h]
    have : (k.place x y).n.a = k.n.a ∧ (k.place x y).n.b = k.n.b := by rw [T.place_n]; exact ⟨rfl, rfl⟩
    unfold nx ny
    rw [this.1, this.2]
    congr 1
    exact placeL_idem way h ks _ _
theorem T.place_idem (t : T) : ∀ x y, (t.place x y).place x y = t.place x y := by
  induction t using T.ind with
  | h n ks ih =>
    intro x y
    rw [T.place_mk, T.place_mk]
    have : ∀ (l : List T) (x y : Int), (∀ k ∈ l, ∀ x y, (k.place x y).place x y = k.place x y) → placeL n.way (placeL n.way l x y) x y = placeL n.way l x y := by
      intro l
      induction l with
      | nil => intro x y _; rw [placeL_nil, placeL_nil]
      | cons k l ih2 =>
        intro x y h
        rw [placeL_cons, placeL_cons, h k (by simp)]
        have h3 : (k.place x y).n.a = k.n.a ∧ (k.place x y).n.b = k.n.b := by rw [T.place_n]; exact ⟨rfl, rfl⟩
        unfold nx ny
        rw [h3.1, h3.2]
        congr 1
        exact ih2 _ _ fun k hk => h k (by simp [hk])
    show T.mk _ (placeL n.way (placeL n.way ks x y) x y) = _
    rw [this ks x y ih]
theorem T.place_place (t : T) (x y x' y' : Int) : (t.place x y).n.a = t.n.a ∧ (t.place x y).n.b = t.n.b := by rw [T.place_n]; exact ⟨rfl, rfl⟩
/-- The panes round a place. -/
theorem ps_ctx (c : List Fr) : ∃ A B, ∀ t : T, (plug c t).er.ps = A ++ t.er.ps ++ B := by
  obtain ⟨A, B, h⟩ := leaves_ctx c
  refine ⟨A.map (fun s => s.n.p), B.map (fun s => s.n.p), fun t => ?_⟩
  rw [← T.leaves_ps, h, List.map_append, List.map_append, T.leaves_ps]
theorem leaves_len (t : T) : t.leaves.length = t.er.ps.length := by rw [← T.leaves_ps]; simp
theorem find_some_of {t : T} {s : T} (hn : t.er.ps.Nodup) (hs : s ∈ t.leaves) : t.find s.n.p = some s := by
  unfold T.find
  rw [← T.leaves_ps] at hn
  generalize t.leaves = l at *
  induction l with
  | nil => cases hs
  | cons a l ih =>
    rw [List.map_cons, List.nodup_cons] at hn
    rw [List.find?_cons]
    rcases List.mem_cons.1 hs with rfl | hs
    · simp
    · have hne : a.n.p ≠ s.n.p := fun e => hn.1 (by rw [e]; exact List.mem_map_of_mem hs)
      have : (a.n.p == s.n.p) = false := by simp [hne]
      rw [this]
      exact ih hn.2 hs
theorem find_none_iff {t : T} {p : Int} : t.find p = none ↔ p ∉ t.er.ps := by
  unfold T.find
  rw [List.find?_eq_none, ← T.leaves_ps]
  simp only [List.mem_map, not_exists, not_and, beq_iff_eq]
/-- What a split's kids fill, one of them parted. -/
theorem fills_part {a b way : Int} {L R : List E} {e l n : E} (h : fills a b way (L ++ e :: R)) (before : Bool)
    (hw : (way = 0 → l.b = e.b ∧ n.b = e.b ∧ l.a + 1 + (n.a + 1) = e.a + 1) ∧ (way = 1 → l.a = e.a ∧ n.a = e.a ∧ l.b + 1 + (n.b + 1) = e.b + 1)) :
    fills a b way (L ++ (if before = true then [n, l] else [l, n]) ++ R) := by
  rcases h with ⟨h0, h1, h2⟩ | ⟨h0, h1, h2⟩
  · obtain ⟨x1, x2, x3⟩ := hw.1 h0
    have he := h1 e (by simp)
    refine .inl ⟨h0, fun k hk => ?_, ?_⟩
    · simp only [List.mem_append] at hk
      rcases hk with (hk | hk) | hk
      · exact h1 k (by simp [hk])
      · cases before <;> simp at hk <;> rcases hk with rfl | rfl <;> omega
      · exact h1 k (by simp [hk])
    · cases before <;> simp at h2 ⊢ <;> omega
  · obtain ⟨x1, x2, x3⟩ := hw.2 h0
    have he := h1 e (by simp)
    refine .inr ⟨h0, fun k hk => ?_, ?_⟩
    · simp only [List.mem_append] at hk
      rcases hk with (hk | hk) | hk
      · exact h1 k (by simp [hk])
      · cases before <;> simp at hk <;> rcases hk with rfl | rfl <;> omega
      · exact h1 k (by simp [hk])
    · cases before <;> simp at h2 ⊢ <;> omega
theorem ps_leaf (n : Nd) : (T.mk n []).er.ps = [n.p] := by rw [T.er_mk, erL_nil, E.ps_mk, psL_nil]; rfl
theorem psL_app (l r : List E) : psL (l ++ r) = psL l ++ psL r := by
  induction l with
  | nil => simp [psL_nil]
  | cons k l ih => simp [psL_cons, ih]
theorem ps_node (n : Nd) (ks : List T) (h : ks ≠ []) : (T.mk n ks).er.ps = psL (erL ks) := by
  rw [T.er_mk, E.ps_mk, erL_len, if_neg (by simpa using h)]; rfl
set_option maxHeartbeats 1000000 in
theorem split_fine {c c0 : List Fr} {l : T} {f : Fr} {f' l' n' : Nd} {before : Bool} {way other a' b' na nb k : Int} (hF : Fine (plug c l) k) (hlk : l.ks = [])
    (ho : other ∉ (plug c l).er.ps ∧ 1 ≤ other ∧ other ≤ 999 ∧ k ≤ other) (hway : way = 0 ∨ way = 1)
    (hs : (way = 0 → b' = l.n.b ∧ nb = l.n.b ∧ a' + 1 + (na + 1) = l.n.a + 1) ∧ (way = 1 → a' = l.n.a ∧ na = l.n.a ∧ b' + 1 + (nb + 1) = l.n.b + 1)) (h1 : 1 ≤ a' ∧ 1 ≤ b' ∧ 1 ≤ na ∧ 1 ≤ nb)
    (e1 : f'.p = f.n.p ∧ f'.a = f.n.a ∧ f'.b = f.n.b ∧ f'.way = f.n.way) (e2 : f.n.way = way) (e3 : l'.p = l.n.p ∧ l'.a = a' ∧ l'.b = b' ∧ (l'.way = l.n.way ∨ l'.way = 0)) (e4 : n'.p = other ∧ n'.a = na ∧ n'.b = nb ∧ n'.way = 0)
    (e5 : c = f :: c0 ∨ ((∀ g d, c = g :: d → g.n.way ≠ way) ∧ c0 = c ∧ f.L = [] ∧ f.R = [] ∧ f.n.a = l.n.a ∧ f.n.b = l.n.b ∧ f.n.p = 0)) :
    Fine ((plug c0 (.mk f' (f.L ++ (if before = true then [.mk n' [], .mk l' []] else [.mk l' [], .mk n' []]) ++ f.R))).place 0 0) other ∧
      ((plug c0 (.mk f' (f.L ++ (if before = true then [.mk n' [], .mk l' []] else [.mk l' [], .mk n' []]) ++ f.R))).place 0 0).er.ps.Perm (other :: (plug c l).er.ps) := by
  have hlok := (ok_plug c l l hF.ok).1
  obtain ⟨⟨hp0, hp1⟩, hlw⟩ : (1 ≤ l.n.p ∧ l.n.p ≤ 999) ∧ l.n.way = 0 := by
    cases l with | mk n ks =>
      cases hlk
      rw [T.er_mk, erL_nil] at hlok
      rcases hlok.inv with ⟨_, h, hp, _⟩ | ⟨_, _, _, h, _⟩
      · exact ⟨hp, h⟩
      · simp at h
  have hl0 : l.er.ps = [l.n.p] := by cases l with | mk n ks => cases hlk; exact ps_leaf n
  obtain ⟨X, hX⟩ : ∃ X : List T, X = (if before = true then [.mk n' [], .mk l' []] else [.mk l' [], .mk n' []]) := ⟨_, rfl⟩
  rw [← hX]
  have hXe : erL X = (if before = true then [E.mk other na nb 0 [], E.mk l.n.p a' b' 0 []] else [E.mk l.n.p a' b' 0 [], E.mk other na nb 0 []]) := by
    have hw : l'.way = 0 := by rcases e3.2.2.2 with h | h; rw [h, hlw]; exact h
    rw [hX]
    cases before <;> simp [erL_cons, erL_nil, T.er_mk, e3.1, e3.2.1, e3.2.2.1, hw, e4.1, e4.2.1, e4.2.2.1, e4.2.2.2]
  have okl : (E.mk l.n.p a' b' 0 []).ok := .leaf ⟨hp0, hp1⟩ h1.1 h1.2.1
  have okn : (E.mk other na nb 0 []).ok := .leaf ⟨ho.2.1, ho.2.2.1⟩ h1.2.2.1 h1.2.2.2
  have hXok : ∀ e ∈ erL X, e.ok := by
    intro e he
    rw [hXe] at he
    cases before <;> simp at he <;> rcases he with rfl | rfl <;> assumption
  have hXps : (psL (erL X)).Perm [other, l.n.p] := by
    rw [hXe]
    cases before
    · simp [psL_cons, psL_nil, E.ps_mk]; exact List.Perm.swap _ _ _
    · simp [psL_cons, psL_nil, E.ps_mk]
  have hXl : X.length = 2 := by rw [hX]; split <;> rfl
  have hXn : X ≠ [] := by intro h; rw [h] at hXl; cases hXl
  obtain ⟨TF, hTF⟩ : ∃ TF, TF = plug c0 (.mk f' (f.L ++ X ++ f.R)) := ⟨_, rfl⟩
  rw [← hTF]
  have hmain : TF.er.ok ∧ TF.n.a = (plug c l).n.a ∧ TF.n.b = (plug c l).n.b ∧ TF.er.ps.Perm (other :: (plug c l).er.ps) := by
    rw [hTF]
    rcases e5 with hc | ⟨_, hc, hL, hR, ga, gb, gp⟩
    · subst hc
      have hok0 : (plug c0 (.mk f.n (f.L ++ l :: f.R))).er.ok := hF.ok
      obtain ⟨h3, h4⟩ := ok_plug c0 (.mk f.n (f.L ++ l :: f.R)) (.mk f' (f.L ++ X ++ f.R)) hok0
      rw [T.er_mk, erL_map] at h3
      have hnew : (T.mk f' (f.L ++ X ++ f.R)).er.ok := by
        rw [T.er_mk, e1.1, e1.2.1, e1.2.2.1, e1.2.2.2, erL_map, List.map_append, List.map_append, ← erL_map X, hXe]
        rw [List.map_append, List.map_cons] at h3
        rcases h3.inv with ⟨h, _⟩ | ⟨hp, ha, hb, hl, hf, hk⟩
        · simp at h
        · rw [hp]
          refine .node ha hb (by simp; split <;> simp <;> omega) (fills_part hf before ?_) ?_
          · rw [T.er_a, T.er_b, e2]
            refine ⟨fun h => ?_, fun h => ?_⟩
            · have := hs.1 h; exact ⟨this.1, this.2.1, this.2.2⟩
            · have := hs.2 h; exact ⟨this.1, this.2.1, this.2.2⟩
          · intro k hk'
            simp only [List.mem_append] at hk'
            rcases hk' with (h | h) | h
            · exact hk k (by simp [h])
            · exact hXok k (by rw [hXe]; exact h)
            · exact hk k (by simp [h])
      obtain ⟨h5, h6, h7⟩ := h4 hnew e1.2.1 e1.2.2.1
      refine ⟨h5, h6, h7, ?_⟩
      obtain ⟨A, B, hAB⟩ := ps_ctx c0
      show (plug c0 (.mk f' (f.L ++ X ++ f.R))).er.ps.Perm (other :: (plug c0 (.mk f.n (f.L ++ l :: f.R))).er.ps)
      rw [hAB, hAB, ps_node _ _ (by simp [hXn]), ps_node _ _ (by simp), erL_map, erL_map, List.map_append, List.map_append, List.map_append, List.map_cons, ← erL_map X, psL_app, psL_app, psL_app, psL_cons, hl0]
      refine List.perm_iff_count.2 fun a => ?_
      have := List.perm_iff_count.1 hXps a
      simp only [List.count_append, List.count_cons, List.count_nil] at this ⊢
      omega
    · subst hc
      obtain ⟨h3, h4⟩ := ok_plug c0 l (.mk f' (f.L ++ X ++ f.R)) hF.ok
      have hg := h3.ge
      rw [T.er_a, T.er_b] at hg
      have hnew : (T.mk f' (f.L ++ X ++ f.R)).er.ok := by
        rw [hL, hR, List.nil_append, List.append_nil, T.er_mk, e1.1, e1.2.1, e1.2.2.1, e1.2.2.2, gp, ga, gb, e2, hXe]
        refine .node hg.1 hg.2 (by split <;> simp) ?_ (by rw [← hXe]; exact hXok)
        rcases hway with h | h
        · have := hs.1 h
          refine .inl ⟨h, ?_, ?_⟩
          · intro k hk; cases before <;> simp at hk <;> rcases hk with rfl | rfl <;> simp [E.b, this]
          · cases before <;> simp [E.a] <;> omega
        · have := hs.2 h
          refine .inr ⟨h, ?_, ?_⟩
          · intro k hk; cases before <;> simp at hk <;> rcases hk with rfl | rfl <;> simp [E.a, this]
          · cases before <;> simp [E.b] <;> omega
      obtain ⟨h5, h6, h7⟩ := h4 hnew (by show f'.a = _; rw [e1.2.1, ga]) (by show f'.b = _; rw [e1.2.2.1, gb])
      refine ⟨h5, h6, h7, ?_⟩
      obtain ⟨A, B, hAB⟩ := ps_ctx c0
      rw [hAB, hAB, hL, hR, List.nil_append, List.append_nil, ps_node _ _ hXn, hl0]
      refine List.perm_iff_count.2 fun a => ?_
      have := List.perm_iff_count.1 hXps a
      simp only [List.count_append, List.count_cons, List.count_nil] at this ⊢
      omega
  obtain ⟨m1, m2, m3, m4⟩ := hmain
  have hsz := hF.sz
  refine ⟨⟨by rw [T.place_er]; exact m1, ?_, ?_, T.place_idem _ _ _, ?_⟩, by rw [T.place_er]; exact m4⟩
  · rw [T.place_er]
    exact m4.nodup_iff.2 (List.nodup_cons.2 ⟨ho.1, hF.ps⟩)
  · intro p hp
    rw [T.place_er] at hp
    rcases List.mem_cons.1 (m4.mem_iff.1 hp) with rfl | hp
    · exact ⟨ho.2.1, Int.le_refl _⟩
    · have := hF.pk p hp; omega
  · rw [(T.place_place TF 0 0 0 0).1, (T.place_place TF 0 0 0 0).2, m2, m3]; exact hsz
/-- What Split does with a tree that lies well. -/
def SplitPost (base tr : Nat) (t : T) (pane other size : Int) (beside before : Bool) (w : World) (e : Ending) (w' : World) : Prop :=
  ∃ (err : Int) (t' : T), e = .returned (.int .i64 err) ∧ Tr base w' tr t' ∧ Below base w w' ∧
    ((err ≠ 0 ∧ t' = t) ∨ (err = 0 ∧ Fine t' other ∧ t'.er.ps.Perm (other :: t.er.ps) ∧
      ∃ (c : List Fr) (l : T) (a' b' na nb : Int) (f : Fr) (c0 : List Fr) (f' l' n' : Nd), t = plug c l ∧ l.ks = [] ∧ t.find pane = some l ∧
        t' = (plug c0 (.mk f' (f.L ++ (if before = true then [.mk n' [], .mk l' []] else [.mk l' [], .mk n' []]) ++ f.R))).place 0 0 ∧
        (f'.p = f.n.p ∧ f'.a = f.n.a ∧ f'.b = f.n.b ∧ f'.way = f.n.way) ∧ f.n.way = (if beside = true then 0 else 1) ∧ (l'.p = l.n.p ∧ l'.a = a' ∧ l'.b = b' ∧ (l'.way = l.n.way ∨ l'.way = 0)) ∧ (n'.p = other ∧ n'.a = na ∧ n'.b = nb ∧ n'.way = 0) ∧
        (c = f :: c0 ∨ ((∀ g d, c = g :: d → g.n.way ≠ (if beside = true then 0 else 1)) ∧ c0 = c ∧ f.L = [] ∧ f.R = [] ∧ f.n.a = l.n.a ∧ f.n.b = l.n.b ∧ f.n.p = 0)) ∧
        ((beside = true → b' = l.n.b ∧ nb = l.n.b ∧ a' + 1 + (na + 1) = l.n.a + 1) ∧ (beside = false → a' = l.n.a ∧ na = l.n.a ∧ b' + 1 + (nb + 1) = l.n.b + 1)) ∧ (1 ≤ a' ∧ 1 ≤ b' ∧ 1 ≤ na ∧ 1 ≤ nb)))
theorem splitErr_ne {t : T} {other size err : Int} {l : Option T} {z : T → Int} (he : splitErr t other size l z = some err) : err ≠ 0 := by
  unfold splitErr at he
  split at he
  · injection he; omega
  · split at he
    · injection he; omega
    · split at he
      · injection he; omega
      · split at he
        · injection he; omega
        · cases he
theorem splitErr_none {t l : T} {other size : Int} {z : T → Int} (he : splitErr t other size (some l) z = none) : t.leaves.length < 32 ∧ 3 ≤ z l ∧ size ≤ z l - 2 := by
  simp only [splitErr] at he
  split at he
  · cases he
  · split at he
    · cases he
    · split at he
      · cases he
      · omega
theorem split_any (base tr : Nat) (t : T) (k pane other size : Int) (beside before : Bool) (w : World) (hT : Tr base w tr t) (hbase : base ≤ w.heap.size) (hF : Fine t k) (hp : pane ∈ t.er.ps) (ho : 1 ≤ other ∧ other ≤ 999 ∧ k < other) (hs : 0 ≤ size ∧ size ≤ 1000) (hl : t.leaves.length ≤ 100000) :
    Calls Tryd.prog 12 #[ptr tr, .int .i64 pane, .int .i64 other, .bool beside, .int .i64 size, .bool before] w (SplitPost base tr t pane other size beside before w) := by
  have hnps : other ∉ t.er.ps := fun h => by have := hF.pk _ h; omega
  have hbd : ∀ s ∈ t.leaves, 1 ≤ s.n.a ∧ s.n.a ≤ 250 ∧ 1 ≤ s.n.b ∧ s.n.b ≤ 120 := fun s hs => by
    obtain ⟨c, e⟩ := leaf_plug t s hs
    obtain ⟨A, hA⟩ := nds_ctx c
    have hm : s.n ∈ t.nds := by rw [e]; exact (hA s s.n).2 (.inr (by cases s; rw [T.nds_mk]; simp [T.n]))
    have := nds_ok t hF.ok s.n hm
    have := hF.sz
    omega
  cases he : splitErr t other size (t.find pane) (fun s => if beside then s.n.a else s.n.b) with
  | some err =>
    refine (split_no base tr t pane other size err beside before w hT hl (by omega) (by omega) (fun s hs => by have := hbd s hs; omega) he).mono ?_
    rintro e w' ⟨rfl, hg⟩
    exact ⟨err, t, rfl, hT.grown hg, ⟨hg.os, hg.tape, hg.output, hg.size, fun k hk => hg.block k (by omega) (by simp)⟩, .inl ⟨splitErr_ne he, rfl⟩⟩
  | none =>
    cases hf : t.find pane with
    | none => exact absurd hp (find_none_iff.1 hf)
    | some l =>
      rw [hf] at he
      obtain ⟨c2, c3⟩ := splitErr_none he
      obtain ⟨hlm, _⟩ := find_mem hf
      obtain ⟨_, _, hlk, _⟩ := mem_leaves t w none hT.p l hlm
      obtain ⟨c, rfl⟩ := leaf_plug t l hlm
      have hb := hbd l hlm
      have hof : (plug c l).find other = none := find_none_iff.2 hnps
      have hlt : (plug c l).leaves.length < 32 := c2
      cases beside
      · replace c3 : 3 ≤ l.n.b ∧ size ≤ l.n.b - 2 := c3
        refine (split_ok_false base tr c l pane other size before w hT hbase hlt hf hlk (by omega) hof (by omega) (by omega) (by omega) (by omega) (ok_w01 hF.ok)).mono ?_
        rintro e w' ⟨f, c0, f', l', n', rfl, hT', hB, e1, e2, e3, e4, e5⟩
        have hsz : ∃ sz : Int, (if size = 0 then (l.n.b - 1) / 2 else size) = sz ∧ 1 ≤ sz ∧ sz ≤ l.n.b - 2 := ⟨_, rfl, by split <;> omega, by split <;> omega⟩
        obtain ⟨sz, hsz, hz1, hz2⟩ := hsz
        rw [hsz] at e3 e4
        have hsf := split_fine (before := before) hF hlk ⟨hnps, ho.1, ho.2.1, by omega⟩ (.inr rfl) ⟨fun h => by omega, fun _ => ⟨rfl, rfl, by omega⟩⟩ ⟨by omega, by omega, by omega, by omega⟩ e1 e2 e3 e4 e5
        exact ⟨0, _, rfl, hT', hB, .inr ⟨rfl, hsf.1, hsf.2, c, l, l.n.a, l.n.b - (sz + 1), l.n.a, sz, f, c0, f', l', n', rfl, hlk, hf, rfl, e1, e2, e3, e4, e5, ⟨(fun h => by cases h), fun _ => ⟨rfl, rfl, by omega⟩⟩, ⟨by omega, by omega, by omega, by omega⟩⟩⟩
      · replace c3 : 3 ≤ l.n.a ∧ size ≤ l.n.a - 2 := c3
        refine (split_ok_true base tr c l pane other size before w hT hbase hlt hf hlk (by omega) hof (by omega) (by omega) (by omega) (by omega) (ok_w01 hF.ok)).mono ?_
        rintro e w' ⟨f, c0, f', l', n', rfl, hT', hB, e1, e2, e3, e4, e5⟩
        have hsz : ∃ sz : Int, (if size = 0 then (l.n.a - 1) / 2 else size) = sz ∧ 1 ≤ sz ∧ sz ≤ l.n.a - 2 := ⟨_, rfl, by split <;> omega, by split <;> omega⟩
        obtain ⟨sz, hsz, hz1, hz2⟩ := hsz
        rw [hsz] at e3 e4
        have hsf := split_fine (before := before) hF hlk ⟨hnps, ho.1, ho.2.1, by omega⟩ (.inl rfl) ⟨fun _ => ⟨rfl, rfl, by omega⟩, fun h => by omega⟩ ⟨by omega, by omega, by omega, by omega⟩ e1 e2 e3 e4 e5
        exact ⟨0, _, rfl, hT', hB, .inr ⟨rfl, hsf.1, hsf.2, c, l, l.n.a - (sz + 1), l.n.b, sz, l.n.b, f, c0, f', l', n', rfl, hlk, hf, rfl, e1, e2, e3, e4, e5, ⟨fun _ => ⟨rfl, rfl, by omega⟩, (fun h => by cases h)⟩, ⟨by omega, by omega, by omega, by omega⟩⟩⟩
end Go.Proofs.YtcklmkjlbpjojaaDoor
