/- Layout: shown. Layout: a tree of which two panes are swapped is as fine as it was. No program in sight. -/
import Derived.Test.YtcklmkjlbpjojaaDoorL1
import Derived.Test.YtcklmkjlbpjojaaDoorH1
import Derived.Test.YtcklmkjlbpjojaaDoorXA
import Derived.Test.YtcklmkjlbpjojaaDoorMA
namespace Go.Proofs.YtcklmkjlbpjojaaDoor
open Go.RowKit
set_option linter.unusedSimpArgs false
set_option linter.unusedVariables false

theorem Tab.below {w w' : World} (h : Tab w) (hB : Below w.heap.size w w') : Tab w' := by
  unfold Tab Lib.TabIs World.var? at *
  cases hn : Tryd.prog.globalNamed "internal/strconv.uint64pow10" with
  | none => simp [hn] at h
  | some g =>
    simp only [hn, Option.bind_some] at h ⊢
    have hlt : g < w.heap.size := by
      rcases Nat.lt_or_ge g w.heap.size with h' | h'
      · exact h'
      · rw [Array.getElem?_eq_none h'] at h; simp at h
    rw [hB.block g hlt]
    exact h
theorem OpsIn.below {w w' : World} {A : Option Addr} {xs : List Value} (h : Rd w A xs) (hB : Below w.heap.size w w') : Rd w' A xs := fun hx => by
  obtain ⟨b, off, hA, hlt, hc⟩ := h hx
  exact ⟨b, off, hA, Nat.lt_of_lt_of_le hlt hB.size, fun j u hj => (World.cell?_of_block (hB.block b hlt)).trans (hc j u hj)⟩
theorem Deb.below {w w' : World} (h : Deb w) (hB : Below w.heap.size w w') : Deb w' := by
  unfold Deb at *
  rw [World.cell?_of_block (hB.block _ (World.block_lt_of_cell? w _ h))]; exact h
theorem nds_tr2 (F L S A B : Bk) : (tr2 F L S A B).nds = [mkN F 0 0 0 80 24 0, mkN L 1 0 0 40 24 0, mkN S 0 41 0 39 24 1, mkN A 2 41 0 39 18 0, mkN B 3 41 19 39 5 0] := by
  unfold tr2; rw [T.nds_mk, ndsL_cons, ndsL_cons, ndsL_nil, nds_leaf, T.nds_mk, ndsL_cons, ndsL_cons, ndsL_nil, nds_leaf, nds_leaf]; rfl
theorem rg_tr2 (F L S A B : Bk) : (tr2 F L S A B).rg ∧ (tr2 F L S A B).w01 := by
  have h : ∀ m ∈ (tr2 F L S A B).nds, m.rg ∧ (m.way = 0 ∨ m.way = 1) := by
    rw [nds_tr2]
    intro m hm
    simp only [List.mem_cons, List.not_mem_nil, or_false] at hm
    unfold Nd.rg I64
    rcases hm with rfl | rfl | rfl | rfl | rfl <;> simp [mkN]
  exact ⟨fun m hm => (h m hm).1, fun m hm => (h m hm).2⟩

set_option maxHeartbeats 2000000 in
set_option maxRecDepth 100000 in
theorem shown_any (w : World) (hTab : Tab w) (hD : Deb w) : Calls Tryd.prog 7 #[] w fun e w' => e = .returned (.bool true) ∧ Below w.heap.size w w' := by
  have CN := Lib.hid (new_any 80 24 1 w (by decide) (by omega))
  replace hTab := Lib.hid hTab; replace hD := Lib.hid hD
  go_enter Tryd.func7, Tryd.ntmps7
  go_wp2_with fail
  refine CN.out.mono ?_
  rintro e w1 ⟨tr, g, rfl, hT1, G1⟩
  have hb1 : w.heap.size ≤ w1.heap.size := G1.size
  have B1 : Below w.heap.size w w1 := ⟨G1.os, G1.tape, G1.output, G1.size, fun k hk => G1.block k hk (by simp)⟩
  have C1 := Lib.hid (show1 _ tr g w1 hT1 hb1)
  replace B1 := Lib.hid B1; replace hT1 := Lib.hid hT1
  clear CN G1
  unfold ptr at *
  go_wp2_with fail
  refine C1.out.mono ?_
  rintro e w2 ⟨rfl, B2, F, L, N, hT2⟩
  replace B2 := Lib.hid (B1.out.trans B2)
  have C2 := Lib.hid (show2 _ tr F L N w2 hT2 B2.out.size)
  replace hT2 := Lib.hid hT2
  clear C1 B1 hT1
  unfold ptr at *
  go_wp2_with fail
  refine C2.out.mono ?_
  rintro e w3 ⟨rfl, B3, L', S, A, B, hT3⟩
  replace B3 := Lib.hid (B2.out.trans B3)
  have C3 := Lib.hid (print_any _ tr _ w3 hT3 (rg_tr2 F L' S A B).1 (rg_tr2 F L' S A B).2 (hTab.out.below B3.out) (hD.out.below B3.out) (by rw [body_tr2]; decide))
  rw [print_tr2, show st shownText = ⟨#[98, 97, 98, 99, 44, 56, 48, 120, 50, 52, 44, 48, 44, 48, 123, 52, 48, 120, 50, 52, 44, 48, 44, 48, 44, 49, 44, 51, 57, 120, 50, 52, 44, 52, 49, 44, 48, 91, 51, 57, 120, 49, 56, 44, 52, 49, 44, 48, 44, 50, 44, 51, 57, 120, 53, 44, 52, 49, 44, 49, 57, 44, 51, 93, 125]⟩ from rfl] at C3
  replace hT3 := Lib.hid hT3
  clear C2 B2 hT2
  unfold ptr at *
  go_wp2_with fail
  refine C3.out.mono ?_
  rintro e w4 ⟨rfl, G4⟩
  have hT4 := hT3.out.grown G4
  have B4 := B3.out.trans (⟨G4.os, G4.tape, G4.output, G4.size, fun k hk => G4.block k (by have := B3.out.size; omega) (by simp)⟩ : Below w.heap.size w3 w4)
  have C4 := Lib.hid (show3 _ tr F L' S A B w4 hT4 B4.size)
  replace hT4 := Lib.hid hT4; replace B4 := Lib.hid B4
  clear C3 G4 B3 hT3
  unfold ptr at *
  go_wp2_with fail
  refine C4.out.mono ?_
  rintro e w5 ⟨rfl, hT5, B5⟩
  replace B5 := Lib.hid (B4.out.trans B5)
  have C5 := Lib.hid (boxes_any _ tr _ w5 hT5 (by rw [leaves_tr3]; exact (by decide : 3 ≤ 100000)))
  have hT5lt : tr < w5.heap.size ∧ ∀ b ∈ (tr3 F L' S A B).bl, b < w5.heap.size := ⟨hT5.lt, fun b hb => hT5.p.lt _ _ b hb⟩
  replace hT5lt := Lib.hid hT5lt
  replace hT5 := Lib.hid hT5
  clear C4 B4 hT4
  unfold ptr at *
  go_wp2_with fail
  refine C5.out.mono ?_
  rintro e w6 ⟨A6, c6, rfl, O6, G6⟩
  obtain ⟨A6x, c6x, e6x, R6, _⟩ := Rd.of_own O6
  injection e6x with e6x _ e6y
  subst e6x; subst e6y
  rw [boxes_boxL, leaves_tr3] at R6
  have hT6 := hT5.out.grown G6
  have B6 := B5.out.trans (⟨G6.os, G6.tape, G6.output, G6.size, fun k hk => G6.block k (by have := B5.out.size; omega) (by simp)⟩ : Below w.heap.size w5 w6)
  have C6 := Lib.hid (show4 _ tr F L' S A B w6 hT6 B6.size)
  replace hT6 := Lib.hid hT6; replace B6 := Lib.hid B6; replace R6 := Lib.hid R6; replace O6 := Lib.hid O6
  clear C5 B5 hT5 G6
  rw [show (tr3 F L' S A B).leaves.length = 3 by rw [leaves_tr3]; rfl]
  unfold ptr at *
  go_wp2_with fail
  refine C6.out.mono ?_
  rintro e w7 ⟨rfl, hT7, B7, OF7⟩
  have O67 : w7.ownsRow w5.heap.size 30 5 (.slice A6 3 c6) 3 (boxL [(1, 0, 0, 40, 24), (2, 41, 0, 39, 16), (3, 41, 17, 39, 7)]) := by
    have h := O6.out
    rw [boxes_boxL, leaves_tr3] at h
    refine own_same h fun b hb => OF7.block b (h.lt b hb).2 ?_
    have hge := (h.lt b hb).1
    intro hm
    rcases List.mem_cons.1 hm with rfl | hm
    · have := hT5lt.out.1; omega
    · have := hT5lt.out.2 b hm; omega
  replace B7 := Lib.hid (B6.out.trans B7)
  have C7 := Lib.hid (boxes_any _ tr _ w7 hT7 (by rw [leaves_tr4]; exact (by decide : 2 ≤ 100000)))
  rw [leaves_tr4] at C7
  replace hT7 := Lib.hid hT7; replace OF7 := Lib.hid OF7
  clear C6 B6 hT6
  unfold ptr at *
  go_wp2_with fail
  refine C7.out.mono ?_
  rintro e w8 ⟨A8, c8, rfl, O8, G8⟩
  have O68 := own_keep O67 G8
  obtain ⟨A8x, c8x, e8x, R8, _⟩ := Rd.of_own O8
  injection e8x with e8x _ e8y
  subst e8x; subst e8y
  obtain ⟨A6x, c6x, e6x, R68, _⟩ := Rd.of_own O68
  injection e6x with e6x _ e6y
  subst e6x; subst e6y
  rw [boxes_boxL] at R8
  have B8 := B7.out.trans (⟨G8.os, G8.tape, G8.output, G8.size, fun k hk => G8.block k (by have := B7.out.size; omega) (by simp)⟩ : Below w.heap.size w7 w8)
  replace B8 := Lib.hid B8; replace R8 := Lib.hid R8; replace R68 := Lib.hid R68; replace O68 := Lib.hid O68; replace O8 := Lib.hid O8; replace O67 := Lib.hid O67
  clear C7 B7 hT7 G8 OF7
  have g9 := World.grownBy_alloc w8 (.cells #[.int .i64 1, .int .i64 0, .int .i64 0, .int .i64 40, .int .i64 24, .int .i64 2, .int .i64 41, .int .i64 0, .int .i64 39, .int .i64 16, .int .i64 3, .int .i64 41, .int .i64 17, .int .i64 39, .int .i64 7] 30) none
  obtain ⟨A6y, c6y, e6z, R69, _⟩ := Rd.of_own (own_keep O68.out g9)
  injection e6z with e6z _ e6w
  subst e6z; subst e6w
  have C8 := Lib.hid (sameBoxes_any A6 (some ⟨w8.heap.size, 0, none⟩) 3 c6 3 [(1, 0, 0, 40, 24), (2, 41, 0, 39, 16), (3, 41, 17, 39, 7)] _ rfl (by omega) R69 (Rd.newL w8 (boxL [(1, 0, 0, 40, 24), (2, 41, 0, 39, 16), (3, 41, 17, 39, 7)]) 30))
  replace R69 := Lib.hid R69
  go_wp2_with fail
  refine C8.out.mono ?_
  rintro e w10 ⟨rfl, G10⟩
  have O80 := own_keep (own_keep O8.out g9) G10
  have B10 := (B8.out.trans (⟨g9.os, g9.tape, g9.output, g9.size, fun k hk => g9.block k (by have := B8.out.size; omega) (by simp)⟩ : Below w.heap.size w8 _)).trans (⟨G10.os, G10.tape, G10.output, G10.size, fun k hk => G10.block k (by have := B8.out.size; simp; omega) (by simp)⟩ : Below w.heap.size _ w10)
  have g11 := World.grownBy_alloc w10 (.cells #[.int .i64 2, .int .i64 0, .int .i64 0, .int .i64 80, .int .i64 16, .int .i64 3, .int .i64 0, .int .i64 17, .int .i64 80, .int .i64 7] 30) none
  obtain ⟨A8y, c8y, e8z, R81, _⟩ := Rd.of_own (own_keep O80 g11)
  injection e8z with e8z _ e8w
  subst e8z; subst e8w
  rw [boxes_boxL] at R81
  have C9 := Lib.hid (sameBoxes_any A8 (some ⟨w10.heap.size, 0, none⟩) 2 c8 2 [(2, 0, 0, 80, 16), (3, 0, 17, 80, 7)] _ rfl (by omega) R81 (Rd.newL w10 (boxL [(2, 0, 0, 80, 16), (3, 0, 17, 80, 7)]) 30))
  replace R81 := Lib.hid R81; replace O80 := Lib.hid O80; replace B10 := Lib.hid B10; replace g9 := Lib.hid g9; replace g11 := Lib.hid g11; replace G10 := Lib.hid G10
  clear C8
  go_wp2_with fail
  refine C9.out.mono ?_
  rintro e w12 ⟨rfl, G12⟩
  have B12 := (B10.out.trans (⟨g11.out.os, g11.out.tape, g11.out.output, g11.out.size, fun k hk => g11.out.block k (by have := B10.out.size; omega) (by simp)⟩ : Below w.heap.size w10 _)).trans (⟨G12.os, G12.tape, G12.output, G12.size, fun k hk => G12.block k (by have := B10.out.size; simp; omega) (by simp)⟩ : Below w.heap.size _ w12)
  have CS := Lib.hid (fun W => sum_any [97, 98] W (by decide))
  rw [sum_ab] at CS
  replace CS : Hid (∀ W, Calls Tryd.prog 23 #[.string ⟨#[97, 98]⟩] W fun e w' => e = .returned (.int .i64 32914) ∧ W = w') := CS
  replace B12 := Lib.hid B12; replace G12 := Lib.hid G12
  clear C9
  go_wp2_with (first | (go_at_call 23; refine (CS.out _).mono ?_; rintro e w13 ⟨rfl, rfl⟩) | fail)
  go_ret
  exact ⟨rfl, B12.out⟩
end Go.Proofs.YtcklmkjlbpjojaaDoor
namespace Go.Proofs.YtcklmkjlbpjojaaDoor
open Go.RowKit
set_option linter.unusedSimpArgs false
set_option linter.unusedVariables false

section
variable {σ : Int → Int}
theorem re_n (t : T) : (t.re σ).n.a = t.n.a ∧ (t.re σ).n.b = t.n.b ∧ (t.re σ).n.way = t.n.way ∧ (t.re σ).ks.length = t.ks.length := by
  cases t with | mk n ks =>
  rw [T.re_mk]
  show (if ks.length = 0 then { n with p := σ n.p } else n).a = n.a ∧ (if ks.length = 0 then { n with p := σ n.p } else n).b = n.b ∧ (if ks.length = 0 then { n with p := σ n.p } else n).way = n.way ∧ (reL σ ks).length = ks.length
  rw [reL_len]
  split <;> exact ⟨rfl, rfl, rfl, rfl⟩
theorem re_er (n : Nd) (ks : List T) : ((T.mk n ks).re σ).er = .mk (if ks.length = 0 then σ n.p else n.p) n.a n.b n.way (ks.map fun k => (k.re σ).er) := by
  rw [T.re_mk, T.er_mk, erL_map, reL_map, List.map_map]
  split <;> rfl
theorem re_fills {a b way : Int} {ks : List T} (h : fills a b way (ks.map T.er)) : fills a b way (ks.map fun k => (k.re σ).er) := by
  have ha : ∀ k : T, (k.re σ).er.a = k.er.a := fun k => by rw [T.er_a, T.er_a, (re_n k).1]
  have hb : ∀ k : T, (k.re σ).er.b = k.er.b := fun k => by rw [T.er_b, T.er_b, (re_n k).2.1]
  have ea : (ks.map fun k => (k.re σ).er).map (fun k => k.a + 1) = (ks.map T.er).map fun k => k.a + 1 := by
    rw [List.map_map, List.map_map]
    exact List.map_congr_left fun k _ => by show (k.re σ).er.a + 1 = k.er.a + 1; rw [ha]
  have eb : (ks.map fun k => (k.re σ).er).map (fun k => k.b + 1) = (ks.map T.er).map fun k => k.b + 1 := by
    rw [List.map_map, List.map_map]
    exact List.map_congr_left fun k _ => by show (k.re σ).er.b + 1 = k.er.b + 1; rw [hb]
  rcases h with ⟨h0, h1, h2⟩ | ⟨h0, h1, h2⟩
  · refine .inl ⟨h0, fun e he => ?_, by rw [ea]; exact h2⟩
    obtain ⟨k, hk, rfl⟩ := List.mem_map.1 he
    rw [hb]; exact h1 _ (List.mem_map_of_mem hk)
  · refine .inr ⟨h0, fun e he => ?_, by rw [eb]; exact h2⟩
    obtain ⟨k, hk, rfl⟩ := List.mem_map.1 he
    rw [ha]; exact h1 _ (List.mem_map_of_mem hk)
theorem ps_kid {n : Nd} {ks : List T} {k : T} (hk : k ∈ ks) {p : Int} (hp : p ∈ k.er.ps) : p ∈ (T.mk n ks).er.ps := by
  rw [← T.leaves_ps] at hp ⊢
  obtain ⟨s, hs, rfl⟩ := List.mem_map.1 hp
  refine List.mem_map_of_mem ?_
  rw [T.leaves_mk]
  exact List.mem_append_right _ (mem_leavesL.2 ⟨k, hk, hs⟩)
theorem re_ok (t : T) : (∀ p ∈ t.er.ps, 1 ≤ σ p ∧ σ p ≤ 999) → t.er.ok → (t.re σ).er.ok := by
  induction t using T.ind with
  | h n ks ih =>
    intro hp h
    rw [re_er]
    have hk := ih
    rw [T.er_mk, erL_map] at h
    rcases h.inv with ⟨h1, h2, h3, h4, h5⟩ | ⟨h1, h2, h3, h4, h5, h6⟩
    · have h1 := List.map_eq_nil_iff.1 h1
      subst h1
      rw [if_pos (show ([] : List T).length = 0 from rfl), h2]
      refine .leaf (hp n.p ?_) h4 h5
      rw [T.er_mk, E.ps_mk, erL_nil]
      simp
    · rw [List.length_map] at h4
      rw [if_neg (by omega), h1]
      refine .node h2 h3 (by rw [List.length_map]; exact h4) (re_fills h5) fun e he => ?_
      obtain ⟨k, hk, rfl⟩ := List.mem_map.1 he
      exact ih k hk (fun p h => hp p (ps_kid hk h)) (h6 _ (List.mem_map_of_mem hk))
theorem re_alt (t : T) : t.er.alt → (t.re σ).er.alt := by
  induction t using T.ind with
  | h n ks ih =>
    intro h
    obtain ⟨h1, h2⟩ := alt_T.1 h
    rw [T.re_mk]
    have e : (if ks.length = 0 then { n with p := σ n.p } else n).way = n.way := by split <;> rfl
    refine alt_T.2 ⟨fun k hk => ?_, fun k hk => ?_⟩
    · rw [reL_map] at hk
      obtain ⟨k, hk', rfl⟩ := List.mem_map.1 hk
      rcases h1 k hk' with h | h
      · left
        have := (re_n (σ := σ) k).2.2.2
        rw [h] at this
        exact List.eq_nil_of_length_eq_zero this
      · right
        rw [e, (re_n k).2.2.1]
        exact h
    · rw [reL_map] at hk
      obtain ⟨k, hk', rfl⟩ := List.mem_map.1 hk
      exact ih k hk' (h2 k hk')
theorem re_place (t : T) : ∀ x y, (t.place x y).re σ = (t.re σ).place x y := by
  induction t using T.ind with
  | h n ks ih =>
    intro x y
    have hl : ∀ (l : List T) (x y : Int), (∀ k ∈ l, ∀ x y, (k.place x y).re σ = (k.re σ).place x y) → reL σ (placeL n.way l x y) = placeL n.way (reL σ l) x y := by
      intro l
      induction l with
      | nil => intro x y _; rw [placeL_nil, reL, placeL_nil]
      | cons k l ih2 =>
        intro x y h
        have ex : nx n.way (k.re σ).n x = nx n.way k.n x := by unfold nx; rw [(re_n k).1]
        have ey : ny n.way (k.re σ).n y = ny n.way k.n y := by unfold ny; rw [(re_n k).2.1]
        rw [placeL_cons, reL, reL, placeL_cons, h k (by simp), ih2 _ _ fun k hk => h k (by simp [hk]), ex, ey]
    rw [T.place_mk, T.re_mk, T.re_mk, T.place_mk, placeL_len, hl ks x y ih]
    split <;> rfl
theorem leaf_bare {t s : T} (hs : s ∈ t.leaves) : s.ks = [] := by
  induction t using T.ind with
  | h n ks ih =>
    rw [T.leaves_mk] at hs
    rcases List.mem_append.1 hs with h | h
    · split at h
      · rename_i h0; simp at h; subst h; exact List.eq_nil_of_length_eq_zero h0
      · cases h
    · obtain ⟨k, hk, h⟩ := mem_leavesL.1 h
      exact ih k hk h
theorem re_leaf {t s : T} (hs : s ∈ t.leaves) : (s.re σ).n.p = σ s.n.p := by
  have hk := leaf_bare hs
  cases s with | mk n ks => cases hk; rw [T.re_mk]; rfl
theorem re_ps (t : T) : (t.re σ).er.ps = t.er.ps.map σ := by
  rw [← T.leaves_ps, ← T.leaves_ps, T.re_leaves, List.map_map, List.map_map]
  exact List.map_congr_left fun s hs => re_leaf hs
theorem fine_re {t : T} {k : Int} (hσ : ∀ x, σ (σ x) = x) (hk : ∀ p ∈ t.er.ps, 1 ≤ σ p ∧ σ p ≤ k) (hk9 : k ≤ 999) (h : Fine t k) : Fine (t.re σ) k := by
  refine ⟨re_ok t (fun p hp => ⟨(hk p hp).1, Int.le_trans (hk p hp).2 hk9⟩) h.ok, ?_, fun p hp => ?_, by rw [← re_place, h.pl], by rw [(re_n t).1, (re_n t).2.1]; exact h.sz⟩
  · rw [re_ps]
    refine List.pairwise_map.2 (h.ps.imp fun {a b} hne e => hne ?_)
    rw [← hσ a, e, hσ]
  · rw [re_ps] at hp
    obtain ⟨q, hq, rfl⟩ := List.mem_map.1 hp
    exact hk q hq
end
theorem fine_sw {t : T} {a b : Int} (ha : a ∈ t.er.ps) (hb : b ∈ t.er.ps) {k : Int} (hk9 : k ≤ 999) (h : Fine t k) (hA : t.er.alt) :
    Fine (t.re (sw a b)) k ∧ (t.re (sw a b)).er.alt ∧ (t.re (sw a b)).leaves.length = t.leaves.length := by
  refine ⟨fine_re (sw_sw a b) (fun p hp => ?_) hk9 h, re_alt t hA, by rw [T.re_leaves, List.length_map]⟩
  unfold sw
  split
  · exact h.pk b hb
  · split
    · exact h.pk a ha
    · exact h.pk p hp
theorem the_leaf {t s : T} (hs : s ∈ t.leaves) (hn : (t.leaves.map fun s => s.n.p).Nodup) : t.find s.n.p = some s := by
  cases e : t.find s.n.p with
  | none =>
    unfold T.find at e
    have := List.find?_eq_none.1 e s hs
    simp at this
  | some s' =>
    obtain ⟨h1, h2⟩ := find_mem e
    rw [nodup_inj hn h1 hs h2]
theorem find_pane {t : T} {k p : Int} (h : Fine t k) (hp : p ∈ t.er.ps) : ∃ s, t.find p = some s := by
  rw [← T.leaves_ps] at hp
  obtain ⟨s, hs, rfl⟩ := List.mem_map.1 hp
  exact ⟨s, the_leaf hs (by rw [T.leaves_ps]; exact h.ps)⟩
end Go.Proofs.YtcklmkjlbpjojaaDoor
