/- Layout: shown. Layout: the walk of LayoutTexts. -/
import Derived.Test.YtcklmkjlbpjojaaGreatDoorL1
import Derived.Test.YtcklmkjlbpjojaaGreatDoorRX
namespace Go.Proofs.YtcklmkjlbpjojaaGreatDoor
open Go.RowKit
set_option linter.unusedSimpArgs false
set_option linter.unusedVariables false

theorem Tab.below {w w' : World} (h : Tab w) (hB : Below w.heap.size w w') : Tab w' := by
  unfold Tab Lib.TabIs World.var? at *
  cases hn : Tryz.prog.globalNamed "internal/strconv.uint64pow10" with
  | none => simp [hn] at h
  | some g =>
    simp only [hn, Option.bind_some] at h ⊢
    have hlt : g < w.heap.size := by
      rcases Nat.lt_or_ge g w.heap.size with h' | h'
      · exact h'
      · rw [Array.getElem?_eq_none h'] at h; simp at h
    rw [hB.block g hlt]
    exact h
theorem OpsIn.below {w w' : World} {A : Option Addr} {xs : List Value} (h : Rd w A xs) (hB : Below w.heap.size w w') : Rd w' A xs := fun hx => by
  obtain ⟨b, off, hA, hlt, hc⟩ := h hx
  exact ⟨b, off, hA, Nat.lt_of_lt_of_le hlt hB.size, fun j u hj => (World.cell?_of_block (hB.block b hlt)).trans (hc j u hj)⟩
theorem Deb.below {w w' : World} (h : Deb w) (hB : Below w.heap.size w w') : Deb w' := by
  unfold Deb at *
  rw [World.cell?_of_block (hB.block _ (World.block_lt_of_cell? w _ h))]; exact h
theorem nds_tr2 (F L S A B : Bk) : (tr2 F L S A B).nds = [mkN F 0 0 0 80 24 0, mkN L 1 0 0 40 24 0, mkN S 0 41 0 39 24 1, mkN A 2 41 0 39 18 0, mkN B 3 41 19 39 5 0] := by
  unfold tr2; rw [T.nds_mk, ndsL_cons, ndsL_cons, ndsL_nil, nds_leaf, T.nds_mk, ndsL_cons, ndsL_cons, ndsL_nil, nds_leaf, nds_leaf]; rfl
theorem rg_tr2 (F L S A B : Bk) : (tr2 F L S A B).rg ∧ (tr2 F L S A B).w01 := by
  have h : ∀ m ∈ (tr2 F L S A B).nds, m.rg ∧ (m.way = 0 ∨ m.way = 1) := by
    rw [nds_tr2]
    intro m hm
    simp only [List.mem_cons, List.not_mem_nil, or_false] at hm
    unfold Nd.rg I64
    rcases hm with rfl | rfl | rfl | rfl | rfl <;> simp [mkN]
  exact ⟨fun m hm => (h m hm).1, fun m hm => (h m hm).2⟩

set_option maxHeartbeats 2000000 in
set_option maxRecDepth 100000 in
theorem shown_any (w : World) (hTab : Tab w) (hD : Deb w) : Calls Tryz.prog 5 #[] w fun e w' => e = .returned (.bool true) ∧ Below w.heap.size w w' := by
  have CN := Lib.hid (new_any 80 24 1 w (by decide) (by omega))
  replace hTab := Lib.hid hTab; replace hD := Lib.hid hD
  go_enter Tryz.func5, Tryz.ntmps5
  go_wp2_with fail
  refine CN.out.mono ?_
  rintro e w1 ⟨tr, g, rfl, hT1, G1⟩
  have hb1 : w.heap.size ≤ w1.heap.size := G1.size
  have B1 : Below w.heap.size w w1 := ⟨G1.os, G1.tape, G1.output, G1.size, fun k hk => G1.block k hk (by simp)⟩
  have C1 := Lib.hid (show1 _ tr g w1 hT1 hb1)
  replace B1 := Lib.hid B1; replace hT1 := Lib.hid hT1
  clear CN G1
  unfold ptr at *
  go_wp2_with fail
  refine C1.out.mono ?_
  rintro e w2 ⟨rfl, B2, F, L, N, hT2⟩
  replace B2 := Lib.hid (B1.out.trans B2)
  have C2 := Lib.hid (show2 _ tr F L N w2 hT2 B2.out.size)
  replace hT2 := Lib.hid hT2
  clear C1 B1 hT1
  unfold ptr at *
  go_wp2_with fail
  refine C2.out.mono ?_
  rintro e w3 ⟨rfl, B3, L', S, A, B, hT3⟩
  replace B3 := Lib.hid (B2.out.trans B3)
  have C3 := Lib.hid (print_any _ tr _ w3 hT3 (rg_tr2 F L' S A B).1 (rg_tr2 F L' S A B).2 (hTab.out.below B3.out) (hD.out.below B3.out) (by rw [body_tr2]; decide))
  rw [print_tr2, show st shownText = ⟨#[98, 97, 98, 99, 44, 56, 48, 120, 50, 52, 44, 48, 44, 48, 123, 52, 48, 120, 50, 52, 44, 48, 44, 48, 44, 49, 44, 51, 57, 120, 50, 52, 44, 52, 49, 44, 48, 91, 51, 57, 120, 49, 56, 44, 52, 49, 44, 48, 44, 50, 44, 51, 57, 120, 53, 44, 52, 49, 44, 49, 57, 44, 51, 93, 125]⟩ from rfl] at C3
  replace hT3 := Lib.hid hT3
  clear C2 B2 hT2
  unfold ptr at *
  go_wp2_with fail
  refine C3.out.mono ?_
  rintro e w4 ⟨rfl, G4⟩
  have hT4 := hT3.out.grown G4
  have B4 := B3.out.trans (⟨G4.os, G4.tape, G4.output, G4.size, fun k hk => G4.block k (by have := B3.out.size; omega) (by simp)⟩ : Below w.heap.size w3 w4)
  have C4 := Lib.hid (show3 _ tr F L' S A B w4 hT4 B4.size)
  replace hT4 := Lib.hid hT4; replace B4 := Lib.hid B4
  clear C3 G4 B3 hT3
  unfold ptr at *
  go_wp2_with fail
  refine C4.out.mono ?_
  rintro e w5 ⟨rfl, hT5, B5⟩
  replace B5 := Lib.hid (B4.out.trans B5)
  have C5 := Lib.hid (boxes_any _ tr _ w5 hT5 (by rw [leaves_tr3]; exact (by decide : 3 ≤ 100000)))
  have hT5lt : tr < w5.heap.size ∧ ∀ b ∈ (tr3 F L' S A B).bl, b < w5.heap.size := ⟨hT5.lt, fun b hb => hT5.p.lt _ _ b hb⟩
  replace hT5lt := Lib.hid hT5lt
  replace hT5 := Lib.hid hT5
  clear C4 B4 hT4
  unfold ptr at *
  go_wp2_with fail
  refine C5.out.mono ?_
  rintro e w6 ⟨A6, c6, rfl, O6, G6⟩
  obtain ⟨A6x, c6x, e6x, R6, _⟩ := Rd.of_own O6
  injection e6x with e6x _ e6y
  subst e6x; subst e6y
  rw [boxes_boxL, leaves_tr3] at R6
  have hT6 := hT5.out.grown G6
  have B6 := B5.out.trans (⟨G6.os, G6.tape, G6.output, G6.size, fun k hk => G6.block k (by have := B5.out.size; omega) (by simp)⟩ : Below w.heap.size w5 w6)
  have C6 := Lib.hid (show4 _ tr F L' S A B w6 hT6 B6.size)
  replace hT6 := Lib.hid hT6; replace B6 := Lib.hid B6; replace R6 := Lib.hid R6; replace O6 := Lib.hid O6
  clear C5 B5 hT5 G6
  rw [show (tr3 F L' S A B).leaves.length = 3 by rw [leaves_tr3]; rfl]
  unfold ptr at *
  go_wp2_with fail
  refine C6.out.mono ?_
  rintro e w7 ⟨rfl, hT7, B7, OF7⟩
  have O67 : w7.ownsRow w5.heap.size 50 5 (.slice A6 3 c6) 3 (boxL [(1, 0, 0, 40, 24), (2, 41, 0, 39, 16), (3, 41, 17, 39, 7)]) := by
    have h := O6.out
    rw [boxes_boxL, leaves_tr3] at h
    refine own_same h fun b hb => OF7.block b (h.lt b hb).2 ?_
    have hge := (h.lt b hb).1
    intro hm
    rcases List.mem_cons.1 hm with rfl | hm
    · have := hT5lt.out.1; omega
    · have := hT5lt.out.2 b hm; omega
  replace B7 := Lib.hid (B6.out.trans B7)
  have C7 := Lib.hid (boxes_any _ tr _ w7 hT7 (by rw [leaves_tr4]; exact (by decide : 2 ≤ 100000)))
  rw [leaves_tr4] at C7
  replace hT7 := Lib.hid hT7; replace OF7 := Lib.hid OF7
  clear C6 B6 hT6
  unfold ptr at *
  go_wp2_with fail
  refine C7.out.mono ?_
  rintro e w8 ⟨A8, c8, rfl, O8, G8⟩
  have O68 := own_keep O67 G8
  obtain ⟨A8x, c8x, e8x, R8, _⟩ := Rd.of_own O8
  injection e8x with e8x _ e8y
  subst e8x; subst e8y
  obtain ⟨A6x, c6x, e6x, R68, _⟩ := Rd.of_own O68
  injection e6x with e6x _ e6y
  subst e6x; subst e6y
  rw [boxes_boxL] at R8
  have B8 := B7.out.trans (⟨G8.os, G8.tape, G8.output, G8.size, fun k hk => G8.block k (by have := B7.out.size; omega) (by simp)⟩ : Below w.heap.size w7 w8)
  replace B8 := Lib.hid B8; replace R8 := Lib.hid R8; replace R68 := Lib.hid R68; replace O68 := Lib.hid O68; replace O8 := Lib.hid O8; replace O67 := Lib.hid O67
  clear C7 B7 hT7 G8 OF7
  have g9 := World.grownBy_alloc w8 (.cells #[.int .i64 1, .int .i64 0, .int .i64 0, .int .i64 40, .int .i64 24, .int .i64 2, .int .i64 41, .int .i64 0, .int .i64 39, .int .i64 16, .int .i64 3, .int .i64 41, .int .i64 17, .int .i64 39, .int .i64 7] 50) none
  obtain ⟨A6y, c6y, e6z, R69, _⟩ := Rd.of_own (own_keep O68.out g9)
  injection e6z with e6z _ e6w
  subst e6z; subst e6w
  have C8 := Lib.hid (sameBoxes_any A6 (some ⟨w8.heap.size, 0, none⟩) 3 c6 3 [(1, 0, 0, 40, 24), (2, 41, 0, 39, 16), (3, 41, 17, 39, 7)] _ rfl (by omega) R69 (Rd.newL w8 (boxL [(1, 0, 0, 40, 24), (2, 41, 0, 39, 16), (3, 41, 17, 39, 7)]) 50))
  replace R69 := Lib.hid R69
  go_wp2_with fail
  refine C8.out.mono ?_
  rintro e w10 ⟨rfl, G10⟩
  have O80 := own_keep (own_keep O8.out g9) G10
  have B10 := (B8.out.trans (⟨g9.os, g9.tape, g9.output, g9.size, fun k hk => g9.block k (by have := B8.out.size; omega) (by simp)⟩ : Below w.heap.size w8 _)).trans (⟨G10.os, G10.tape, G10.output, G10.size, fun k hk => G10.block k (by have := B8.out.size; simp; omega) (by simp)⟩ : Below w.heap.size _ w10)
  have g11 := World.grownBy_alloc w10 (.cells #[.int .i64 2, .int .i64 0, .int .i64 0, .int .i64 80, .int .i64 16, .int .i64 3, .int .i64 0, .int .i64 17, .int .i64 80, .int .i64 7] 50) none
  obtain ⟨A8y, c8y, e8z, R81, _⟩ := Rd.of_own (own_keep O80 g11)
  injection e8z with e8z _ e8w
  subst e8z; subst e8w
  rw [boxes_boxL] at R81
  have C9 := Lib.hid (sameBoxes_any A8 (some ⟨w10.heap.size, 0, none⟩) 2 c8 2 [(2, 0, 0, 80, 16), (3, 0, 17, 80, 7)] _ rfl (by omega) R81 (Rd.newL w10 (boxL [(2, 0, 0, 80, 16), (3, 0, 17, 80, 7)]) 50))
  replace R81 := Lib.hid R81; replace O80 := Lib.hid O80; replace B10 := Lib.hid B10; replace g9 := Lib.hid g9; replace g11 := Lib.hid g11; replace G10 := Lib.hid G10
  clear C8
  go_wp2_with fail
  refine C9.out.mono ?_
  rintro e w12 ⟨rfl, G12⟩
  have B12 := (B10.out.trans (⟨g11.out.os, g11.out.tape, g11.out.output, g11.out.size, fun k hk => g11.out.block k (by have := B10.out.size; omega) (by simp)⟩ : Below w.heap.size w10 _)).trans (⟨G12.os, G12.tape, G12.output, G12.size, fun k hk => G12.block k (by have := B10.out.size; simp; omega) (by simp)⟩ : Below w.heap.size _ w12)
  have CS := Lib.hid (fun W => sum_any [97, 98] W (by decide))
  rw [sum_ab] at CS
  replace CS : Hid (∀ W, Calls Tryz.prog 11 #[.string ⟨#[97, 98]⟩] W fun e w' => e = .returned (.int .i64 32914) ∧ W = w') := CS
  replace B12 := Lib.hid B12; replace G12 := Lib.hid G12
  clear C9
  go_wp2_with (first | (go_at_call 11; refine (CS.out _).mono ?_; rintro e w13 ⟨rfl, rfl⟩) | fail)
  go_ret
  exact ⟨rfl, B12.out⟩
end Go.Proofs.YtcklmkjlbpjojaaGreatDoor
namespace Go.Proofs.YtcklmkjlbpjojaaGreatDoor
open Go.RowKit
set_option linter.unusedSimpArgs false
set_option linter.unusedVariables false

theorem below_grown {B : Nat} {w x y : World} (h : Below B w x) (g : x.grownBy y none) (hB : B ≤ w.heap.size) : Below B w y :=
  ⟨g.os.trans h.os, g.tape.trans h.tape, g.output.trans h.output, Nat.le_trans h.size g.size, fun k hk => (g.block k (by have := h.size; omega) (by simp)).trans (h.block k hk)⟩
theorem below_offs {B : Nat} {w x y : World} {S : List Nat} (h : Below B w x) (o : Off S x y) (hs : ∀ b ∈ S, B ≤ b) (hB : B ≤ w.heap.size) : Below B w y :=
  ⟨o.os.trans h.os, o.tape.trans h.tape, o.output.trans h.output, Nat.le_trans h.size o.size, fun k hk => (o.block k (by have := h.size; omega) fun hm => by have := hs k hm; omega).trans (h.block k hk)⟩
theorem Tr.base_le {base B tr : Nat} {w : World} {t : T} (h : Tr base w tr t) (hB : B ≤ base) : Tr B w tr t :=
  ⟨h.h, h.p, h.nd, h.nt, ⟨Nat.le_trans hB h.lo.1, fun b hb => Nat.le_trans hB (h.lo.2 b hb)⟩⟩
/-- The two trees of LayoutTexts. -/
structure Both2 (B tr tr2 : Nat) (w0 : World) (w : World) (t u : T) : Prop where
  ht : Tr B w tr t
  hu : RTr w tr2 u
  lo : B ≤ tr2 ∧ ∀ b ∈ u.bl, B ≤ b
  be : Below B w0 w
  al : t.pt = u.pt
  nt : Nice t
  nu : Nice u
/-- They stand behind j splits. -/
structure Panes (B tr tr2 : Nat) (w0 : World) (j : Nat) (w : World) : Prop where
  out : ∃ t u : T, Tr B w tr t ∧ Fine t (j + 1) ∧ t.er = EK j ∧ t.leaves.length = j + 1 ∧ RTr w tr2 u ∧ u.place 0 0 = u ∧ u.er = EK j ∧ (B ≤ tr2 ∧ ∀ b ∈ u.bl, B ≤ b) ∧ Below B w0 w
theorem Panes.two {B tr tr2 j : Nat} {w0 w : World} (h : Panes B tr tr2 w0 j w) (hj : j ≤ 5) : ∃ t u, Both2 B tr tr2 w0 w t u := by
  obtain ⟨t, u, h1, h2, h3, h4, h5, h6, h7, h8, h9⟩ := h.out
  have hp : t.pt = u.pt := by
    have := place_pt t u 0 0 (h3.trans h7.symm)
    rwa [h2.pl, h6] at this
  have hnt := h2.nice (by omega)
  have hlu := leaves_len_congr hp
  refine ⟨t, u, h1, h5, h8, h9, hp, hnt, ⟨fun m hm => ?_, w01_congr hp hnt.w, by have := hnt.lv; omega, ?_⟩⟩
  · obtain ⟨m', hm', e⟩ := nds_of hp hm
    have := hnt.sm m' hm'
    unfold nd6 at e
    simp only [Prod.mk.injEq] at e
    obtain ⟨e1, e2, e3, e4, e5, e6⟩ := e
    unfold Nd.sm at *
    rw [← e1, ← e2, ← e3, ← e4, ← e5]; exact this
  · have := congrArg List.length (nds_congr t u hp)
    simp only [List.length_map] at this
    have := hnt.nd
    omega
/-- Behind an Apply of both. -/
theorem Both2.apply {B tr tr2 : Nat} {w0 w w1 w2 : World} {t u : T} {s : List UInt8} {e1 e2 : Ending} (h : Both2 B tr tr2 w0 w t u) (hB : B ≤ w0.heap.size) (h1 : AppPost2 B tr t s w e1 w1) (h2 : AppPostR tr2 u s w1 e2 w2) :
    e1 = .returned (.int .i64 (appC s t.leaves.length)) ∧ e2 = .returned (.int .i64 (appC s t.leaves.length)) ∧ ∃ t' u', Both2 B tr tr2 w0 w2 t' u' := by
  obtain ⟨t', rfl, q1, q2, q3⟩ := h1
  obtain ⟨u', rfl, r1, r2, r3⟩ := h2
  have hl := leaves_len_congr h.al
  have hB2 : B ≤ w.heap.size := by have := h.be.size; omega
  have htr : B ≤ tr := h.ht.lo.1
  have b1 : Below B w0 w1 := below_offs h.be q2 (by simp; exact htr) hB
  have hs1 := q2.size
  obtain ⟨a1, a2, a3⟩ := app_alike h.al h.nt h.nu (q3.imp id fun ⟨x1, x2, x3, x4, x5, x6, x7, x8⟩ => ⟨x1, x2, x3, x4, x5, x6, x7⟩) (r3.imp id fun ⟨x1, x2, x3, x4, x5, x6, x7, x8⟩ => ⟨x1, x2, x3, x4, x5, x6, x7⟩)
  have hne : tr ≠ tr2 := fun e => by
    have e1 := tag_of q1.h
    have e2 := tag_of (w := w1) (b := tr2) (c := #[ptr u.g]) (e := 57) (z := (0, 0)) (by
      have := h.hu.past h.ht (q2.sub (by simp))
      exact this.h)
    rw [e, e2] at e1
    revert e1; decide
  have hu1 : RTr w1 tr2 u := h.hu.past h.ht (q2.sub (by simp))
  have t2 : Tr B w2 tr t' := q1.past hu1 (r2.sub (by simp))
  refine ⟨rfl, by rw [hl], t', u', t2, r1, ⟨h.lo.1, ?_⟩, below_offs b1 r2 (by simp; exact h.lo.1) hB, a1, a2, a3⟩
  rcases r3 with ⟨_, rfl⟩ | ⟨_, _, _, _, _, _, _, x8⟩
  · exact h.lo.2
  · intro b hb
    have := x8 b hb
    omega
theorem apply_long (base tr : Nat) (t : T) (s : List UInt8) (w : World) (hT : Tr base w tr t) (hs : s.length ≤ 9223372036854775807) (hL : 4096 < s.length) : Calls Tryz.prog 13 #[ptr tr, .string (st s)] w (AppPost2 base tr t s w) := by
  have hNo := Lib.hid (app_no2 (s := s) (w' := w) hT 2 (by decide) (World.grownBy.refl _ _) (appC_long hL))
  obtain ⟨S, hS⟩ : ∃ S, S = st s := ⟨_, rfl⟩
  rw [← hS]
  obtain ⟨n, hn⟩ : ∃ n, n = s.length := ⟨_, rfl⟩
  have hZ : S.size = n := by rw [hS, st_size, hn]
  rw [← hn] at hs hL
  replace hS := Lib.hid hS; replace hn := Lib.hid hn
  unfold ptr
  go_enter Tryz.func13, Tryz.ntmps13
  go_wp2_with fail
  go_ret
  exact hNo.out
theorem applyR_long (tr : Nat) (t : T) (s : List UInt8) (w : World) (hT : RTr w tr t) (hs : s.length ≤ 9223372036854775807) (hL : 4096 < s.length) : Calls Tryz.prog 14 #[ptr tr, .string (st s)] w (AppPostR tr t s w) := by
  have hNo := Lib.hid (app_noR (s := s) (w' := w) hT 2 (by decide) (World.grownBy.refl _ _) (appC_long hL))
  obtain ⟨S, hS⟩ : ∃ S, S = st s := ⟨_, rfl⟩
  rw [← hS]
  obtain ⟨n, hn⟩ : ∃ n, n = s.length := ⟨_, rfl⟩
  have hZ : S.size = n := by rw [hS, st_size, hn]
  rw [← hn] at hs hL
  replace hS := Lib.hid hS; replace hn := Lib.hid hn
  unfold ptr
  go_enter Tryz.func14, Tryz.ntmps14
  go_wp2_with fail
  go_ret
  exact hNo.out
/-- Both Applies, in order. -/
theorem Both2.calls {B tr tr2 : Nat} {w0 w : World} {t u : T} {s : List UInt8} (h : Both2 B tr tr2 w0 w t u) (hB : B ≤ w0.heap.size) (hD : Deb w0) (hDB : ∀ w, Below B w0 w → Deb w) (hs : s.length ≤ 9223372036854775807) :
    ∃ err : Int, Calls Tryz.prog 13 #[ptr tr, .string (st s)] w fun e w1 => e = .returned (.int .i64 err) ∧ Calls Tryz.prog 14 #[ptr tr2, .string (st s)] w1 fun e2 w2 => e2 = .returned (.int .i64 err) ∧ ∃ t' u', Both2 B tr tr2 w0 w2 t' u' := by
  have hl := h.nt.lv
  have hl2 := h.nu.lv
  have hB2 : B ≤ w.heap.size := by have := h.be.size; omega
  refine ⟨appC s t.leaves.length, ?_⟩
  have C1 : Calls Tryz.prog 13 #[ptr tr, .string (st s)] w (AppPost2 B tr t s w) := by
    by_cases hb : s.length ≤ 1000000
    · exact apply_exact B tr t s w h.ht hB2 (hDB w h.be) (by omega) hb
    · exact apply_long B tr t s w h.ht hs (by omega)
  refine C1.mono ?_
  intro e w1 h1
  have h1' := h1
  obtain ⟨t', rfl, q1, q2, q3⟩ := h1
  refine ⟨rfl, ?_⟩
  have hu1 : RTr w1 tr2 u := h.hu.past h.ht (q2.sub (by simp))
  have C2 : Calls Tryz.prog 14 #[ptr tr2, .string (st s)] w1 (AppPostR tr2 u s w1) := by
    by_cases hb : s.length ≤ 1000000
    · exact applyR_any tr2 u s w1 hu1 (by omega) hb
    · exact applyR_long tr2 u s w1 hu1 hs (by omega)
  refine C2.mono ?_
  intro e2 w2 h2
  obtain ⟨_, r2, r3⟩ := h.apply hB h1' h2
  exact ⟨r2, r3⟩
/-- One more split in both. -/
theorem Panes.next {B tr tr2 j : Nat} {w0 w : World} (h : Panes B tr tr2 w0 j w) (hj : j ≤ 4) (hB : B ≤ w0.heap.size) :
    Calls Tryz.prog 9 #[ptr tr, .int .i64 1, .int .i64 ((j : Int) + 2), .bool (bdOf j), .int .i64 1, .bool false] w fun e w1 => e = .returned (.int .i64 0) ∧
      Calls Tryz.prog 10 #[ptr tr2, .int .i64 1, .int .i64 ((j : Int) + 2), .bool (bdOf j), .int .i64 1, .bool false] w1 fun e2 w2 => e2 = .returned (.int .i64 0) ∧ Panes B tr tr2 w0 (j + 1) w2 := by
  obtain ⟨t, u, h1, h2, h3, h4, h5, h6, h7, h8, h9⟩ := h.out
  have hB2 : B ≤ w.heap.size := by have := h9.size; omega
  refine (step_P B tr t j w h1 hB2 h2 h3 h4 hj).mono ?_
  rintro e w1 ⟨rfl, t', q1, q2, q3, q4, q5⟩
  refine ⟨rfl, ?_⟩
  have hu1 : RTr w1 tr2 u := h5.past h1 q5
  have b1 : Below B w0 w1 := below_offs h9 q5 (fun b hb => by
    rcases List.mem_cons.1 hb with rfl | hb
    · exact h1.lo.1
    · exact h1.lo.2 b hb) hB
  have hps : u.er.ps = t.er.ps := by rw [h3, h7]
  refine (step_R tr2 u j w1 hu1 (by rw [h7, ← h3]; exact h2.ok) (fun p hp => h2.pk p (by rw [← hps]; exact hp)) h7 (by rw [leaves_len, hps, ← leaves_len]; exact h4) hj B h8 (by have := q5.size; omega)).mono ?_
  rintro e2 w2 ⟨rfl, u', r1, r2, r3, r4, r5⟩
  refine ⟨rfl, t', u', q1.past hu1 r5, ?_, q3, q4, r1, r2, r3, ⟨h8.1, r4⟩, below_offs b1 r5 (fun b hb => by
    rcases List.mem_cons.1 hb with rfl | hb
    · exact h8.1
    · exact h8.2 b hb) hB⟩
  have : (((j + 1 : Nat) : Int) + 1) = (j : Int) + 2 := by omega
  rw [this]; exact q2
theorem Panes.start {B tr tr2 g g2 : Nat} {w0 w : World} (h1 : Tr B w tr (nd1 g 1 60 40)) (h2 : RTr w tr2 (.mk ⟨g2, none, 0, 1, 0, 0, 60, 40, 0⟩ [])) (h3 : B ≤ tr2 ∧ B ≤ g2) (h4 : Below B w0 w) : Panes B tr tr2 w0 0 w := by
  refine ⟨_, _, h1, ⟨?_, ?_, ?_, ?_, ?_⟩, ?_, ?_, h2, ?_, ?_, ⟨h3.1, fun b hb => ?_⟩, h4⟩
  · unfold nd1; rw [T.er_mk, erL_nil]; show E.ok (.mk 1 60 40 0 []); exact .leaf ⟨by omega, by omega⟩ (by omega) (by omega)
  · unfold nd1; rw [ps_leaf]; simp
  · unfold nd1; rw [ps_leaf]; simp
  · unfold nd1; rw [T.place_mk, placeL_nil]
  · unfold nd1; simp [T.n]
  · unfold nd1; rw [T.er_mk, erL_nil, EK]
  · rw [leaves_len]; unfold nd1; rw [ps_leaf]; simp
  · rw [T.place_mk, placeL_nil]
  · rw [T.er_mk, erL_nil, EK]
  · rw [T.bl_mk, blL_nil] at hb
    simp at hb
    rw [hb]; exact h3.2
end Go.Proofs.YtcklmkjlbpjojaaGreatDoor
