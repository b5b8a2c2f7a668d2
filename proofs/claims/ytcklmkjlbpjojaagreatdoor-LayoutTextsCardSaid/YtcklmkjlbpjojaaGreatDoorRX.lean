/- Layout: Size, alike, made of nothing. Layout: the panes: one more split, in both trees. -/
import Derived.Test.YtcklmkjlbpjojaaGreatDoorRV
import Derived.Test.YtcklmkjlbpjojaaGreatDoorH3
import Derived.Test.YtcklmkjlbpjojaaGreatDoorRE3
import Derived.Test.YtcklmkjlbpjojaaGreatDoorRE4
namespace Go.Proofs.YtcklmkjlbpjojaaGreatDoor
open Go.RowKit
set_option linter.unusedSimpArgs false
set_option linter.unusedVariables false

set_option maxHeartbeats 2000000 in
set_option maxRecDepth 100000 in
theorem size_any (base tr : Nat) (t : T) (w : World) (hT : Tr base w tr t) : Calls Tryz.prog 49 #[ptr tr] w fun e w' => e = .returned (.tuple #[.int .i64 t.n.a, .int .i64 t.n.b]) ∧ w.grownBy w' none := by
  have c0 := hT.c0
  have hA := hT.p.atn
  have c3 := hA.c3
  have c4 := hA.c4
  have hg : t.n.g = t.g := by cases t; rfl
  rw [hg] at c3 c4
  replace hT := Lib.hid hT; replace hA := Lib.hid hA; replace hg := Lib.hid hg
  unfold ptr at c0 ⊢
  go_enter Tryz.func49, Tryz.ntmps49
  go_wp2_with fail
  go_big_quiet ((fail))
  go_wp2_with fail
  go_ret2
  exact ⟨rfl, grown_drewN _ _⟩
set_option maxHeartbeats 2000000 in
set_option maxRecDepth 100000 in
theorem alike_any (base tr tr2 : Nat) (t u : T) (w : World) (hT : Tr base w tr t) (hU : RTr w tr2 u) (hp : t.pt = u.pt) (Nt : Nice t) (Nu : Nice u) (hTab : Tab w) (hD : Deb w) :
    Calls Tryz.prog 15 #[ptr tr, ptr tr2] w fun e w' => e = .returned (.bool true) ∧ w.grownBy w' none := by
  have CS := size_any base tr t w hT
  have CB := fun W (g : w.grownBy W none) => boxes_any base tr t W (hT.grown g) (by have := Nt.lv; omega)
  have CC := fun W (g : w.grownBy W none) => boxesR_any tr2 u W (hU.grown g) (by have := Nu.lv; omega)
  have CP := fun W (g : w.grownBy W none) => print_any base tr t W (hT.grown g) Nt.rg Nt.w (hTab.grown g) (hD.grown g) (by have := Nt.bd; omega)
  have CQ := fun W (g : w.grownBy W none) => printR_any tr2 u W (hU.grown g) Nu.sm Nu.w Nu.bd
  rw [← print_congr hp] at CQ
  have hl := leaves_len_congr hp
  rw [← hl] at CC
  have hbx := boxes_congr hp
  obtain ⟨q1, q2, q3, q4, q5, q6, q7⟩ := pt_n hp
  obtain ⟨n, hn⟩ : ∃ n, n = t.leaves.length := ⟨_, rfl⟩
  have hn5 : n ≤ 5000 := by rw [hn]; exact Nt.lv
  rw [← hn] at CB CC
  obtain ⟨P, hP⟩ : ∃ P, P = st t.print := ⟨_, rfl⟩
  rw [← hP] at CP CQ
  have hUn : u.n.g = u.g := by cases u; rfl
  have hAt : RAt w u.n u.ks := by cases u; exact hU.p.at_
  have d0 := hU.c0
  have d3 := hAt.c3
  have d4 := hAt.c4
  rw [hUn, ← q4] at d3
  rw [hUn, ← q5] at d4
  have CSame : ∀ (W : World) (A B : Option Addr) (ca cb : Nat), Rd W A (boxes t.leaves) → Rd W B (boxes u.leaves) → Calls Tryz.prog 22 #[.slice A n ca, .slice B n cb] W fun e w' => e = .returned (.bool true) ∧ W.grownBy w' none := fun W A B ca cb h1 h2 => by
    rw [boxes_boxL] at h1 h2
    rw [← hbx] at h2
    exact sameBoxes_any A B n ca cb _ W (by rw [List.length_map, hn]) (by omega) h1 h2
  obtain ⟨pa, hpa⟩ : ∃ z, z = t.n.a := ⟨_, rfl⟩
  obtain ⟨pb, hpb⟩ : ∃ z, z = t.n.b := ⟨_, rfl⟩
  rw [← hpa] at CS d3
  rw [← hpb] at CS d4
  obtain ⟨ug, hug⟩ : ∃ z, z = u.g := ⟨_, rfl⟩
  rw [← hug] at d0 d3 d4
  have hPP : (P.toList == P.toList) = true := by simp
  replace hT := Lib.hid hT; replace hU := Lib.hid hU; replace hp := Lib.hid hp; replace Nt := Lib.hid Nt; replace Nu := Lib.hid Nu; replace hTab := Lib.hid hTab; replace hD := Lib.hid hD; replace CS := Lib.hid CS; replace CB := Lib.hid CB; replace CC := Lib.hid CC; replace CP := Lib.hid CP; replace CQ := Lib.hid CQ; replace hbx := Lib.hid hbx; replace hl := Lib.hid hl; replace hn := Lib.hid hn; replace hP := Lib.hid hP; replace hUn := Lib.hid hUn; replace hAt := Lib.hid hAt; replace CSame := Lib.hid CSame; replace hpa := Lib.hid hpa; replace hpb := Lib.hid hpb; replace hug := Lib.hid hug
  clear q1 q2 q3 q4 q5 q6 q7
  unfold ptr at *
  go_enter Tryz.func15, Tryz.ntmps15
  go_wp2_with fail
  refine CS.out.mono ?_
  rintro e w1 ⟨rfl, g1⟩
  clear CS
  have CB1 := Lib.hid (CB.out _ g1)
  replace g1 := Lib.hid g1
  go_wp2_with fail
  refine CB1.out.mono ?_
  rintro e w2 ⟨A, ca, rfl, O2, g2⟩
  clear CB1
  have G2 := g1.out.trans g2
  have CC1 := Lib.hid (CC.out _ G2)
  replace G2 := Lib.hid G2; replace g2 := Lib.hid g2; replace O2 := Lib.hid O2
  go_wp2_with fail
  refine CC1.out.mono ?_
  rintro e w3 ⟨B, cb, rfl, O3, g3⟩
  clear CC1
  obtain ⟨A2x, c2x, e2x, R2, _⟩ := Rd.of_own O2.out
  injection e2x with e2x _ e2y
  subst e2x; subst e2y
  obtain ⟨A3x, c3x, e3x, R3, _⟩ := Rd.of_own O3
  injection e3x with e3x _ e3y
  subst e3x; subst e3y
  have C3 := Lib.hid (CSame.out w3 _ _ ca cb (R2.grown g3 (.inl rfl)) R3)
  have G3 := G2.out.trans g3
  replace G3 := Lib.hid G3; replace g3 := Lib.hid g3; replace O3 := Lib.hid O3; replace R2 := Lib.hid R2; replace R3 := Lib.hid R3
  go_wp2_with fail
  refine C3.out.mono ?_
  rintro e w4 ⟨rfl, g4⟩
  clear C3
  have G4 := G3.out.trans g4
  have x0 := G4.cell d0 (by simp)
  have x3 := G4.cell d3 (by simp)
  have x4 := G4.cell d4 (by simp)
  have CP1 := Lib.hid (CP.out _ G4)
  replace G4 := Lib.hid G4; replace g4 := Lib.hid g4
  clear d0 d3 d4
  go_wp2_with fail
  refine CP1.out.mono ?_
  rintro e w5 ⟨rfl, g5⟩
  have G5 := G4.out.trans g5
  have CQ1 := Lib.hid (CQ.out _ G5)
  replace G5 := Lib.hid G5; replace g5 := Lib.hid g5
  go_wp2_with fail
  refine CQ1.out.mono ?_
  rintro e w6 ⟨rfl, g6⟩
  have G6 := G5.out.trans g6
  replace G6 := Lib.hid G6; replace g6 := Lib.hid g6
  go_wp2_with fail
  go_ret
  exact ⟨rfl, G6.out⟩
set_option maxHeartbeats 2000000 in
set_option maxRecDepth 100000 in
theorem made_nil (w : World) : Calls Tryz.prog 6 #[.int .i64 60, .int .i64 40, .slice none 0 0] w fun e w' => ∃ (tr g : Nat), e = .returned (ptr tr) ∧ Tr w.heap.size w' tr (nd1 g 1 60 40) ∧ w.grownBy w' none := by
  have CN := Lib.hid (new_any 60 40 1 w rfl (by omega))
  go_enter Tryz.func6, Tryz.ntmps6
  go_wp2_with fail
  refine CN.out.mono ?_
  rintro e w1 ⟨tr, g, rfl, hT1, G1⟩
  replace hT1 := Lib.hid hT1; replace G1 := Lib.hid G1
  unfold ptr
  go_wp2_with fail
  go_loopw [9] (fun iv wr => iv = .int .i64 0 ∧ wr = w1) (fun iv _ => 0)
  case atStart => exact ⟨rfl, rfl⟩
  case round =>
    obtain ⟨rfl, rfl⟩ := hrel
    go_wp2_with fail
    go_ret
    exact ⟨tr, g, rfl, hT1.out, G1.out⟩
end Go.Proofs.YtcklmkjlbpjojaaGreatDoor
namespace Go.Proofs.YtcklmkjlbpjojaaGreatDoor
open Go.RowKit
set_option linter.unusedSimpArgs false
set_option linter.unusedVariables false

theorem spine_nds (t : T) : ∀ s ∈ t.spine, s.n ∈ t.nds := by
  induction t using T.ind with
  | h n ks ih =>
    intro s hs
    cases ks with
    | nil => rw [T.spine] at hs; simp at hs; subst hs; rw [T.nds_mk]; simp [T.n]
    | cons k ks =>
      rw [T.spine] at hs
      rw [T.nds_mk, ndsL_cons]
      rcases List.mem_cons.1 hs with rfl | hs
      · simp [T.n]
      · simp [ih k (by simp) s hs]
def bdOf (j : Nat) : Bool := j % 2 == 0
theorem lm_of {t : T} {a b : Int} (h : t.er.lm = .mk 1 a b 0 []) : t.lm.n.p = 1 ∧ t.lm.n.a = a ∧ t.lm.n.b = b ∧ t.lm.n.way = 0 ∧ t.lm = .mk t.lm.n [] := by
  rw [← lm_er] at h
  have hk := lm_ks t
  generalize t.lm = l at h hk
  cases l with
  | mk n ks =>
    cases hk
    rw [T.er_mk, erL_nil] at h
    injection h with h1 h2 h3 h4
    exact ⟨h1, h2, h3, h4, rfl⟩
/-- The program's. -/
theorem step_P (base tr : Nat) (t : T) (j : Nat) (w : World) (hT : Tr base w tr t) (hbase : base ≤ w.heap.size) (hF : Fine t (j + 1)) (he : t.er = EK j) (hlv : t.leaves.length = j + 1) (hj : j ≤ 4) :
    Calls Tryz.prog 9 #[ptr tr, .int .i64 1, .int .i64 ((j : Int) + 2), .bool (bdOf j), .int .i64 1, .bool false] w fun e w' => e = .returned (.int .i64 0) ∧
      ∃ t', Tr base w' tr t' ∧ Fine t' ((j : Int) + 2) ∧ t'.er = EK (j + 1) ∧ t'.leaves.length = j + 2 ∧ Off (tr :: t.bl) w w' := by
  obtain ⟨a, b, f1, f2, f3, f4, f5, f6, f7⟩ := EK_facts j hj
  rw [← he] at f1 f4
  obtain ⟨q1, q2, q3, q4, q5⟩ := lm_of f1
  obtain ⟨c, c1, c2, c3, c4⟩ := lm_ctx t
  have hks := lm_ks t
  obtain ⟨l, hl⟩ : ∃ l, l = t.lm := ⟨_, rfl⟩
  have hfi := lm_find q1
  have hno : ((j : Int) + 2) ∉ t.er.ps := fun h => by have := hF.pk _ h; omega
  have hnf : t.find ((j : Int) + 2) = none := find_none_iff.2 hno
  rw [← hl] at c1 q1 q2 q3 q4 q5 hks hfi
  have hw01 := ok_w01 hF.ok
  have hEK : ∀ (f : Fr) (c0 : List Fr) (f' l' n' : Nd) (a' b' na nb : Int), (f'.p = f.n.p ∧ f'.a = f.n.a ∧ f'.b = f.n.b ∧ f'.way = f.n.way) → f.n.way = (if bdOf j = true then 0 else 1) → (l'.p = l.n.p ∧ l'.a = a' ∧ l'.b = b' ∧ (l'.way = l.n.way ∨ l'.way = 0)) → (n'.p = (j : Int) + 2 ∧ n'.a = na ∧ n'.b = nb ∧ n'.way = 0) →
      (c = f :: c0 ∨ ((∀ g d, c = g :: d → g.n.way ≠ (if bdOf j = true then 0 else 1)) ∧ c0 = c ∧ f.L = [] ∧ f.R = [] ∧ f.n.a = l.n.a ∧ f.n.b = l.n.b ∧ f.n.p = 0)) →
      a' = (if bdOf j = true then a - 2 else a) → b' = (if bdOf j = true then b else b - 2) → na = (if bdOf j = true then 1 else a) → nb = (if bdOf j = true then b else 1) →
      ((plug c0 (.mk f' (f.L ++ (if false = true then [.mk n' [], .mk l' []] else [.mk l' [], .mk n' []]) ++ f.R))).place 0 0).er = EK (j + 1) := by
    intro f c0 f' l' n' a' b' na nb e1 e2 e3 e4 e5 r1 r2 r3 r4
    rw [if_neg (by simp)]
    rcases e5 with e5 | ⟨_, e6, e7, e8, e9, e10, e11⟩
    · exfalso
      have := c4 f c0 e5
      rw [e2] at this
      exact f4 (by rw [← this]; rfl)
    · rw [e6, e7, e8, T.place_er, c2, setL_er, EK, ← he]
      congr 1
      rw [List.nil_append, List.append_nil, T.er_mk, erL_cons, erL_cons, erL_nil, T.er_mk, T.er_mk, erL_nil, e1.1, e1.2.1, e1.2.2.1, e1.2.2.2, e2, e3.1, e3.2.1, e3.2.2.1, e4.1, e4.2.1, e4.2.2.1, e4.2.2.2, e9, e10, e11, q1, q2, q3, r1, r2, r3, r4, f1]
      have hl0 : l'.way = 0 := by rcases e3.2.2.2 with h | h; rw [h, q4]; exact h
      rw [hl0]
      rfl
  have hlen : ∀ t' : T, t'.er.ps.Perm (((j : Int) + 2) :: (plug c l).er.ps) → t'.leaves.length = j + 2 := fun t' h => by
    have := h.length_eq
    rw [leaves_len, this, c1, List.length_cons, ← leaves_len, hlv]
  rw [← c1] at hT hF hfi hnf hw01 hno
  have hlt : (plug c l).leaves.length < 32 := by rw [c1]; omega
  cases hb : bdOf j with
  | true =>
    rw [hb] at hEK
    simp only [if_true] at hEK
    refine (split_off_true base tr c l 1 ((j : Int) + 2) 1 false w hT hbase hlt hfi hks (by omega) hnf (by omega) (by omega) (by omega) (by omega) hw01).mono ?_
    rintro e w' ⟨⟨f, c0, f', l', n', rfl, hT', hB, e1, e2, e3, e4, e5⟩, ho⟩
    rw [if_neg (by decide)] at e3 e4
    have hsf := split_fine (before := false) hF hks ⟨hno, by omega, by omega, by omega⟩ (.inl rfl) ⟨fun _ => ⟨rfl, rfl, by omega⟩, fun h => by omega⟩ ⟨by omega, by omega, by omega, by omega⟩ e1 e2 e3 e4 e5
    refine ⟨rfl, _, hT', hsf.1, ?_, hlen _ hsf.2, by rw [← c1]; exact ho⟩
    exact hEK f c0 f' l' n' _ _ _ _ e1 e2 e3 e4 e5 (by omega) q3 rfl q3
  | false =>
    rw [hb] at hEK
    simp only [Bool.false_eq_true, if_false] at hEK
    refine (split_off_false base tr c l 1 ((j : Int) + 2) 1 false w hT hbase hlt hfi hks (by omega) hnf (by omega) (by omega) (by omega) (by omega) hw01).mono ?_
    rintro e w' ⟨⟨f, c0, f', l', n', rfl, hT', hB, e1, e2, e3, e4, e5⟩, ho⟩
    rw [if_neg (by decide)] at e3 e4
    have hsf := split_fine (before := false) hF hks ⟨hno, by omega, by omega, by omega⟩ (.inr rfl) ⟨fun h => by omega, fun _ => ⟨rfl, rfl, by omega⟩⟩ ⟨by omega, by omega, by omega, by omega⟩ e1 e2 e3 e4 e5
    refine ⟨rfl, _, hT', hsf.1, ?_, hlen _ hsf.2, by rw [← c1]; exact ho⟩
    exact hEK f c0 f' l' n' _ _ _ _ e1 e2 e3 e4 e5 q2 (by omega) q2 rfl
/-- The reference's. -/
theorem step_R (tr : Nat) (u : T) (j : Nat) (w : World) (hU : RTr w tr u) (hF : u.er.ok) (hpk : ∀ p ∈ u.er.ps, 1 ≤ p ∧ p ≤ (j : Int) + 1) (he : u.er = EK j) (hlv : u.leaves.length = j + 1) (hj : j ≤ 4) (base : Nat) (hlo : base ≤ tr ∧ ∀ b ∈ u.bl, base ≤ b) (hbase : base ≤ w.heap.size) :
    Calls Tryz.prog 10 #[ptr tr, .int .i64 1, .int .i64 ((j : Int) + 2), .bool (bdOf j), .int .i64 1, .bool false] w fun e w' => e = .returned (.int .i64 0) ∧
      ∃ u', RTr w' tr u' ∧ u'.place 0 0 = u' ∧ u'.er = EK (j + 1) ∧ (∀ b ∈ u'.bl, base ≤ b) ∧ Off (tr :: u.bl) w w' := by
  obtain ⟨a, b, f1, f2, f3, f4, f5, f6, f7⟩ := EK_facts j hj
  rw [← he] at f1 f4 f5
  obtain ⟨q1, q2, q3, q4, q5⟩ := lm_of f1
  have hno : ((j : Int) + 2) ∉ u.er.ps := fun h => by have := hpk _ h; omega
  have hw01 := ok_w01 hF
  have hnd := nds_len u hF
  have hsl := spine_len u
  refine (splitR tr u u.lm.n ((j : Int) + 2) (bdOf j) w hU q5 (lm_find q1) (find_none_iff.2 hno) (by omega) (by omega) (by rw [q2, q3]; split <;> omega) (by omega) hw01 (by omega) ?_).mono ?_
  · intro s h1 h2
    obtain ⟨h3, h4⟩ := spine_pw u s h1 h2
    unfold bsd
    have h5 : (s.ks.length != 0) = true := bne_iff_ne.2 h4
    rw [h5, Bool.true_and, h3]
    cases hb : bdOf j with
    | true =>
      rw [show (j % 2 == 0) = bdOf j from rfl, hb, if_pos rfl] at f4
      simpa using f4
    | false =>
      rw [show (j % 2 == 0) = bdOf j from rfl, hb, if_neg (by decide)] at f4
      have h6 : s.n.way = 0 ∨ s.n.way = 1 := by
        have hm : s.n ∈ u.nds := by
          have hs := List.mem_of_getElem? h2
          exact spine_nds u s hs
        exact hw01 _ hm
      rw [h3] at h6
      have : u.er.pw = 0 := by omega
      rw [this]; rfl
  · rintro e w' ⟨rfl, B, go, gf, g1, g2, g3, hU', ho⟩
    refine ⟨rfl, _, hU', T.place_idem _ _ _, ?_, ?_, ho⟩
    · rw [T.place_er, setL_er, EK, ← he]
      congr 1
      rw [f1]
      unfold splN oldN newN spE
      rw [T.er_mk, erL_cons, erL_cons, erL_nil, T.er_mk, T.er_mk, erL_nil]
      simp only [q1, q2, q3]
      rfl
    · intro b hb
      rw [T.place_bl] at hb
      rcases setL_bl u _ b hb with h | h
      · exact hlo.2 b h
      · rw [splN_bl] at h
        simp only [List.mem_cons, List.not_mem_nil, or_false] at h
        rcases h with rfl | rfl | rfl | rfl
        · have hm : u.lm.n.g ∈ u.bl := by
            have := lm_bl u
            have e : u.lm.n.g = u.lm.g := by cases u.lm; rfl
            rw [e]; exact this
          exact hlo.2 _ hm
        · omega
        · omega
        · omega
end Go.Proofs.YtcklmkjlbpjojaaGreatDoor
