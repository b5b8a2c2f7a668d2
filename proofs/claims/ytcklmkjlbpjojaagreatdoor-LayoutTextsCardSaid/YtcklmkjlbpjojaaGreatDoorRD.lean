/- Layout: the parse, where it goes wrong it stays wrong. No walk. Layout: the reference's place. -/
import Derived.Test.YtcklmkjlbpjojaaGreatDoorR3
import Derived.Test.YtcklmkjlbpjojaaGreatDoorRJ
import Derived.Test.YtcklmkjlbpjojaaGreatDoorRG
namespace Go.Proofs.YtcklmkjlbpjojaaGreatDoor
open Go.RowKit
set_option linter.unusedSimpArgs false
set_option linter.unusedVariables false

theorem numP_true (s : List UInt8) : (numP s true).2.2 = true := by
  unfold numP; split <;> rfl
theorem nextP_true (l s : List UInt8) : (nextP l s true).2.2 = true := by
  cases s with
  | nil => rfl
  | cons c r => rw [nextP_cons]; split <;> rfl
/-- A sign, then a number. -/
def sg (c : UInt8) (l : List UInt8) (bad : Bool) : Nat × List UInt8 × Bool := numP (nextP [c] l bad).2.1 (nextP [c] l bad).2.2
theorem sg_true (c : UInt8) (l : List UInt8) : (sg c l true).2.2 = true := by
  unfold sg; rw [nextP_true]; exact numP_true _
theorem sg_nil (c : UInt8) : sg c [] false = (0, [], true) := rfl
theorem sg_hit (c : UInt8) (r : List UInt8) : sg c (c :: r) false = numP r false := by
  unfold sg; rw [nextP_cons, if_pos (by simp)]
theorem sg_miss (c d : UInt8) (r : List UInt8) (h : d ≠ c) : sg c (d :: r) false = (0, [], true) := by
  unfold sg; rw [nextP_cons, if_neg (by simpa using h)]; rfl
def r1 (s : List UInt8) := numP s false
def r3 (s : List UInt8) := sg 120 (r1 s).2.1 (r1 s).2.2
def r5 (s : List UInt8) := sg 44 (r3 s).2.1 (r3 s).2.2
def r7 (s : List UInt8) := sg 44 (r5 s).2.1 (r5 s).2.2
theorem hdP_r (s : List UInt8) : hdP s false = ⟨(r1 s).1, (r3 s).1, (r5 s).1, (r7 s).1, (nextP [44, 123, 91] (r7 s).2.1 (r7 s).2.2).1, (nextP [44, 123, 91] (r7 s).2.1 (r7 s).2.2).2.1, (nextP [44, 123, 91] (r7 s).2.1 (r7 s).2.2).2.2⟩ := rfl
theorem bad13 {s : List UInt8} (h : (r1 s).2.2 = true) : (r3 s).2.2 = true := by unfold r3; rw [h]; exact sg_true _ _
theorem bad35 {s : List UInt8} (h : (r3 s).2.2 = true) : (r5 s).2.2 = true := by unfold r5; rw [h]; exact sg_true _ _
theorem bad57 {s : List UInt8} (h : (r5 s).2.2 = true) : (r7 s).2.2 = true := by unfold r7; rw [h]; exact sg_true _ _
theorem bad7h {s : List UInt8} (h : (r7 s).2.2 = true) : (hdP s false).bad = true := by
  rw [hdP_r]; show (nextP _ _ _).2.2 = true; rw [h]; exact nextP_true _ _
theorem hdP_true (s : List UInt8) : (hdP s true).bad = true := by
  unfold hdP
  show (nextP _ _ (numP _ (nextP _ _ (numP _ (nextP _ _ (numP _ (nextP _ _ (numP s true).2.2).2.2).2.2).2.2).2.2).2.2).2.2).2.2 = true
  rw [numP_true, nextP_true, numP_true, nextP_true, numP_true, nextP_true, numP_true, nextP_true]
theorem nodeP_true : ∀ n : Nat, (∀ s, (nodeP n s true).2.2 = true) ∧ ∀ way s, (kidsP n way s true).2.2 = true := by
  intro n
  induction n with
  | zero => exact ⟨fun s => by rw [nodeP], fun way s => by rw [kidsP]⟩
  | succ n ih =>
    have hh : ∀ h : HdP, h.bad = true → (nodeH n h).2.2 = true := fun h hb => by
      unfold nodeH
      rw [hb]
      split
      · exact numP_true _
      split
      · exact ih.2 _ _
      split
      · exact ih.2 _ _
      · rfl
    refine ⟨fun s => by rw [nodeP_succ]; exact hh _ (hdP_true s), fun way s => ?_⟩
    rw [kidsP_succ, ih.1]
    unfold kidsH
    rw [nextP_true]
    split
    · exact ih.2 _ _
    · exact nextP_true _ _
theorem nodeH_bad (n : Nat) (h : HdP) (hb : h.bad = true) : (nodeH n h).2.2 = true := by
  unfold nodeH
  rw [hb]
  split
  · exact numP_true _
  split
  · exact (nodeP_true n).2 _ _
  split
  · exact (nodeP_true n).2 _ _
  · rfl
theorem node_bad7 {n : Nat} {s : List UInt8} (h : (r7 s).2.2 = true) : (nodeP (n + 1) s false).2.2 = true := by
  rw [nodeP_succ]; exact nodeH_bad n _ (bad7h h)
/-- Behind the places: the sign. -/
theorem node_none {n : Nat} {s : List UInt8} (h : (r7 s).2.2 = false) (he : (r7 s).2.1 = []) : (nodeP (n + 1) s false).2.2 = true := by
  rw [nodeP_succ]
  refine nodeH_bad n _ ?_
  rw [hdP_r, he]; rfl
theorem node_sign {n : Nat} {s r : List UInt8} {c : UInt8} (h : (r7 s).2.2 = false) (he : (r7 s).2.1 = c :: r) (hc : c ≠ 44 ∧ c ≠ 123 ∧ c ≠ 91) : (nodeP (n + 1) s false).2.2 = true := by
  rw [nodeP_succ]
  refine nodeH_bad n _ ?_
  rw [hdP_r, he]
  show (nextP _ (c :: r) _).2.2 = true
  rw [nextP_cons, if_neg (by simp [hc.1, hc.2.1, hc.2.2])]
theorem hd_sign {s r : List UInt8} {c : UInt8} (h : (r7 s).2.2 = false) (he : (r7 s).2.1 = c :: r) (hc : c = 44 ∨ c = 123 ∨ c = 91) : hdP s false = ⟨(r1 s).1, (r3 s).1, (r5 s).1, (r7 s).1, c, r, false⟩ := by
  rw [hdP_r, he, h, nextP_cons, if_pos (by simp; exact hc)]
theorem node_leaf {n : Nat} {s r : List UInt8} (h : (r7 s).2.2 = false) (he : (r7 s).2.1 = 44 :: r) : nodeP (n + 1) s false = (.mk (numP r false).1 (r5 s).1 (r7 s).1 (r1 s).1 (r3 s).1 0 [], (numP r false).2) := by
  rw [nodeP_succ, hd_sign h he (.inl rfl)]
  unfold nodeH
  rw [if_pos rfl]
theorem node_split {n : Nat} {s r : List UInt8} {c : UInt8} {way : Int} (h : (r7 s).2.2 = false) (he : (r7 s).2.1 = c :: r) (hc : (c = 123 ∧ way = 0) ∨ (c = 91 ∧ way = 1)) :
    nodeP (n + 1) s false = (.mk 0 (r5 s).1 (r7 s).1 (r1 s).1 (r3 s).1 way (kidsP n way r false).1, (kidsP n way r false).2) := by
  rcases hc with ⟨rfl, rfl⟩ | ⟨rfl, rfl⟩
  · rw [nodeP_succ, hd_sign h he (.inr (.inl rfl))]
    unfold nodeH
    rw [if_neg (show ¬ (123 : UInt8) = 44 by decide), if_pos rfl]
  · rw [nodeP_succ, hd_sign h he (.inr (.inr rfl))]
    unfold nodeH
    rw [if_neg (show ¬ (91 : UInt8) = 44 by decide), if_neg (show ¬ (91 : UInt8) = 123 by decide), if_pos rfl]
theorem endB_ne (way : Int) : endB way ≠ 44 := by unfold endB; split <;> decide
theorem kids_badk {n : Nat} {way : Int} {s : List UInt8} (h : (nodeP n s false).2.2 = true) : (kidsP (n + 1) way s false).2.2 = true := by
  rw [kidsP_succ, h]
  unfold kidsH
  rw [nextP_true]
  split
  · exact (nodeP_true n).2 _ _
  · exact nextP_true _ _
theorem kids_nil {n : Nat} {way : Int} {s : List UInt8} {p : P} (h : nodeP n s false = (p, [], false)) : (kidsP (n + 1) way s false).2.2 = true := by
  rw [kidsP_succ, h]
  show (kidsH n way _ (nextP [44, endB way] [] false)).2.2 = true
  rw [nextP_nil]
  unfold kidsH
  rw [if_neg (by show (0 : UInt8) ≠ 44; decide)]
theorem kids_end {n : Nat} {way : Int} {s r : List UInt8} {p : P} (h : nodeP n s false = (p, endB way :: r, false)) : kidsP (n + 1) way s false = ([p], r, false) := by
  rw [kidsP_succ, h]
  show kidsH n way _ (nextP [44, endB way] (endB way :: r) false) = _
  rw [nextP_cons, if_pos (by simp)]
  unfold kidsH
  rw [if_neg (endB_ne way)]
theorem kids_more {n : Nat} {way : Int} {s r : List UInt8} {p : P} (h : nodeP n s false = (p, 44 :: r, false)) : kidsP (n + 1) way s false = (p :: (kidsP n way r false).1, (kidsP n way r false).2) := by
  rw [kidsP_succ, h]
  show kidsH n way _ (nextP [44, endB way] (44 :: r) false) = _
  rw [nextP_cons, if_pos (by simp)]
  unfold kidsH
  rw [if_pos rfl]
theorem kids_other {n : Nat} {way : Int} {s r : List UInt8} {c : UInt8} {p : P} (h : nodeP n s false = (p, c :: r, false)) (h1 : c ≠ endB way) (h2 : c ≠ 44) : (kidsP (n + 1) way s false).2.2 = true := by
  rw [kidsP_succ, h]
  show (kidsH n way _ (nextP [44, endB way] (c :: r) false)).2.2 = true
  rw [nextP_cons, if_neg (by simp [h1, h2])]
  unfold kidsH
  rw [if_neg (by show (0 : UInt8) ≠ 44; decide)]
end Go.Proofs.YtcklmkjlbpjojaaGreatDoor
namespace Go.Proofs.YtcklmkjlbpjojaaGreatDoor
open Go.RowKit
set_option linter.unusedSimpArgs false
set_option linter.unusedVariables false

theorem wr_assoc (x a : Int) : wrap64 (wrap64 (x + a) + 1) = wr64 (x + wr64 (a + 1)) := by
  unfold wr64 wrap64
  omega
/-- A node whose own cells were turned. -/
theorem RAt.upd {w w' : World} {n n' : Nd} {ks ks' : List T} (h : RAt w n ks) (hg : n'.g = n.g) (hA : n'.A = n.A) (hc : n'.c = n.c) (hk : ptrs ks' = ptrs ks) (ho : Off [n.g] w w')
    (hh : w'.heap[n.g]? = some (.cells #[.int .i64 n'.p, .int .i64 n'.x, .int .i64 n'.y, .int .i64 n'.a, .int .i64 n'.b, .bool (bsd n' ks'.length), n'.row ks'.length] 55 (0, 0))) (hAg : n.A ≠ some n.g) : RAt w' n' ks' := by
  have hl : ks'.length = ks.length := by have := congrArg List.length hk; simpa [ptrs] using this
  have hr : ∀ k, n'.row k = n.row k := fun k => by unfold Nd.row; rw [hA, hc]
  refine ⟨by rw [hg]; exact hh, ?_⟩
  rw [hr, hl, hk]
  exact own_same h.r fun b hb => by
    rw [ownBlock_row] at hb
    exact ho.block b (h.lt b (by simp [hb])) (by simp; rintro rfl; exact hAg hb)
theorem RAt.setXY {w : World} {n : Nd} {ks : List T} (h : RAt w n ks) (hAg : n.A ≠ some n.g) (x y : Int) :
    RAt ((w.setCell ⟨n.g, 1, none⟩ (.int .i64 x)).setCell ⟨n.g, 2, none⟩ (.int .i64 y)) { n with x := x, y := y } ks :=
  h.upd rfl rfl rfl rfl ((Off.set w ⟨n.g, 1, none⟩ _).trans (Off.set _ ⟨n.g, 2, none⟩ _) (by simp)) (heap_set (heap_set h.h _) _) hAg
theorem RPs_app {w : World} {l r : List T} : RPs w (l ++ r) ↔ RPs w l ∧ RPs w r := by
  simp only [RPs_iff, List.mem_append]
  exact ⟨fun h => ⟨fun k hk => h k (.inl hk), fun k hk => h k (.inr hk)⟩, fun h k hk => hk.elim (h.1 k) (h.2 k)⟩
/-- Where the loop over kids stands. -/
structure RPl (w : World) (n : Nd) (ks : List T) (x y : Int) (j : Nat) (x' y' : Int) (wr : World) : Prop where
  a : RAt wr { n with x := x, y := y } ks
  l : RPs wr ((placeL n.way ks x y).take j)
  r : RPs wr (ks.drop j)
  e : placeL n.way ks x y = (placeL n.way ks x y).take j ++ placeL n.way (ks.drop j) x' y'
  o : Off (n.g :: blL ks) w wr
theorem RPl.step {w wr w1 : World} {n : Nd} {ks : List T} {x y x' y' : Int} {j : Nat} {k : T} (h : RPl w n ks x y j x' y' wr) (hk : ks[j]? = some k) (hdrop : ks.drop j = k :: ks.drop (j + 1))
    (hkN : (∀ b ∈ k.bl, b ∉ blL (ks.take j)) ∧ (∀ b ∈ k.bl, b ∉ blL (ks.drop (j + 1)))) (hgK : n.g ∉ blL ks) (hAK : ∀ b, n.A = some b → b ∉ blL ks)
    (hT : RP w1 (k.place x' y')) (o1 : Off k.bl wr w1) : RPl w n ks x y (j + 1) (nx n.way k.n x') (ny n.way k.n y') w1 := by
  have hmem : k ∈ ks := List.mem_of_getElem? hk
  have hkK : ∀ b ∈ k.bl, b ∈ blL ks := fun b hb => mem_blL.2 ⟨k, hmem, hb⟩
  refine ⟨?_, ?_, ?_, ?_, ?_⟩
  · exact h.a.same fun b hb' => o1.block b (h.a.lt b hb') (fun hm => by
      rcases List.mem_cons.1 hb' with rfl | h2
      · exact hgK (hkK _ hm)
      · exact hAK b (by simpa using h2) (hkK _ hm))
  · have e1 : (placeL n.way ks x y)[j]? = some (k.place x' y') := by
      rw [h.e, hdrop, placeL_cons, List.getElem?_append_right (by rw [List.length_take]; omega)]
      have : ((placeL n.way ks x y).take j).length = j := by
        rw [List.length_take, placeL_len]; have := (List.getElem?_eq_some_iff.1 hk).1; omega
      rw [this, Nat.sub_self]; rfl
    rw [take_succ' e1, RPs_app]
    refine ⟨h.l.off o1 fun b hb' hm => ?_, ?_⟩
    · have hl2 : blL ((placeL n.way ks x y).take j) = blL (ks.take j) := by
        have e2 := congrArg blL h.e
        rw [blL_app, placeL_bl, placeL_bl] at e2
        have e3 : blL ks = blL (ks.take j) ++ blL (ks.drop j) := by rw [← blL_app, List.take_append_drop]
        rw [e3] at e2
        exact (List.append_cancel_right e2).symm
      rw [hl2] at hb'
      exact hkN.1 b hm hb'
    · rw [RPs, RPs]
      exact ⟨hT, trivial⟩
  · refine RPs.off (show RPs wr (ks.drop (j + 1)) from ?_) o1 fun b hb' hm => hkN.2 b hm hb'
    have := h.r; rw [hdrop, RPs] at this; exact this.2
  · rw [h.e, hdrop, placeL_cons]
    have hl1 : ((placeL n.way ks x y).take j).length = j := by
      rw [List.length_take, placeL_len]; have := (List.getElem?_eq_some_iff.1 hk).1; omega
    have e2 : (placeL n.way ks x y).take j ++ k.place x' y' :: placeL n.way (ks.drop (j + 1)) (nx n.way k.n x') (ny n.way k.n y') = ((placeL n.way ks x y).take j ++ [k.place x' y']) ++ placeL n.way (ks.drop (j + 1)) (nx n.way k.n x') (ny n.way k.n y') := by simp
    have hl3 : ((placeL n.way ks x y).take j ++ [k.place x' y']).length = j + 1 := by rw [List.length_append, hl1]; rfl
    rw [e2, List.take_append_of_le_length (by omega), ← hl3, List.take_length]
  · exact h.o.trans o1 (fun b hb' => .inl (by simp [hkK b hb']))
set_option maxHeartbeats 1000000 in
set_option maxRecDepth 100000 in
theorem placeR_any : ∀ (t : T) (x y : Int) (w : World), RP w t → t.bl.Nodup → t.w01 →
    Calls Tryz.prog 40 #[ptr t.g, .int .i64 x, .int .i64 y] w fun e w' => e = .returned (.tuple #[]) ∧ RP w' (t.place x y) ∧ Off t.bl w w' := by
  intro t
  induction t using T.ind with
  | h n ks ih =>
    intro x y w hT hN hW
    have hAt := hT.at_
    have hK := hT.kids
    have hlt : n.g < w.heap.size := hAt.lt _ (by simp)
    have hsm := hAt.small
    rw [T.bl_mk] at hN
    have hgK : n.g ∉ blL ks := fun h => (List.nodup_cons.1 hN).1 (by simp [h])
    have hgA : ∀ b, n.A = some b → b ≠ n.g := fun b hb e => (List.nodup_cons.1 hN).1 (by subst e; simp [hb])
    have hAK : ∀ b, n.A = some b → b ∉ blL ks := fun b hb h => (List.nodup_append.1 (List.nodup_cons.1 hN).2).2.2 b (by simp [hb]) b h rfl
    have hKN : (blL ks).Nodup := (List.nodup_append.1 (List.nodup_cons.1 hN).2).2.1
    have hw01 := hW.n
    obtain ⟨len, hln⟩ : ∃ len, len = ks.length := ⟨_, rfl⟩
    have hAg : n.A ≠ some n.g := fun e => hgA _ e rfl
    obtain ⟨W0, hW0⟩ : ∃ W0, W0 = (w.setCell ⟨n.g, 1, none⟩ (.int .i64 x)).setCell ⟨n.g, 2, none⟩ (.int .i64 y) := ⟨_, rfl⟩
    have o0 : Off [n.g] w W0 := by rw [hW0]; exact (Off.set w ⟨n.g, 1, none⟩ _).trans (Off.set _ ⟨n.g, 2, none⟩ _) (by simp)
    have hI0 : RPl w n ks x y 0 x y W0 := by
      refine ⟨by rw [hW0]; exact hAt.setXY hAg x y, by rw [List.take_zero, RPs]; trivial, ?_, by simp, o0.sub (by simp)⟩
      rw [List.drop_zero]
      exact hK.off o0 fun b hb => by simp; rintro rfl; exact hgK hb
    have f10 := hAt.free 1
    have f11 := hAt.free 2
    have c1 := hAt.c1
    have c2 := hAt.c2
    replace hI0 := Lib.hid hI0
    obtain ⟨AA, hAA⟩ : ∃ AA, AA = adr n.A := ⟨_, rfl⟩
    obtain ⟨bs, hbs⟩ : ∃ bs, bs = bsd n ks.length := ⟨_, rfl⟩
    rw [← hln] at hsm hbs
    have hbs0 : 0 < len → bs = (n.way == 0) := fun h => by
      rw [hbs]; unfold bsd
      rw [show (len != 0) = true by simp; omega, Bool.true_and]
    have hcell : ∀ j x' y' wr, RPl w n ks x y j x' y' wr → wr.cell? ⟨n.g, 6, none⟩ = some (.slice AA len n.c) ∧ wr.cell? ⟨n.g, 5, none⟩ = some (.bool bs) := fun j x' y' wr h => by
      have h6 := h.a.c6; have h5 := h.a.c5
      rw [← hln] at h6 h5
      refine ⟨?_, ?_⟩
      · rw [hAA]; exact h6
      · rw [hbs]; exact h5
    replace hln := Lib.hid hln; replace hAt := Lib.hid hAt; replace hK := Lib.hid hK; replace ih := Lib.hid ih; replace hAA := Lib.hid hAA; replace hT := Lib.hid hT
    replace hgA := Lib.hid hgA; replace hAK := Lib.hid hAK; replace hKN := Lib.hid hKN; replace hgK := Lib.hid hgK; replace hN := Lib.hid hN; replace hAg := Lib.hid hAg; replace hW := Lib.hid hW; replace hw01 := Lib.hid hw01; replace hbs := Lib.hid hbs; replace hbs0 := Lib.hid hbs0; replace hcell := Lib.hid hcell
    show Calls Tryz.prog 40 #[ptr n.g, .int .i64 x, .int .i64 y] w _
    unfold ptr
    go_enter Tryz.func40, Tryz.ntmps40
    go_upto_region 2 with fail
    rw [← hW0]
    clear hW0 o0 f10 f11 c1 c2
    go_wp2_with fail
    go_loopw [1, 2, 6] (fun xv yv iv wr => ∃ j : Nat, j ≤ len ∧ iv = .int .i64 j ∧ ∃ x' y', xv = .int .i64 x' ∧ yv = .int .i64 y' ∧ Hid (RPl w n ks x y j x' y' wr)) (fun _ _ iv _ => len - (intOf iv).toNat)
    case atStart => exact ⟨0, Nat.zero_le _, rfl, x, y, rfl, rfl, hI0⟩
    case round =>
      obtain ⟨j, hj, rfl, x', y', rfl, rfl, hI⟩ := hrel
      obtain ⟨c6, c5⟩ := hcell.out j x' y' wr hI.out
      by_cases hlt2 : j < len
      · obtain ⟨k, hk⟩ : ∃ k, ks[j]? = some k := ⟨ks[j]'(by rw [← hln.out]; exact hlt2), List.getElem?_eq_getElem _⟩
        obtain ⟨b, hA, hc⟩ := hI.out.a.kid hk
        have hmem : k ∈ ks := List.mem_of_getElem? hk
        have hdrop : ks.drop j = k :: ks.drop (j + 1) := by
          obtain ⟨h1, h2⟩ := List.getElem?_eq_some_iff.1 hk
          rw [List.drop_eq_getElem_cons h1, h2]
        have hAb : AA = some ⟨b, 0, none⟩ := by rw [hAA.out]; show adr n.A = _; rw [show n.A = some b from hA]; rfl
        have hkT : RP wr k := RPs_iff.1 (hdrop ▸ hI.out.r) k (by simp)
        have hkN : k.bl.Nodup ∧ (∀ b ∈ k.bl, b ∉ blL (ks.take j)) ∧ (∀ b ∈ k.bl, b ∉ blL (ks.drop (j + 1))) := by
          have := hKN.out
          rw [← List.take_append_drop j ks, hdrop, blL_app, blL_cons] at this
          obtain ⟨_, h2, h3⟩ := List.nodup_append.1 this
          obtain ⟨h4, _, h6⟩ := List.nodup_append.1 h2
          exact ⟨h4, fun b hb hb' => h3 b hb' b (by simp [hb]) rfl, fun b hb hb' => h6 b hb b hb' rfl⟩
        have CK := Lib.hid (ih.out k hmem x' y' wr hkT hkN.1 (hW.out.k hmem))
        have hbe := hbs0.out (by omega)
        subst hAb
        replace hk := Lib.hid hk; replace hdrop := Lib.hid hdrop; replace hkT := Lib.hid hkT; replace hkN := Lib.hid hkN; replace hA := Lib.hid hA; replace hbe := Lib.hid hbe
        unfold ptr at hc CK
        go_wp2_with fail
        refine CK.out.mono ?_
        rintro e w1 ⟨rfl, hT1, o1⟩
        have hst := hI.out.step hk.out hdrop.out hkN.out.2 hgK.out hAK.out hT1 o1
        have c61 := (hcell.out _ _ _ _ hst).1
        have c51 := (hcell.out _ _ _ _ hst).2
        have hkA : RAt w1 (k.place x' y').n (k.place x' y').ks := by cases hp : k.place x' y' with | mk m l => rw [hp] at hT1; exact hT1.at_
        have k3 : w1.cell? ⟨k.g, 3, none⟩ = some (.int .i64 k.n.a) := by
          have h3 := hkA.c3
          rw [T.place_n] at h3
          exact h3
        have k4 : w1.cell? ⟨k.g, 4, none⟩ = some (.int .i64 k.n.b) := by
          have h4 := hkA.c4
          rw [T.place_n] at h4
          exact h4
        replace hst := Lib.hid hst; replace hT1 := Lib.hid hT1; replace o1 := Lib.hid o1; replace hkA := Lib.hid hkA
        clear hc c6 c5
        rcases hw01.out with hw | hw
        · have : bs = true := by rw [hbe.out, hw]; rfl
          subst this
          go_wp2_with fail
          refine ⟨⟨j + 1, by omega, by go_num, _, _, rfl, rfl, Lib.hid ?_⟩, by simp [intOf]; omega⟩
          have := hst.out
          unfold nx ny at this
          rw [if_pos hw, if_pos hw, ← wr_assoc] at this
          exact this
        · have hwn : ¬ n.way = 0 := by rw [hw]; decide
          have : bs = false := by rw [hbe.out, hw]; rfl
          subst this
          go_wp2_with fail
          refine ⟨⟨j + 1, by omega, by go_num, _, _, rfl, rfl, Lib.hid ?_⟩, by simp [intOf]; omega⟩
          have := hst.out
          unfold nx ny at this
          rw [if_neg hwn, if_neg hwn, ← wr_assoc] at this
          exact this
      · have : j = len := by omega
        subst this
        go_wp2_with fail
        go_end0
        refine ⟨rfl, ?_, hI.out.o.sub (by
          intro b hb
          rw [T.bl_mk]
          simp only [List.mem_cons, List.mem_append] at hb ⊢
          rcases hb with rfl | hb
          · exact .inl (.inl rfl)
          · exact .inl (.inr (.inr hb)))⟩
        rw [T.place_mk]
        have hl := hI.out.l
        have : (placeL n.way ks x y).length = j := by rw [placeL_len, ← hln.out]
        rw [List.take_of_length_le (by omega)] at hl
        refine .mk ?_ hl
        have ha := hI.out.a
        exact ⟨by
          have := ha.h
          rw [placeL_len]
          exact this, by
          have := ha.r
          rw [placeL_len, placeL_ptrs]
          exact this⟩
end Go.Proofs.YtcklmkjlbpjojaaGreatDoor
