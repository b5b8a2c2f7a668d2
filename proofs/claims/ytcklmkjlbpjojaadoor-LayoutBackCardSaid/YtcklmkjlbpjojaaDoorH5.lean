/- Layout: what the example is written as. Layout: shown. -/
import Derived.Test.YtcklmkjlbpjojaaDoorH4
namespace Go.Proofs.YtcklmkjlbpjojaaDoor
open Go.RowKit
set_option linter.unusedSimpArgs false
set_option linter.unusedVariables false

theorem dd1 {u : Nat} (h : u < 10) : Lib.decDigits u = [UInt8.ofNat (48 + u)] := by rw [Lib.decDigits, dif_pos h]
theorem dd2 {u : Nat} (h : ¬ u < 10) (h2 : u / 10 < 10) : Lib.decDigits u = [UInt8.ofNat (48 + u / 10), UInt8.ofNat (48 + u % 10)] := by rw [Lib.decDigits, dif_neg h, dd1 h2]; rfl
theorem it0 : Lib.itoa 0 = [48] := by unfold Lib.itoa; rw [if_neg (by decide)]; exact dd1 (by decide)
theorem it1 : Lib.itoa 1 = [49] := by unfold Lib.itoa; rw [if_neg (by decide)]; exact dd1 (by decide)
theorem it2 : Lib.itoa 2 = [50] := by unfold Lib.itoa; rw [if_neg (by decide)]; exact dd1 (by decide)
theorem it3 : Lib.itoa 3 = [51] := by unfold Lib.itoa; rw [if_neg (by decide)]; exact dd1 (by decide)
theorem it5 : Lib.itoa 5 = [53] := by unfold Lib.itoa; rw [if_neg (by decide)]; exact dd1 (by decide)
theorem it18 : Lib.itoa 18 = [49, 56] := by unfold Lib.itoa; rw [if_neg (by decide)]; exact dd2 (by decide) (by decide)
theorem it19 : Lib.itoa 19 = [49, 57] := by unfold Lib.itoa; rw [if_neg (by decide)]; exact dd2 (by decide) (by decide)
theorem it24 : Lib.itoa 24 = [50, 52] := by unfold Lib.itoa; rw [if_neg (by decide)]; exact dd2 (by decide) (by decide)
theorem it39 : Lib.itoa 39 = [51, 57] := by unfold Lib.itoa; rw [if_neg (by decide)]; exact dd2 (by decide) (by decide)
theorem it40 : Lib.itoa 40 = [52, 48] := by unfold Lib.itoa; rw [if_neg (by decide)]; exact dd2 (by decide) (by decide)
theorem it41 : Lib.itoa 41 = [52, 49] := by unfold Lib.itoa; rw [if_neg (by decide)]; exact dd2 (by decide) (by decide)
theorem it80 : Lib.itoa 80 = [56, 48] := by unfold Lib.itoa; rw [if_neg (by decide)]; exact dd2 (by decide) (by decide)
def shownBody : List UInt8 := [56, 48, 120, 50, 52, 44, 48, 44, 48, 123, 52, 48, 120, 50, 52, 44, 48, 44, 48, 44, 49, 44, 51, 57, 120, 50, 52, 44, 52, 49, 44, 48, 91, 51, 57, 120, 49, 56, 44, 52, 49, 44, 48, 44, 50, 44, 51, 57, 120, 53, 44, 52, 49, 44, 49, 57, 44, 51, 93, 125]
def shownText : List UInt8 := [98, 97, 98, 99, 44, 56, 48, 120, 50, 52, 44, 48, 44, 48, 123, 52, 48, 120, 50, 52, 44, 48, 44, 48, 44, 49, 44, 51, 57, 120, 50, 52, 44, 52, 49, 44, 48, 91, 51, 57, 120, 49, 56, 44, 52, 49, 44, 48, 44, 50, 44, 51, 57, 120, 53, 44, 52, 49, 44, 49, 57, 44, 51, 93, 125]
theorem body_tr2 (F L S A B : Bk) : (tr2 F L S A B).body = shownBody := by
  unfold tr2
  simp only [T.body_mk, bodyL_cons, bodyL_nil, headB, mkN, it0, it1, it2, it3, it5, it18, it19, it24, it39, it40, it41, it80]
  rfl
theorem four_tr2 : fourB (sumB shownBody) = [98, 97, 98, 99] := by decide +kernel
theorem print_tr2 (F L S A B : Bk) : (tr2 F L S A B).print = shownText := by
  unfold T.print
  rw [body_tr2, four_tr2]
  rfl
theorem sum_ab : sumB [97, 98] = 32914 := by decide +kernel
end Go.Proofs.YtcklmkjlbpjojaaDoor
namespace Go.Proofs.YtcklmkjlbpjojaaDoor
open Go.RowKit
set_option linter.unusedSimpArgs false
set_option linter.unusedVariables false

theorem Tab.below {w w' : World} (h : Tab w) (hB : Below w.heap.size w w') : Tab w' := by
  unfold Tab Lib.TabIs World.var? at *
  cases hn : Tryd.prog.globalNamed "internal/strconv.uint64pow10" with
  | none => simp [hn] at h
  | some g =>
    simp only [hn, Option.bind_some] at h ⊢
    have hlt : g < w.heap.size := by
      rcases Nat.lt_or_ge g w.heap.size with h' | h'
      · exact h'
      · rw [Array.getElem?_eq_none h'] at h; simp at h
    rw [hB.block g hlt]
    exact h
theorem OpsIn.below {w w' : World} {A : Option Addr} {xs : List Value} (h : Rd w A xs) (hB : Below w.heap.size w w') : Rd w' A xs := fun hx => by
  obtain ⟨b, off, hA, hlt, hc⟩ := h hx
  exact ⟨b, off, hA, Nat.lt_of_lt_of_le hlt hB.size, fun j u hj => (World.cell?_of_block (hB.block b hlt)).trans (hc j u hj)⟩
theorem Deb.below {w w' : World} (h : Deb w) (hB : Below w.heap.size w w') : Deb w' := by
  unfold Deb at *
  rw [World.cell?_of_block (hB.block _ (World.block_lt_of_cell? w _ h))]; exact h
theorem nds_tr2 (F L S A B : Bk) : (tr2 F L S A B).nds = [mkN F 0 0 0 80 24 0, mkN L 1 0 0 40 24 0, mkN S 0 41 0 39 24 1, mkN A 2 41 0 39 18 0, mkN B 3 41 19 39 5 0] := by
  unfold tr2; rw [T.nds_mk, ndsL_cons, ndsL_cons, ndsL_nil, nds_leaf, T.nds_mk, ndsL_cons, ndsL_cons, ndsL_nil, nds_leaf, nds_leaf]; rfl
theorem rg_tr2 (F L S A B : Bk) : (tr2 F L S A B).rg ∧ (tr2 F L S A B).w01 := by
  have h : ∀ m ∈ (tr2 F L S A B).nds, m.rg ∧ (m.way = 0 ∨ m.way = 1) := by
    rw [nds_tr2]
    intro m hm
    simp only [List.mem_cons, List.not_mem_nil, or_false] at hm
    unfold Nd.rg I64
    rcases hm with rfl | rfl | rfl | rfl | rfl <;> simp [mkN]
  exact ⟨fun m hm => (h m hm).1, fun m hm => (h m hm).2⟩

set_option maxHeartbeats 2000000 in
set_option maxRecDepth 100000 in
theorem shown_any (w : World) (hTab : Tab w) (hD : Deb w) : Calls Tryd.prog 7 #[] w fun e w' => e = .returned (.bool true) ∧ Below w.heap.size w w' := by
  have CN := Lib.hid (new_any 80 24 1 w (by decide) (by omega))
  replace hTab := Lib.hid hTab; replace hD := Lib.hid hD
  go_enter Tryd.func7, Tryd.ntmps7
  go_wp2_with fail
  refine CN.out.mono ?_
  rintro e w1 ⟨tr, g, rfl, hT1, G1⟩
  have hb1 : w.heap.size ≤ w1.heap.size := G1.size
  have B1 : Below w.heap.size w w1 := ⟨G1.os, G1.tape, G1.output, G1.size, fun k hk => G1.block k hk (by simp)⟩
  have C1 := Lib.hid (show1 _ tr g w1 hT1 hb1)
  replace B1 := Lib.hid B1; replace hT1 := Lib.hid hT1
  clear CN G1
  unfold ptr at *
  go_wp2_with fail
  refine C1.out.mono ?_
  rintro e w2 ⟨rfl, B2, F, L, N, hT2⟩
  replace B2 := Lib.hid (B1.out.trans B2)
  have C2 := Lib.hid (show2 _ tr F L N w2 hT2 B2.out.size)
  replace hT2 := Lib.hid hT2
  clear C1 B1 hT1
  unfold ptr at *
  go_wp2_with fail
  refine C2.out.mono ?_
  rintro e w3 ⟨rfl, B3, L', S, A, B, hT3⟩
  replace B3 := Lib.hid (B2.out.trans B3)
  have C3 := Lib.hid (print_any _ tr _ w3 hT3 (rg_tr2 F L' S A B).1 (rg_tr2 F L' S A B).2 (hTab.out.below B3.out) (hD.out.below B3.out) (by rw [body_tr2]; decide))
  rw [print_tr2, show st shownText = ⟨#[98, 97, 98, 99, 44, 56, 48, 120, 50, 52, 44, 48, 44, 48, 123, 52, 48, 120, 50, 52, 44, 48, 44, 48, 44, 49, 44, 51, 57, 120, 50, 52, 44, 52, 49, 44, 48, 91, 51, 57, 120, 49, 56, 44, 52, 49, 44, 48, 44, 50, 44, 51, 57, 120, 53, 44, 52, 49, 44, 49, 57, 44, 51, 93, 125]⟩ from rfl] at C3
  replace hT3 := Lib.hid hT3
  clear C2 B2 hT2
  unfold ptr at *
  go_wp2_with fail
  refine C3.out.mono ?_
  rintro e w4 ⟨rfl, G4⟩
  have hT4 := hT3.out.grown G4
  have B4 := B3.out.trans (⟨G4.os, G4.tape, G4.output, G4.size, fun k hk => G4.block k (by have := B3.out.size; omega) (by simp)⟩ : Below w.heap.size w3 w4)
  have C4 := Lib.hid (show3 _ tr F L' S A B w4 hT4 B4.size)
  replace hT4 := Lib.hid hT4; replace B4 := Lib.hid B4
  clear C3 G4 B3 hT3
  unfold ptr at *
  go_wp2_with fail
  refine C4.out.mono ?_
  rintro e w5 ⟨rfl, hT5, B5⟩
  replace B5 := Lib.hid (B4.out.trans B5)
  have C5 := Lib.hid (boxes_any _ tr _ w5 hT5 (by rw [leaves_tr3]; exact (by decide : 3 ≤ 100000)))
  have hT5lt : tr < w5.heap.size ∧ ∀ b ∈ (tr3 F L' S A B).bl, b < w5.heap.size := ⟨hT5.lt, fun b hb => hT5.p.lt _ _ b hb⟩
  replace hT5lt := Lib.hid hT5lt
  replace hT5 := Lib.hid hT5
  clear C4 B4 hT4
  unfold ptr at *
  go_wp2_with fail
  refine C5.out.mono ?_
  rintro e w6 ⟨A6, c6, rfl, O6, G6⟩
  obtain ⟨A6x, c6x, e6x, R6, _⟩ := Rd.of_own O6
  injection e6x with e6x _ e6y
  subst e6x; subst e6y
  rw [boxes_boxL, leaves_tr3] at R6
  have hT6 := hT5.out.grown G6
  have B6 := B5.out.trans (⟨G6.os, G6.tape, G6.output, G6.size, fun k hk => G6.block k (by have := B5.out.size; omega) (by simp)⟩ : Below w.heap.size w5 w6)
  have C6 := Lib.hid (show4 _ tr F L' S A B w6 hT6 B6.size)
  replace hT6 := Lib.hid hT6; replace B6 := Lib.hid B6; replace R6 := Lib.hid R6; replace O6 := Lib.hid O6
  clear C5 B5 hT5 G6
  rw [show (tr3 F L' S A B).leaves.length = 3 by rw [leaves_tr3]; rfl]
  unfold ptr at *
  go_wp2_with fail
  refine C6.out.mono ?_
  rintro e w7 ⟨rfl, hT7, B7, OF7⟩
  have O67 : w7.ownsRow w5.heap.size 30 5 (.slice A6 3 c6) 3 (boxL [(1, 0, 0, 40, 24), (2, 41, 0, 39, 16), (3, 41, 17, 39, 7)]) := by
    have h := O6.out
    rw [boxes_boxL, leaves_tr3] at h
    refine own_same h fun b hb => OF7.block b (h.lt b hb).2 ?_
    have hge := (h.lt b hb).1
    intro hm
    rcases List.mem_cons.1 hm with rfl | hm
    · have := hT5lt.out.1; omega
    · have := hT5lt.out.2 b hm; omega
  replace B7 := Lib.hid (B6.out.trans B7)
  have C7 := Lib.hid (boxes_any _ tr _ w7 hT7 (by rw [leaves_tr4]; exact (by decide : 2 ≤ 100000)))
  rw [leaves_tr4] at C7
  replace hT7 := Lib.hid hT7; replace OF7 := Lib.hid OF7
  clear C6 B6 hT6
  unfold ptr at *
  go_wp2_with fail
  refine C7.out.mono ?_
  rintro e w8 ⟨A8, c8, rfl, O8, G8⟩
  have O68 := own_keep O67 G8
  obtain ⟨A8x, c8x, e8x, R8, _⟩ := Rd.of_own O8
  injection e8x with e8x _ e8y
  subst e8x; subst e8y
  obtain ⟨A6x, c6x, e6x, R68, _⟩ := Rd.of_own O68
  injection e6x with e6x _ e6y
  subst e6x; subst e6y
  rw [boxes_boxL] at R8
  have B8 := B7.out.trans (⟨G8.os, G8.tape, G8.output, G8.size, fun k hk => G8.block k (by have := B7.out.size; omega) (by simp)⟩ : Below w.heap.size w7 w8)
  replace B8 := Lib.hid B8; replace R8 := Lib.hid R8; replace R68 := Lib.hid R68; replace O68 := Lib.hid O68; replace O8 := Lib.hid O8; replace O67 := Lib.hid O67
  clear C7 B7 hT7 G8 OF7
  have g9 := World.grownBy_alloc w8 (.cells #[.int .i64 1, .int .i64 0, .int .i64 0, .int .i64 40, .int .i64 24, .int .i64 2, .int .i64 41, .int .i64 0, .int .i64 39, .int .i64 16, .int .i64 3, .int .i64 41, .int .i64 17, .int .i64 39, .int .i64 7] 30) none
  obtain ⟨A6y, c6y, e6z, R69, _⟩ := Rd.of_own (own_keep O68.out g9)
  injection e6z with e6z _ e6w
  subst e6z; subst e6w
  have C8 := Lib.hid (sameBoxes_any A6 (some ⟨w8.heap.size, 0, none⟩) 3 c6 3 [(1, 0, 0, 40, 24), (2, 41, 0, 39, 16), (3, 41, 17, 39, 7)] _ rfl (by omega) R69 (Rd.newL w8 (boxL [(1, 0, 0, 40, 24), (2, 41, 0, 39, 16), (3, 41, 17, 39, 7)]) 30))
  replace R69 := Lib.hid R69
  go_wp2_with fail
  refine C8.out.mono ?_
  rintro e w10 ⟨rfl, G10⟩
  have O80 := own_keep (own_keep O8.out g9) G10
  have B10 := (B8.out.trans (⟨g9.os, g9.tape, g9.output, g9.size, fun k hk => g9.block k (by have := B8.out.size; omega) (by simp)⟩ : Below w.heap.size w8 _)).trans (⟨G10.os, G10.tape, G10.output, G10.size, fun k hk => G10.block k (by have := B8.out.size; simp; omega) (by simp)⟩ : Below w.heap.size _ w10)
  have g11 := World.grownBy_alloc w10 (.cells #[.int .i64 2, .int .i64 0, .int .i64 0, .int .i64 80, .int .i64 16, .int .i64 3, .int .i64 0, .int .i64 17, .int .i64 80, .int .i64 7] 30) none
  obtain ⟨A8y, c8y, e8z, R81, _⟩ := Rd.of_own (own_keep O80 g11)
  injection e8z with e8z _ e8w
  subst e8z; subst e8w
  rw [boxes_boxL] at R81
  have C9 := Lib.hid (sameBoxes_any A8 (some ⟨w10.heap.size, 0, none⟩) 2 c8 2 [(2, 0, 0, 80, 16), (3, 0, 17, 80, 7)] _ rfl (by omega) R81 (Rd.newL w10 (boxL [(2, 0, 0, 80, 16), (3, 0, 17, 80, 7)]) 30))
  replace R81 := Lib.hid R81; replace O80 := Lib.hid O80; replace B10 := Lib.hid B10; replace g9 := Lib.hid g9; replace g11 := Lib.hid g11; replace G10 := Lib.hid G10
  clear C8
  go_wp2_with fail
  refine C9.out.mono ?_
  rintro e w12 ⟨rfl, G12⟩
  have B12 := (B10.out.trans (⟨g11.out.os, g11.out.tape, g11.out.output, g11.out.size, fun k hk => g11.out.block k (by have := B10.out.size; omega) (by simp)⟩ : Below w.heap.size w10 _)).trans (⟨G12.os, G12.tape, G12.output, G12.size, fun k hk => G12.block k (by have := B10.out.size; simp; omega) (by simp)⟩ : Below w.heap.size _ w12)
  have CS := Lib.hid (fun W => sum_any [97, 98] W (by decide))
  rw [sum_ab] at CS
  replace CS : Hid (∀ W, Calls Tryd.prog 23 #[.string ⟨#[97, 98]⟩] W fun e w' => e = .returned (.int .i64 32914) ∧ W = w') := CS
  replace B12 := Lib.hid B12; replace G12 := Lib.hid G12
  clear C9
  go_wp2_with (first | (go_at_call 23; refine (CS.out _).mono ?_; rintro e w13 ⟨rfl, rfl⟩) | fail)
  go_ret
  exact ⟨rfl, B12.out⟩
end Go.Proofs.YtcklmkjlbpjojaaDoor
