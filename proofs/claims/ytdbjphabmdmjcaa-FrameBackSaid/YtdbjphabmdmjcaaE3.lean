/- Contract: shown, the chapter's examples. -/
import Derived.Test.YtdbjphabmdmjcaaE2
namespace Go.Proofs.Ytdbjphabmdmjcaa
open Go.RowKit
set_option linter.unusedSimpArgs false
set_option linter.unusedVariables false

def fA : Fm := ⟨1, 80, 24, [], []⟩
def fB : Fm := ⟨2, 0, 0, [st [108, 115], st []], []⟩
def fC : Fm := ⟨9, 256, 0, [], []⟩
def fD : Fm := ⟨5, 0, 0, [], []⟩
theorem fA_r : fA.right = true := by decide
theorem fB_r : fB.right = true := by
  have : longs fB.ws = false := by
    simp only [longs, decide_eq_false_iff_not]
    rintro ⟨s, hs, h⟩
    simp [fB] at hs
    rcases hs with rfl | rfl <;> simp [st_size] at h
  unfold Fm.right; rw [this]; decide
theorem fC_r : fC.right = false := by decide
theorem fD_r : fD.right = true := by decide
theorem fits_of {f : Fm} (h1 : f.ws.length ≤ 2) (h2 : f.d = []) (h3 : ∀ s ∈ f.ws, s.size ≤ 2) : f.Fits := ⟨by omega, by rw [h2]; simp, fun s hs => by have := h3 s hs; omega⟩
theorem run1 : Run ([] ++ [0]) [] [0] true := .wait _ (.inl (by decide))
theorem run2 : Run ([0] ++ [3, 5]) [] [0, 3, 5] true := .wait _ (.inr ⟨0, 3, [5], rfl, by decide, by decide, by decide⟩)
theorem run3 : Run ([0, 3, 5] ++ [0, 0, 0]) [fD] [0] true := .take _ fD [0] [] _ _ (by
  have := take_wire fD fD_r (by decide) [0]
  exact this) (.wait _ (.inl (by decide)))

theorem RB.new (w : World) (s : Value) (b : Bool) : RB (w.alloc (.cells #[s, .bool b] 65)) w.heap.size s b := heap_alloc_new w _
theorem RB.alloc {w : World} {p : Nat} {s : Value} {br : Bool} (h : RB w p s br) (o : Obj) : RB (w.alloc o) p s br := h.grown (World.grownBy_alloc w o none) (by simp)
theorem g_far {w a b : World} {p : Nat} (h : w.grownBy a none) (k : a.grownBy b (some p)) (hp : w.heap.size ≤ p) : w.grownBy b none :=
  ⟨k.os.trans h.os, k.tape.trans h.tape, k.output.trans h.output, Nat.le_trans h.size k.size, fun i hi _ =>
    (k.block i (Nat.lt_of_lt_of_le hi h.size) (by intro e; injection e with e; omega)).trans (h.block i hi (by simp))⟩
theorem okLen {w w' : World} {l : List UInt8} {e : Ending} (n : Nat) (hn : n = l.length) (h : l.length ≤ 16384) (k : OkPost w l e w') :
    w.grownBy w' none ∧ ∃ A c, e = .returned (.tuple #[.slice A (n + 2) c, .int .i64 0]) ∧ Rd w' A (bs (hi8 n :: lo8 n :: l)) := by
  subst hn
  obtain ⟨g, ⟨h', _⟩ | ⟨_, A, c, e, o⟩⟩ := k
  · omega
  · obtain ⟨A5, c5, e5, R5, _, _⟩ := Rd.of_own o
    injection e5 with e5 _ e6
    subst e5; subst e6
    exact ⟨g, A, c, e, R5⟩
theorem feedDet {w w' : World} {p : Nat} {L : List UInt8} {e : Ending} {fs : List Fm} {rest : List UInt8} (hR : Run L fs rest true) (k : FeedPost w p L e w') :
    w.grownBy w' (some p) ∧ ∃ Av cv xs A c, e = .returned (.tuple #[.slice Av fs.length cv, .int .i64 0]) ∧ w'.ownsRow w.heap.size 25 5 (.slice Av fs.length cv) fs.length xs ∧ FrCells w.heap.size w' fs xs ∧
      RB w' p (.slice A rest.length c) false ∧ Rd w' A (bs rest) := by
  obtain ⟨gs, r2, ok, v, hr, he, ⟨Av, cv, xs, rfl, o, cc⟩, g, h1, _⟩ := k
  obtain ⟨rfl, rfl, rfl⟩ := hR.det hr
  obtain ⟨A, c, b1, b2, _⟩ := h1 rfl
  exact ⟨g, Av, cv, xs, A, c, he, o, cc, b1, b2⟩

set_option maxRecDepth 100000 in
set_option maxHeartbeats 1000000 in
theorem shown_any (w : World) : Calls Try.prog 8 #[] w fun e w' => e = .returned (.bool true) ∧ w.grownBy w' none := by
  have CA := Lib.hid (fun W => (Encode_yes fA _ W ⟨none, 0, none, 0, rfl, Rd.nil _ _, Rd.nil _ _⟩ (fits_of (by decide) rfl (by intro s hs; cases hs)) fA_r).mono fun _ _ h => okLen 3 rfl (by decide) h)
  have CB := Lib.hid (fun W A (hA : Rd W A [.string (st [108, 115]), .string (st [])]) => (Encode_yes fB _ W ⟨A, 2, none, 0, rfl, hA, Rd.nil _ _⟩ (fits_of (by decide) rfl (by intro s hs; simp [fB] at hs; rcases hs with rfl | rfl <;> simp [st_size])) fB_r).mono fun _ _ h => okLen 9 rfl (by decide) h)
  have CC := Lib.hid (fun W => (Encode_no fC _ W ⟨none, 0, none, 0, rfl, Rd.nil _ _, Rd.nil _ _⟩ (fits_of (by decide) rfl (by intro s hs; cases hs)) fC_r))
  go_enter Try.func8, Try.ntmps8
  go_wp2_with fail
  refine (CA.out _).mono ?_
  rintro e w1 ⟨G1, A1, c1, rfl, R1⟩
  replace R1 := Lib.hid R1; replace G1 := Lib.hid G1
  go_wp2_with fail
  refine (CB.out _ _ (Rd.new _ _ _)).mono ?_
  rintro e w2 ⟨G2, A2, c2, rfl, R2⟩
  replace R2 := Lib.hid R2; replace G2 := Lib.hid G2
  go_wp2_with fail
  refine (CC.out _).mono ?_
  rintro e w3 ⟨rfl, G3⟩
  replace G3 := Lib.hid G3
  have hpn : (.pointer (some ⟨w3.heap.size, 0, none⟩) : Value) ≠ .pointer none := by simp
  go_wp2_with (go_at_call 14; refine (newReader_any w3).mono ?_; rintro e w' ⟨rfl, rfl⟩)
  have hr1 := (RB.new w3 (.slice none 0 0) false).alloc (.cells #[.int .u8 0] 5)
  have hB1 := Rd.new' (w := w3.alloc (.cells #[.slice none 0 0, .bool false] 65)) #[.int .u8 0] 5 (n := w3.heap.size + 1) (by simp)
  refine ((feed_any w3.heap.size none (some ⟨w3.heap.size + 1, 0, none⟩) 0 1 0 1 [] [0] _ hr1 (Rd.nil _ _) rfl hB1 rfl (by omega)).mono fun _ _ h => feedDet run1 h).mono ?_
  rintro e w4 ⟨G4, V1, v1, xs1, L1, l1, rfl, _, _, B4, R4⟩
  replace G4 := Lib.hid G4; replace B4 := Lib.hid B4; replace R4 := Lib.hid R4
  clear hr1 hB1
  go_wp2_with fail
  have hr2 := B4.out.alloc (.cells #[.int .u8 3, .int .u8 5] 5)
  have hB2 := Rd.new' (w := w4) #[.int .u8 3, .int .u8 5] 5 (n := w4.heap.size) rfl
  refine ((feed_any w3.heap.size L1 (some ⟨w4.heap.size, 0, none⟩) 1 2 l1 2 [0] [3, 5] _ hr2 (R4.out.alloc _) rfl hB2 rfl (by omega)).mono fun _ _ h => feedDet run2 h).mono ?_
  rintro e w5 ⟨G5, V2, v2, xs2, L2, l2, rfl, _, _, B5, R5⟩
  replace G5 := Lib.hid G5; replace B5 := Lib.hid B5; replace R5 := Lib.hid R5
  clear hr2 hB2
  go_wp2_with fail
  have hr3 := B5.out.alloc (.cells #[.int .u8 0, .int .u8 0, .int .u8 0] 5)
  have hB3 := Rd.new' (w := w5) #[.int .u8 0, .int .u8 0, .int .u8 0] 5 (n := w5.heap.size) rfl
  refine ((feed_any w3.heap.size L2 (some ⟨w5.heap.size, 0, none⟩) 3 3 l2 3 [0, 3, 5] [0, 0, 0] _ hr3 (R5.out.alloc _) rfl hB3 rfl (by omega)).mono fun _ _ h => feedDet run3 h).mono ?_
  rintro e w6 ⟨G6, V3, v3, xs3, L3, l3, rfl, O6, C6, B6, R6⟩
  clear hr3 hB3
  have g36 : w3.grownBy w6 none := g_far (g_alloc (g_far (g_alloc (g_far (g_alloc (g_alloc (World.grownBy.refl w3 none) _) _) G4.out (Nat.le_refl _)) _) G5.out (Nat.le_refl _)) _) G6 (Nat.le_refl _)
  have g26 : w2.grownBy w6 none := G3.out.trans g36
  have g16 : w1.grownBy w6 none := ((World.grownBy_alloc w1 _ none).trans G2.out).trans g26
  have g06 : w.grownBy w6 none := G1.out.trans g16
  have hcA : (convert 23 9 (.slice A1 5 c1)).run Try.prog w6 = .ok (.string ⟨#[0, 3, 1, 80, 24]⟩) w6 :=
    conv_str w6 23 9 5 Try.underlying23 Try.underlying5 Try.underlying9 A1 5 c1 (hi8 3 :: lo8 3 :: fA.enc) rfl (R1.out.grown g16 (.inl rfl))
  have hcB : (convert 23 9 (.slice A2 11 c2)).run Try.prog w6 = .ok (.string ⟨#[0, 9, 2, 0, 0, 0, 2, 108, 115, 0, 0]⟩) w6 :=
    conv_str w6 23 9 5 Try.underlying23 Try.underlying5 Try.underlying9 A2 11 c2 (hi8 9 :: lo8 9 :: fB.enc) rfl (R2.out.grown g26 (.inl rfl))
  obtain ⟨A6, k6, e6, R7, _, _⟩ := Rd.of_own O6
  injection e6 with e6 _ e7
  subst e6; subst e7
  obtain ⟨wa, wc, da, dc, ys, rfl, _, _, _⟩ := C6
  obtain ⟨bb, off, rfl, _, hc5⟩ := R7.at_ (j := 0) (u := .int .i64 fD.k) rfl
  have hc5' : w6.cell? ⟨bb, off, none⟩ = some (.int .i64 5) := hc5
  have hP := B6.cell 0
  have hP' : w6.cell? ⟨w3.heap.size, 0, none⟩ = some (.slice L3 1 l3) := hP
  replace g06 := Lib.hid g06
  clear hP hc5 R7 B6 R6 g16 g26 g36 G6
  go_wp2_with (go_at_call 16; refine (pending_any w3.heap.size 1 l3 L3 w6 hP').mono ?_; rintro e w' ⟨rfl, rfl⟩)
  go_ret
  exact ⟨rfl, g06.out⟩
end Go.Proofs.Ytdbjphabmdmjcaa
