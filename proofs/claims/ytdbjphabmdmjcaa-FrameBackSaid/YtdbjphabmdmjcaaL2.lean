/- FrameBack: words for what was wanted; the small function pick; the law's first loop. -/
import Derived.Test.YtdbjphabmdmjcaaL1
import Derived.Test.YtdbjphabmdmjcaaG3
import Derived.Test.YtdbjphabmdmjcaaH1
import Derived.Test.YtdbjphabmdmjcaaOf
import Derived.Deep.DeepCutAuto
import Derived.Deep.CutBlock
namespace Go.Proofs.Ytdbjphabmdmjcaa
open Go.RowKit
set_option linter.unusedSimpArgs false
set_option linter.unusedVariables false

def PickPost (w : World) (e : Ending) (w' : World) : Prop := ∃ k : Nat, k < 40 ∧ e = .returned (.int .i64 k) ∧ w = w'
theorem pick_any (c : Int) (w : World) (h1 : -9223372036854775808 ≤ c) (h2 : c ≤ 9223372036854775807) : Calls Try.prog 19 #[.int .i64 c, .int .i64 40] w (PickPost w) := by
  by_cases h : c < 0
  · have e : ∀ x : Int, 0 ≤ x → ∃ k : Nat, k < 40 ∧ x % 40 = (k : Int) := fun x hx => ⟨(x % 40).toNat, by omega, by omega⟩
    obtain ⟨k, k1, k2⟩ := e (-(c + 1)) (by omega)
    have i1 : 0 ≤ -(c + 1) := by omega
    have i2 : -(c + 1) ≤ 9223372036854775807 := by omega
    replace k2 := Lib.hid k2
    clear e
    go_enter Try.func19, Try.ntmps19
    go_wp2
    go_ret
    exact ⟨k, k1, ret_int (by have h2 := k2.out; rw [← Int.tmod_eq_emod_of_nonneg i1, Int.neg_tmod] at h2; exact h2), rfl⟩
  · have e : ∀ x : Int, 0 ≤ x → ∃ k : Nat, k < 40 ∧ x % 40 = (k : Int) := fun x hx => ⟨(x % 40).toNat, by omega, by omega⟩
    obtain ⟨k, k1, k2⟩ := e c (by omega)
    have i1 : 0 ≤ c := by omega
    replace k2 := Lib.hid k2
    clear e
    go_enter Try.func19, Try.ntmps19
    go_wp2
    go_ret
    exact ⟨k, k1, ret_int k2.out, rfl⟩

/-- Cells that are frames of the caller's. -/
def WCells (w0 : World) : List Fm → List Value → Prop
  | [], xs => xs = []
  | f :: fs, xs => ∃ wa wc da dc ys, xs = .int .i64 f.k :: .int .i64 f.a :: .int .i64 f.b :: .slice wa f.ws.length wc :: .slice da f.d.length dc :: ys ∧ Rd w0 wa (f.ws.map .string) ∧ Rd w0 da (bs f.d) ∧ f.Fits ∧ WCells w0 fs ys
theorem WCells.snoc {w0 : World} : ∀ {fs : List Fm} {xs : List Value} (f : Fm) {wa da : Option Addr} {wc dc : Nat}, WCells w0 fs xs → Rd w0 wa (f.ws.map .string) → Rd w0 da (bs f.d) → f.Fits →
    WCells w0 (fs ++ [f]) (xs ++ [.int .i64 f.k, .int .i64 f.a, .int .i64 f.b, .slice wa f.ws.length wc, .slice da f.d.length dc])
  | [], _, f, wa, da, wc, dc, h, h1, h2, h3 => by cases h; exact ⟨wa, wc, da, dc, [], rfl, h1, h2, h3, rfl⟩
  | g :: fs, _, f, wa, da, wc, dc, ⟨a, b, c, d, ys, e, k1, k2, k3, h⟩, h1, h2, h3 => by
    subst e
    exact ⟨a, b, c, d, _, rfl, k1, k2, k3, WCells.snoc f h h1 h2 h3⟩
theorem WCells.nth {w0 : World} : ∀ {fs : List Fm} {xs : List Value} {i : Nat} {f : Fm}, WCells w0 fs xs → fs[i]? = some f →
    ∃ wa wc da dc, xs[i * 5]? = some (.int .i64 f.k) ∧ xs[i * 5 + 1]? = some (.int .i64 f.a) ∧ xs[i * 5 + 2]? = some (.int .i64 f.b) ∧ xs[i * 5 + 3]? = some (.slice wa f.ws.length wc) ∧ xs[i * 5 + 4]? = some (.slice da f.d.length dc) ∧
      Rd w0 wa (f.ws.map .string) ∧ Rd w0 da (bs f.d) ∧ f.Fits
  | [], _, i, f, _, hf => by simp at hf
  | g :: fs, _, 0, f, ⟨wa, wc, da, dc, ys, e, h1, h2, h3, h⟩, hf => by
    simp at hf; subst hf; subst e
    exact ⟨wa, wc, da, dc, rfl, rfl, rfl, rfl, rfl, h1, h2, h3⟩
  | g :: fs, _, i + 1, f, ⟨wa, wc, da, dc, ys, e, h1, h2, h3, h⟩, hf => by
    subst e
    obtain ⟨a, b, c, d, k0, k1, k2, k3, k4, k5⟩ := WCells.nth (i := i) h (by simpa using hf)
    have e0 : (i + 1) * 5 = i * 5 + 5 := by omega
    exact ⟨a, b, c, d, by rw [e0]; simpa using k0, by rw [e0]; simpa using k1, by rw [e0]; simpa using k2, by rw [e0]; simpa using k3, by rw [e0]; simpa using k4, k5⟩

theorem one5s {a b c : Int} {x y : Option Addr} {n m n2 m2 : Nat} : ∀ u ∈ [Value.int .i64 a, .int .i64 b, .int .i64 c, .slice x n m, .slice y n2 m2], u.oneCell' = true := by
  intro u hu
  simp only [List.mem_cons, List.not_mem_nil, or_false] at hu
  rcases hu with rfl | rfl | rfl | rfl | rfl <;> rfl
/-- What holds at the first loop's head: the frames gs are right so far. -/
structure BackI (w : World) (p : Nat) (gs : List Fm) (A7 : Option Addr) (c7 : Nat) (A8 : Option Addr) (c8 : Nat) (wr : World) : Prop where
  g : w.grownBy wr none
  hp : w.heap.size ≤ p
  rb : RB wr p (.slice none 0 0) false
  gd : ∀ f ∈ gs, f.right = true ∧ f.enc.length ≤ 16384
  o7 : wr.ownsRow (p + 1) 5 1 (.slice A7 (wires gs).length c7) (wires gs).length (bs (wires gs))
  o8 : ∃ xs, wr.ownsRow (p + 1) 25 5 (.slice A8 gs.length c8) gs.length xs ∧ WCells w gs xs
theorem enc_good {f : Fm} (h1 : f.right = true) (h2 : f.enc.length ≤ 16384) (v : Value) (w : World) (hv : FrV w v f) (hf : f.Fits) :
    Calls Try.prog 9 #[v] w fun e w' => ∃ A c, e = .returned (.tuple #[.slice A (f.enc.length + 2) c, .int .i64 0]) ∧ Rd w' A (bs (wire f)) ∧ w.grownBy w' none := by
  have := Encode_uni f v w hv hf
  have e1 : lOf f = wire f := by simp [lOf, h1, h2]
  have e2 : eOf f = 0 := by simp [eOf, h1, h2]
  rw [e1, e2] at this
  exact this
theorem enc_not {f : Fm} (h : ¬ (f.right = true ∧ f.enc.length ≤ 16384)) (v : Value) (w : World) (hv : FrV w v f) (hf : f.Fits) :
    Calls Try.prog 9 #[v] w fun e w' => ∃ A c, e = .returned (.tuple #[.slice A 0 c, .int .i64 (if f.right = true then 2 else 1)]) ∧ w.grownBy w' none := by
  refine (Encode_uni f v w hv hf).mono ?_
  rintro e w' ⟨A, c, rfl, _, g⟩
  have e1 : lOf f = [] := by simp only [lOf, if_neg h]
  have e2 : eOf f = (if f.right = true then 2 else 1) := by
    unfold eOf
    by_cases hr : f.right = true
    · have : ¬ f.enc.length ≤ 16384 := fun k => h ⟨hr, k⟩
      simp [hr, this]
    · simp [hr]
  rw [e1, e2]
  exact ⟨A, c, rfl, g⟩

/-- What holds at the second loop's head: a bytes of the wires of gs have been handed in, the frames hs have come. -/
structure PieceI (p : Nat) (W2 : World) (gs : List Fm) (a : Nat) (hs : List Fm) (v : Value) (wr : World) : Prop where
  r : ∃ l A c rem, gs = hs ++ rem ∧ Run (l ++ (wires gs).drop a) rem [] true ∧ Wait l ∧ RB wr p (.slice A l.length c) false ∧ Rd wr A (bs l)
  g : W2.grownBy wr (some p)
  f : FrsV W2.heap.size wr v hs
theorem FrCells.append {base : Nat} {w : World} : ∀ {fs gs : List Fm} {xs ys : List Value}, FrCells base w fs xs → FrCells base w gs ys → FrCells base w (fs ++ gs) (xs ++ ys)
  | [], _, _, _, h, k => by cases h; exact k
  | f :: fs, _, _, _, ⟨a, b, c, d, zs, e, k1, k2, h⟩, k => by
    subst e
    exact ⟨a, b, c, d, _, rfl, k1, k2, FrCells.append h k⟩
theorem FrCells.one {base : Nat} {w : World} : ∀ {fs : List Fm} {xs : List Value}, FrCells base w fs xs → ∀ u ∈ xs, u.oneCell' = true
  | [], _, h, u, hu => by cases h; cases hu
  | f :: fs, _, ⟨a, b, c, d, zs, e, k1, k2, h⟩, u, hu => by
    subst e
    simp only [List.mem_cons] at hu
    rcases hu with rfl | rfl | rfl | rfl | rfl | hu
    · rfl
    · rfl
    · rfl
    · rfl
    · rfl
    · exact FrCells.one h u hu
theorem FrCells.le {base base' : Nat} {w : World} (hb : base' ≤ base) : ∀ {fs : List Fm} {xs : List Value}, FrCells base w fs xs → FrCells base' w fs xs
  | [], _, h => h
  | f :: fs, _, ⟨a, b, c, d, zs, e, k1, k2, h⟩ => ⟨a, b, c, d, zs, e, own_le k1 hb, own_le k2 hb, FrCells.le hb h⟩

set_option maxRecDepth 100000 in
set_option maxHeartbeats 1000000 in
theorem back_any (A C : Option Addr) (n c m d : Nat) (frames : List Fm) (zs : List Int) (w : World) (hn : n = frames.length) (hF : FrsIn w A frames) (hb : n ≤ 140737488351232)
    (hm : m = zs.length) (hC : Rd w C (zs.map (.int .i64))) (hz : ∀ z ∈ zs, -9223372036854775808 ≤ z ∧ z ≤ 9223372036854775807) (hmb : m ≤ 140737488351232) :
    Calls Try.prog 5 #[.slice A n c, .slice C m d] w fun e w' => e = .returned (.bool true) ∧ w.grownBy w' none := by
  have CS := Lib.hid (shown_any w)
  replace hn := Lib.hid hn; replace hF := Lib.hid hF; replace hm := Lib.hid hm; replace hC := Lib.hid hC; replace hz := Lib.hid hz
  go_enter Try.func5, Try.ntmps5
  go_wp2_with fail
  refine CS.out.mono ?_
  rintro e w1 ⟨rfl, G1⟩
  replace G1 := Lib.hid G1
  go_upto_block 0 with (go_at_call 14; refine (newReader_any w1).mono ?_; rintro e w' ⟨rfl, rfl⟩)
  obtain ⟨p, hp⟩ : ∃ p, p = w1.heap.size := ⟨_, rfl⟩
  have hI0 : BackI w p [] none 0 none 0 (w1.alloc (.cells #[.slice none 0 0, .bool false] 65)) :=
    ⟨g_alloc G1.out _, by rw [hp]; exact G1.out.size, by rw [hp]; exact RB.new w1 _ _, (fun f hf => by cases hf), World.ownsRow_nil _ _ _ _, [], World.ownsRow_nil _ _ _ _, rfl⟩
  replace hI0 := Lib.hid hI0
  rw [← hp]
  replace hp := Lib.hid hp
  generalize w1.alloc (.cells #[.slice none 0 0, .bool false] 65) = w2 at *
  clear CS
  go_cut [7, 8] (fun v7 v8 wx => ∃ (gs : List Fm) (A7 : Option Addr) (c7 : Nat) (A8 : Option Addr) (c8 : Nat), gs.length ≤ 20 ∧ v7 = .slice A7 (wires gs).length c7 ∧ v8 = .slice A8 gs.length c8 ∧ Hid (BackI w p gs A7 c7 A8 c8 wx))
  case first =>
    go_wp2_with fail
    go_loopw [7, 8, 9] (fun v7 v8 i wr => ∃ (j : Nat) (gs : List Fm) (A7 : Option Addr) (c7 : Nat) (A8 : Option Addr) (c8 : Nat), j ≤ n ∧ j ≤ 20 ∧ i = .int .i64 j ∧ gs.length ≤ j ∧ v7 = .slice A7 (wires gs).length c7 ∧ v8 = .slice A8 gs.length c8 ∧ Hid (BackI w p gs A7 c7 A8 c8 wr)) (fun _ _ i _ => n - (intOf i).toNat)
    case atStart => exact ⟨0, [], none, 0, none, 0, Nat.zero_le _, by omega, rfl, Nat.le_refl _, rfl, rfl, hI0.out⟩
    case round =>
      obtain ⟨j, gs, A7, c7, A8, c8, hj, hj20, rfl, hgl, rfl, rfl, hI⟩ := hrel
      by_cases hlt : j < n ∧ j < 20
      · obtain ⟨hlt, h20⟩ := hlt
        have h20' : (j : Int) < 20 := by omega
        obtain ⟨f, hf⟩ : ∃ f, frames[j]? = some f := ⟨frames[j]'(by rw [← hn.out]; exact hlt), List.getElem?_eq_getElem _⟩
        obtain ⟨hG, hwp, hRB, hgd, hO7, xs, hO8, hWC⟩ := hI.out
        obtain ⟨b, off, wa, da, wc, dc, rfl, k0, k1, k2, k3, k4, r1, r2, hfit⟩ := hF.out.grown hG j f hf
        obtain ⟨_, _, wa', da', wc', dc', e1, k0', k1', k2', k3', k4', r1', r2', _⟩ := hF.out j f hf
        injection e1 with e1; injection e1 with e1 e2; subst e1; subst e2
        have e3 := (hG.cell k3' (by simp)).symm.trans k3
        have e4 := (hG.cell k4' (by simp)).symm.trans k4
        injection e3 with e3; injection e3 with e3 _ e31
        injection e4 with e4; injection e4 with e4 _ e41
        subst e3; subst e31; subst e4; subst e41
        have hwl := wires_len hgd (n := 20) (by omega)
        have hpsz : p < wr.heap.size := hRB.lt
        replace k0' := Lib.hid k0'; replace k1' := Lib.hid k1'; replace k2' := Lib.hid k2'; replace k3' := Lib.hid k3'; replace k4' := Lib.hid k4'; replace hf := Lib.hid hf
        by_cases hgood : f.right = true ∧ f.enc.length ≤ 16384
        · have CE := Lib.hid (enc_good hgood.1 hgood.2 _ wr ⟨wa', wc', da', dc', rfl, r1, r2⟩ hfit)
          replace hG := Lib.hid hG; replace hRB := Lib.hid hRB; replace hgd := Lib.hid hgd; replace hO7 := Lib.hid hO7; replace hO8 := Lib.hid hO8; replace hWC := Lib.hid hWC; replace r1 := Lib.hid r1; replace r2 := Lib.hid r2; replace r1' := Lib.hid r1'; replace r2' := Lib.hid r2'
          replace hgood := Lib.hid hgood; replace hfit := Lib.hid hfit
          have hel : f.enc.length ≤ 16384 := hgood.out.2
          clear hI
          go_wp2_with fail
          refine CE.out.mono ?_
          rintro e w5 ⟨A5, c5, rfl, R5, G5⟩
          have O5 := own_keep hO7.out G5
          have hs5 : p + 1 ≤ w5.heap.size := Nat.le_trans hpsz G5.size
          have O85 := own_keep hO8.out G5
          have g5 := hG.out.trans G5
          have RB5 := hRB.out.grown G5 (by simp)
          have hwr : (bs (wire f)).length = f.enc.length + 2 := by rw [bs_len]; rfl
          replace O5 := Lib.hid O5; replace O85 := Lib.hid O85; replace g5 := Lib.hid g5; replace RB5 := Lib.hid RB5; replace R5 := Lib.hid R5; replace hwr := Lib.hid hwr
          clear k0 k1 k2 k3 k4 CE
          go_wp2_with (first
            | (at_builtin; refine ap5 rfl (.tmp 61) (.tmp 62) rfl (p + 1) (.slice A7 (wires gs).length c7) (wires gs).length _ rfl O5.out A5 (f.enc.length + 2) c5 (bs (wire f)) rfl hwr.out R5.out (bs_one _) (by omega) hs5 ?_; intro A6 c6 w6 O6 G6 hh6; have g6 := g_own g5.out O5.out (by omega) G6; have k0 := g6.cell k0'.out (by simp); have k1 := g6.cell k1'.out (by simp); have k2 := g6.cell k2'.out (by simp); have k3 := g6.cell k3'.out (by simp); have k4 := g6.cell k4'.out (by simp); have O86 := O85.out.kept G6 (own_ne O85.out O5.out (by decide)); have RB6 := RB5.out.grown G6 (fun e => by have := (O5.out.lt p e.symm).1; omega); have hs6 := Nat.le_trans hs5 G6.size; replace g6 := Lib.hid g6; replace O86 := Lib.hid O86; replace RB6 := Lib.hid RB6; replace O6 := Lib.hid O6; replace G6 := Lib.hid G6)
            | (at_builtin; go_must (refine ap25 rfl (.tmp 64) (.tmp 69) rfl (p + 1) (.slice A8 gs.length c8) gs.length xs rfl (O86.out.alloc _) _ 1 1 [.int .i64 f.k, .int .i64 f.a, .int .i64 f.b, .slice wa' f.ws.length wc', .slice da' f.d.length dc'] rfl rfl (Rd.new _ _ _) one5s (by omega) (by simp; omega) ?_; intro A9 c9 w9 O9 G9 hh9))
            | fail)
          have e7 : (wires (gs ++ [f])).length = (wires gs).length + (f.enc.length + 2) := by rw [wires_append, List.length_append]; simp [wires, wire]
          have e7' : wires (gs ++ [f]) = wires gs ++ wire f := by rw [wires_append]; simp [wires]
          have e8 : (gs ++ [f]).length = gs.length + 1 := by simp
          have O86a := O86.out.alloc (.cells #[.int .i64 f.k, .int .i64 f.a, .int .i64 f.b, .slice wa' f.ws.length wc', .slice da' f.d.length dc'] 25)
          have hI9 : BackI w p (gs ++ [f]) A6 c6 A9 c9 w9 := by
            refine ⟨g_own (g_alloc g6.out _) O86a (by omega) G9, hwp, (RB6.out.alloc _).grown G9 (fun e => by have := (O86a.lt p e.symm).1; omega), ?_, ?_, _, ?_, hWC.out.snoc f (wc := wc') (dc := dc') r1'.out r2'.out hfit.out⟩
            · intro g hg
              rcases List.mem_append.1 hg with hg | hg
              · exact hgd.out g hg
              · simp only [List.mem_singleton] at hg; rw [hg]; exact hgood.out
            · rw [e7, e7', bs_append]
              exact (O6.out.alloc _).kept G9 (own_ne (O6.out.alloc _) O86a (by decide))
            · rw [e8]; exact O9
          exact ⟨⟨j + 1, gs ++ [f], A6, c6, A9, c9, by omega, by omega, by go_num, by rw [e8]; omega, by rw [e7], by rw [e8], hI9⟩, by simp [intOf]; omega⟩
        · have CE := Lib.hid (enc_not hgood _ wr ⟨wa', wc', da', dc', rfl, r1, r2⟩ hfit)
          have CR := Lib.hid (fun (W : World) (hW : wr.grownBy W none) => Right_any f.k f.a f.b wa' da' f.ws.length wc' f.d.length dc' f.ws W rfl (by have := hfit.ws; omega) (by have := hfit.d; omega) (r1.grown hW (.inl rfl)) (fun s hs => by have := hfit.s s hs; omega))
          have hI2 : ∀ w', wr.grownBy w' none → BackI w p gs A7 c7 A8 c8 w' := fun w' g => ⟨hG.trans g, hwp, hRB.grown g (by simp), hgd, own_keep hO7 g, xs, own_keep hO8 g, hWC⟩
          replace hI2 := Lib.hid hI2
          replace hG := Lib.hid hG; replace hRB := Lib.hid hRB; replace hgd := Lib.hid hgd; replace hO7 := Lib.hid hO7; replace hO8 := Lib.hid hO8; replace hWC := Lib.hid hWC; replace r1 := Lib.hid r1; replace r2 := Lib.hid r2; replace r1' := Lib.hid r1'; replace r2' := Lib.hid r2'
          replace hgood := Lib.hid hgood; replace hfit := Lib.hid hfit
          clear hI
          have hfr : rightN f.k f.a f.b f.ws.length f.d.length (longs f.ws) = f.right := rfl
          rw [hfr] at CR
          replace hfr := Lib.hid hfr
          go_wp2_with fail
          refine CE.out.mono ?_
          rintro e w5 ⟨A5, c5, rfl, G5⟩
          have d0 := G5.cell k0 (by simp); have d1 := G5.cell k1 (by simp); have d2 := G5.cell k2 (by simp); have d3 := G5.cell k3 (by simp); have d4 := G5.cell k4 (by simp)
          clear k0 k1 k2 k3 k4 CE
          cases hR : f.right
          · rw [hR] at CR
            replace hR := Lib.hid hR
            simp only [Bool.false_eq_true, if_false]
            go_wp2_with (go_at_call 12; refine (CR.out _ G5).mono ?_; rintro e w6 ⟨rfl, G6⟩)
            exact ⟨⟨j + 1, gs, A7, c7, A8, c8, by omega, by omega, by go_num, by omega, rfl, rfl, hI2.out _ (G5.trans G6)⟩, by simp [intOf]; omega⟩
          · rw [hR] at CR
            replace hR := Lib.hid hR
            simp only [if_true]
            go_wp2_with (go_at_call 12; refine (CR.out _ G5).mono ?_; rintro e w6 ⟨rfl, G6⟩)
            exact ⟨⟨j + 1, gs, A7, c7, A8, c8, by omega, by omega, by go_num, by omega, rfl, rfl, hI2.out _ (G5.trans G6)⟩, by simp [intOf]; omega⟩
      · by_cases h1 : (j : Int) < n
        all_goals
          have h20 : (j : Int) < n → ¬ (j : Int) < 20 := by omega
          first | (have h2 := h20 h1) | skip
          clear h20
          go_wp2_with fail
          go_meet
          exact ⟨gs, A7, c7, A8, c8, by omega, rfl, rfl, hI.out⟩
  case rest =>
    obtain ⟨gs, A7, c7, A8, c8, hgl, rfl, rfl, hI⟩ := hcut
    obtain ⟨hG, hwp, hRB, hgd, hO7, xs8, hO8, hWC⟩ := hI.out
    have hwl := wires_len hgd (n := 20) hgl
    obtain ⟨W2, hW2⟩ : ∃ W2, W2 = wc := ⟨_, rfl⟩
    have hpW : p < W2.heap.size := by rw [hW2]; exact hRB.lt
    have hP0 : PieceI p W2 gs 0 [] (.slice none 0 0) wc := ⟨⟨[], none, 0, gs, rfl, by simpa using run_wires hgd, .inl (by decide), hRB, Rd.nil _ _⟩, by rw [hW2]; exact World.grownBy.refl _ _, none, 0, [], rfl, World.ownsRow_nil _ _ _ _, rfl⟩
    rw [← hW2] at hG hO7 hO8
    obtain ⟨Lz, hLz⟩ : ∃ Lz, Lz = (wires gs).length := ⟨_, rfl⟩
    rw [← hLz] at hwl ⊢
    replace hLz := Lib.hid hLz; replace hG := Lib.hid hG; replace hRB := Lib.hid hRB; replace hgd := Lib.hid hgd; replace hO7 := Lib.hid hO7; replace hO8 := Lib.hid hO8; replace hWC := Lib.hid hWC; replace hP0 := Lib.hid hP0; replace hW2 := Lib.hid hW2
    clear hI hI0
    go_wp2_with fail
    go_loopw [12, 13, 14] (fun v av iv wr => ∃ (a i : Nat) (hs : List Fm) (A12 : Option Addr) (c12 : Nat), av = .int .i64 a ∧ iv = .int .i64 i ∧ a ≤ Lz ∧ i ≤ 501 ∧ (i ≤ 500 ∨ a = Lz) ∧ v = .slice A12 hs.length c12 ∧ Hid (PieceI p W2 gs a hs (.slice A12 hs.length c12) wr)) (fun _ av iv _ => (500 - (intOf iv).toNat) + (if (intOf av).toNat < Lz then 1 else 0))
    case atStart => exact ⟨0, 0, [], none, 0, rfl, rfl, Nat.zero_le _, by omega, by omega, rfl, hP0.out⟩
    case round =>
      obtain ⟨a, i, hs, A12, c12, rfl, rfl, ha, hi, hia, rfl, hI⟩ := hrel
      by_cases hlt : a < Lz
      · have hi5 : i ≤ 500 := by omega
        obtain ⟨bb, hbb⟩ : ∃ bb : Bool, bb = decide (i < m ∧ i < 500) := ⟨_, rfl⟩
        have hbt : bb = true → i < m ∧ i < 500 := fun h => by rw [hbb] at h; simpa using h
        have hbf : i < m ∧ i < 500 → bb = true := fun h => by rw [hbb]; simpa using h
        clear hbb
        replace hbt := Lib.hid hbt; replace hbf := Lib.hid hbf
        have hlt' : (a : Int) < Lz := by omega
        go_upto_region 22 with fail
        go_cut [88] (fun tv wx => tv = .bool bb ∧ wx = wr)
        case first =>
          by_cases h1 : i < m
          · have h1' : (i : Int) < m := by omega
            by_cases h2 : i < 500
            · have h2' : (i : Int) < 500 := by omega
              obtain rfl : bb = true := hbf.out ⟨h1, h2⟩
              go_wp2_with fail
              go_meet
              exact ⟨rfl, rfl⟩
            · have h2' : ¬ (i : Int) < 500 := by omega
              obtain rfl : bb = false := by
                rcases bb with _ | _
                · rfl
                · exact absurd (hbt.out rfl).2 h2
              go_wp2_with fail
              go_meet
              exact ⟨rfl, rfl⟩
          · have h1' : ¬ (i : Int) < m := by omega
            obtain rfl : bb = false := by
              rcases bb with _ | _
              · rfl
              · exact absurd (hbt.out rfl).1 h1
            go_wp2_with fail
            go_meet
            exact ⟨rfl, rfl⟩
        case rest =>
          obtain ⟨rfl, rfl⟩ := hcut
          go_upto_if 88 with fail
          go_cut [15] (fun nv wx => ∃ n' : Nat, nv = .int .i64 n' ∧ a + n' ≤ Lz ∧ (i < 500 ∨ a + n' = Lz) ∧ wx = wc)
          case first =>
            rcases bb with _ | _
            · go_wp2_with fail
              go_meet
              have hnot : ¬ (i < m ∧ i < 500) := fun h => by have := hbf.out h; cases this
              refine ⟨Lz - a, by go_num, by omega, .inr (by omega), rfl⟩
            · obtain ⟨h1, h2⟩ := hbt.out rfl
              obtain ⟨z, hz1⟩ : ∃ z, zs[i]? = some z := ⟨zs[i]'(by rw [← hm.out]; exact h1), List.getElem?_eq_getElem _⟩
              obtain ⟨z1, z2⟩ := hz.out z (List.mem_of_getElem? hz1)
              have gt : w.grownBy wc none := g_far hG.out hI.out.g hwp
              obtain ⟨bc, oc, rfl, _, hcc⟩ := (hC.out.grown gt (.inl rfl)).at_ (j := i) (u := .int .i64 z) (by simp [hz1])
              have h1' : (i : Int) < m := by omega
              have CK := Lib.hid (fun W => pick_any z W z1 z2)
              replace hz1 := Lib.hid hz1; replace gt := Lib.hid gt
              go_wp2_with (go_at_call 19; refine (CK.out _).mono ?_; rintro e w' ⟨k, hk40, rfl, rfl⟩)
              all_goals
                go_meet
                first
                  | exact ⟨k, rfl, by omega, .inl h2, rfl⟩
                  | exact ⟨Lz - a, by go_num, by omega, .inl h2, rfl⟩
          case rest =>
            obtain ⟨n', rfl, hn1, hn2, rfl⟩ := hcut
            obtain ⟨⟨l, Al, cl, rem, hrem, hRun, hWt, hB, hRl⟩, hg, hFv⟩ := hI.out
            have O7 := own_but hO7.out hg (Nat.lt_succ_self p)
            have R7 := Rd.own O7
            have hc7 : (wires gs).length ≤ c7 := by
              obtain ⟨A5, c5, e5, _, _, k5, _⟩ := Rd.of_own O7
              injection e5 with _ _ e6
              subst e6; exact k5
            rw [← hLz.out] at hc7
            have hla : ∃ u, (wires gs)[a]? = some u := ⟨(wires gs)[a]'(by rw [← hLz.out]; exact hlt), List.getElem?_eq_getElem _⟩
            obtain ⟨u, hu⟩ := hla
            obtain ⟨b7, o7, rfl, hb7, _⟩ := R7.at_ (j := a) (u := b8 u) (by simp [bs, hu])
            have RP : Rd wc (some ⟨b7, o7 + a, none⟩) (bs (((wires gs).drop a).take n')) := by
              have := (Rd.drop R7 a rfl).take n'
              simpa [bs, List.map_take, List.map_drop] using this
            have hpl : n' = (((wires gs).drop a).take n').length := by rw [List.length_take, List.length_drop, ← hLz.out]; omega
            have hll : l.length ≤ 327720 := by
              have h1 := hRun.is.1
              have h2 := congrArg List.length h1
              rw [List.length_append, List.append_nil] at h2
              have h3 : (wires rem).length ≤ (wires gs).length := by
                rw [hrem, wires_append, List.length_append]; omega
              rw [← hLz.out] at h3
              omega
            have CF := Lib.hid (feed_any p Al (some ⟨b7, o7 + a, none⟩) l.length n' cl (c7 - a) l (((wires gs).drop a).take n') wc hB hRl rfl RP hpl (by omega))
            have hck : ¬ c7 = a := by omega
            have i1 : (a : Int) ≤ (a : Int) + n' := by omega
            have i2 : (a : Int) + n' ≤ c7 := by omega
            replace hg := Lib.hid hg; replace hFv := Lib.hid hFv; replace O7 := Lib.hid O7; replace R7 := Lib.hid R7; replace RP := Lib.hid RP; replace hpl := Lib.hid hpl; replace hrem := Lib.hid hrem; replace hRun := Lib.hid hRun; replace hWt := Lib.hid hWt; replace hB := Lib.hid hB; replace hRl := Lib.hid hRl
            replace hu := Lib.hid hu
            clear hI hbt hbf
            go_wp2_with fail
            refine CF.out.mono ?_
            rintro e w5 ⟨hs2, rest, ok, v2, hRun2, he, ⟨A2, c2, xs2, rfl, O2, C2⟩, G5, hok, _⟩
            have hsplit : (l ++ ((wires gs).drop a).take n') ++ (wires gs).drop (a + n') = l ++ (wires gs).drop a := by
              rw [List.append_assoc, ← List.drop_drop, List.take_append_drop]
            obtain ⟨hok1, rem2, hrem2, hRun3⟩ := Run.piece (by rw [hsplit]; exact hRun.out) hRun2
            subst hok1
            obtain ⟨A3, c3, B5, R5, _, _, hA3⟩ := hok rfl
            have hWt2 := hRun2.rest_wait rfl
            subst he
            obtain ⟨A12', c12', xs, e12, O12, C12⟩ := hFv.out.but G5 hpW
            injection e12 with e12 _ e13
            subst e12; subst e13
            have hl12 : hs.length + hs2.length ≤ 20 := by
              have h1 := congrArg List.length hrem.out
              have h2 := congrArg List.length hrem2
              rw [List.length_append] at h1 h2
              omega
            have hW5 : W2.heap.size ≤ wc.heap.size := hg.out.size
            have hs5 : W2.heap.size ≤ w5.heap.size := Nat.le_trans hW5 G5.size
            have R2 := Rd.own O2
            have hx2 : xs2.length = hs2.length * 5 := C2.length
            have hone2 := C2.one
            have hgot : ∀ x, (Value.slice A12 hs.length c12).ownBlock = some x → x < wc.heap.size := fun x hx => by
              obtain ⟨_, _, _, e14, O14, _⟩ := hFv.out
              injection e14 with e14 _ e15
              subst e14; subst e15
              exact (O14.lt x hx).2
            replace hRun2 := Lib.hid hRun2; replace O2 := Lib.hid O2; replace C2 := Lib.hid C2; replace G5 := Lib.hid G5; replace hok := Lib.hid hok; replace hsplit := Lib.hid hsplit; replace hrem2 := Lib.hid hrem2; replace hRun3 := Lib.hid hRun3; replace B5 := Lib.hid B5; replace R5 := Lib.hid R5; replace hA3 := Lib.hid hA3; replace hWt2 := Lib.hid hWt2; replace O12 := Lib.hid O12; replace C12 := Lib.hid C12; replace R2 := Lib.hid R2; replace hx2 := Lib.hid hx2; replace hone2 := Lib.hid hone2; replace hgot := Lib.hid hgot
            clear CF
            simp only [if_true]
            go_wp2_with (first
              | (at_builtin; go_must (refine ap25 rfl (.tmp 109) (.tmp 110) rfl W2.heap.size (.slice A12 hs.length c12) hs.length xs rfl O12.out A2 hs2.length c2 xs2 rfl hx2.out R2.out hone2.out (by omega) hs5 ?_; intro A6 c6 w6 O6 G6 hh6))
              | fail)
            have hpv : some p ≠ (Value.slice A12 hs.length c12).ownBlock := fun e => by have := (O12.out.lt p e.symm).1; omega
            have e8 : (hs ++ hs2).length = hs.length + hs2.length := List.length_append
            have R6 : Rd w6 A3 (bs rest) := by
              rcases A3 with _ | ad
              · rw [R5.out.none_nil]; exact Rd.nil _ _
              · refine R5.out.grown G6 (.inr fun e => ?_)
                have h1 := hA3.out ad.block rfl
                have h2 := hgot.out ad.block e.symm
                omega
            have hP6 : PieceI p W2 gs (a + n') (hs ++ hs2) (.slice A6 (hs.length + hs2.length) c6) w6 := by
              refine ⟨⟨rest, A3, c3, rem2, by rw [hrem.out, hrem2.out, List.append_assoc], hRun3.out, hWt2.out, B5.out.grown G6 hpv, R6⟩, g_own (hg.out.trans G5.out) O12.out (Nat.le_refl _) G6, A6, c6, xs ++ xs2, by rw [e8], by rw [e8]; exact O6, ?_⟩
              · exact FrCells.append (FrCells.map (fun e n v xs he h => h.kept G6 (own_ne h O12.out (by rcases he with rfl | rfl <;> decide))) C12.out)
                  (FrCells.map (fun e n v xs he h => h.kept G6 (own_ne h O12.out (by rcases he with rfl | rfl <;> decide))) (C2.out.le hW5))
            refine ⟨⟨a + n', i + 1, hs ++ hs2, A6, c6, by go_num, by go_num, hn1, by omega, by omega, by rw [e8], by rw [e8]; exact hP6⟩, ?_⟩
            have e9 : ((a : Int) + n').toNat = a + n' := by omega
            simp only [intOf]
            show (500 - ((i : Int) + 1).toNat + if ((a : Int) + n').toNat < Lz then 1 else 0) < (500 - (i : Int).toNat + if (a : Int).toNat < Lz then 1 else 0)
            rw [e9]
            split <;> split <;> omega
      · obtain rfl : a = Lz := by omega
        obtain ⟨⟨l, Al, cl, rem, hrem, hRun, hWt, hB, hRl⟩, hg, hFv⟩ := hI.out
        have hd0 : (wires gs).drop a = [] := List.drop_of_length_le (by rw [← hLz.out]; exact Nat.le_refl _)
        rw [hd0, List.append_nil] at hRun
        obtain ⟨hrem0, hl0⟩ := hRun.done hWt
        subst hrem0; subst hl0
        rw [List.append_nil] at hrem
        subst hrem
        have CP := Lib.hid (pending_any p 0 cl Al wr (hB.cell 0))
        have O8 := own_but hO8.out hg (Nat.lt_succ_self p)
        have gt : w.grownBy wr none := g_far hG.out hg hwp
        replace hg := Lib.hid hg; replace hFv := Lib.hid hFv; replace hB := Lib.hid hB; replace hRl := Lib.hid hRl; replace hRun := Lib.hid hRun; replace hWt := Lib.hid hWt; replace O8 := Lib.hid O8; replace gt := Lib.hid gt; replace hd0 := Lib.hid hd0
        clear hI
        obtain ⟨W3, rfl⟩ : ∃ W3 : World, W3 = wr := ⟨_, rfl⟩
        go_wp2_with (go_at_call 16; refine CP.out.mono ?_; rintro e w' ⟨rfl, rfl⟩)
        go_loopw [18] (fun iv wk => ∃ k : Nat, k ≤ gs.length ∧ iv = .int .i64 k ∧ Hid (W3.grownBy wk none)) (fun iv _ => gs.length - (intOf iv).toNat)
        case atStart => exact ⟨0, Nat.zero_le _, rfl, World.grownBy.refl _ _⟩
        case round =>
          obtain ⟨k, hk, rfl, hgk0⟩ := hrel
          by_cases hlk : k < gs.length
          · obtain ⟨f, hf⟩ : ∃ f, gs[k]? = some f := ⟨gs[k], List.getElem?_eq_getElem hlk⟩
            obtain ⟨A9, c9, xs9, e9, O9, C9⟩ := hFv.out
            injection e9 with e9 _ e10
            subst e9; subst e10
            obtain ⟨wa, wc', da, dc, x0, x1, x2, x3, x4, o1, o2⟩ := C9.nth hf
            obtain ⟨wb, wd, db, dd, y0, y1, y2, y3, y4, r3, r4, hfit⟩ := hWC.out.nth hf
            have hgk : W3.grownBy wr.drew none := g_drew hgk0.out
            have RX := (Rd.own O9).grown hgk (.inl rfl)
            have RY := (Rd.own O8.out).grown hgk (.inl rfl)
            obtain ⟨b1, o1', rfl, hb1, k0⟩ := RX.at_ x0
            obtain ⟨_, _, e, _, k1⟩ := RX.at_ x1
            injection e with e; injection e with e1 e2; subst e1; subst e2
            obtain ⟨_, _, e, _, k2⟩ := RX.at_ x2
            injection e with e; injection e with e1 e2; subst e1; subst e2
            obtain ⟨_, _, e, _, k3⟩ := RX.at_ x3
            injection e with e; injection e with e1 e2; subst e1; subst e2
            obtain ⟨_, _, e, _, k4⟩ := RX.at_ x4
            injection e with e; injection e with e1 e2; subst e1; subst e2
            obtain ⟨b2, o2', rfl, hb2, m0⟩ := RY.at_ y0
            obtain ⟨_, _, e, _, m1⟩ := RY.at_ y1
            injection e with e; injection e with e1 e2; subst e1; subst e2
            obtain ⟨_, _, e, _, m2⟩ := RY.at_ y2
            injection e with e; injection e with e1 e2; subst e1; subst e2
            obtain ⟨_, _, e, _, m3⟩ := RY.at_ y3
            injection e with e; injection e with e1 e2; subst e1; subst e2
            obtain ⟨_, _, e, _, m4⟩ := RY.at_ y4
            injection e with e; injection e with e1 e2; subst e1; subst e2
            clear x0 x1 x2 x3 x4 y0 y1 y2 y3 y4 hb1 hb2 RX RY
            simp only [← Nat.add_assoc] at k1 k2 k3 k4 m1 m2 m3 m4
            have hwn : f.ws.length ≤ 140737488355328 := by have := hfit.ws; omega
            have CO := Lib.hid (fun W (hW : W3.grownBy W none) => lawOf_any f wb db wd dd W (r3.grown (gt.out.trans hW) (.inl rfl)) (r4.grown (gt.out.trans hW) (.inl rfl)))
            have CS8 := Lib.hid (fun W (hW : W3.grownBy W none) => same_any f wa da wb wc' dc wd W ((Rd.own o1).grown hW (.inl rfl)) ((Rd.own o2).grown hW (.inl rfl)) (r3.grown (gt.out.trans hW) (.inl rfl)) hwn)
            have i1 : (k : Int) < gs.length := by omega
            have i0 : (0 : Int) ≤ k := by omega
            replace hf := Lib.hid hf; replace hfit := Lib.hid hfit; replace O9 := Lib.hid O9; replace C9 := Lib.hid C9
            clear o1 o2 r3 r4
            go_wp2_with fail
            go_region_held3 (fun w' => w'.cell? ⟨b1, o1' + k * 5, none⟩ = some (.int .i64 f.k) ∧ w'.cell? ⟨b1, o1' + k * 5 + 1, none⟩ = some (.int .i64 f.a) ∧ w'.cell? ⟨b1, o1' + k * 5 + 2, none⟩ = some (.int .i64 f.b) ∧ w'.cell? ⟨b1, o1' + k * 5 + 3, none⟩ = some (.slice wa f.ws.length wc') ∧ w'.cell? ⟨b1, o1' + k * 5 + 4, none⟩ = some (.slice da f.d.length dc) ∧
                w'.cell? ⟨b2, o2' + k * 5, none⟩ = some (.int .i64 f.k) ∧ w'.cell? ⟨b2, o2' + k * 5 + 1, none⟩ = some (.int .i64 f.a) ∧ w'.cell? ⟨b2, o2' + k * 5 + 2, none⟩ = some (.int .i64 f.b) ∧ w'.cell? ⟨b2, o2' + k * 5 + 3, none⟩ = some (.slice wb f.ws.length wd) ∧ w'.cell? ⟨b2, o2' + k * 5 + 4, none⟩ = some (.slice db f.d.length dd))
              (first | (go_keep; done) | exact ⟨s0, s1, s2, s3, s4, s5, s6, s7, s8, s9⟩ | exact ⟨t0, t1, t2, t3, t4, t5, t6, t7, t8, t9⟩ | fail)
              ((first
                | (go_at_call 11; refine (CO.out _ hgk).mono ?_; rintro e w7 ⟨rfl, G7⟩; have g7 := hgk.trans G7; have t0 := G7.cell k0 (by simp); have t1 := G7.cell k1 (by simp); have t2 := G7.cell k2 (by simp); have t3 := G7.cell k3 (by simp); have t4 := G7.cell k4 (by simp); have t5 := G7.cell m0 (by simp); have t6 := G7.cell m1 (by simp); have t7 := G7.cell m2 (by simp); have t8 := G7.cell m3 (by simp); have t9 := G7.cell m4 (by simp))
                | (go_at_call 18; refine (CS8.out _ g7).mono ?_; rintro e w8 ⟨rfl, G8⟩; have s0 := G8.cell t0 (by simp); have s1 := G8.cell t1 (by simp); have s2 := G8.cell t2 (by simp); have s3 := G8.cell t3 (by simp); have s4 := G8.cell t4 (by simp); have s5 := G8.cell t5 (by simp); have s6 := G8.cell t6 (by simp); have s7 := G8.cell t7 (by simp); have s8 := G8.cell t8 (by simp); have s9 := G8.cell t9 (by simp))
                | fail))
            clear s0 s1 s2 s3 s4 s5 s6 s7 s8 s9 t0 t1 t2 t3 t4 t5 t6 t7 t8 t9 k0 k1 k2 k3 k4 m0 m1 m2 m3 m4
            go_wp2_with fail
            exact ⟨⟨k + 1, by omega, by go_num, g7.trans G8⟩, by simp [intOf]; omega⟩
          · obtain rfl : k = gs.length := by omega
            go_wp2_with fail
            go_ret
            exact ⟨rfl, gt.out.trans hgk0.out⟩
end Go.Proofs.Ytdbjphabmdmjcaa
