/- FrameBytes: the walk. -/
import Derived.Test.YtdbjphabmdmjcaaG2
namespace Go.Proofs.Ytdbjphabmdmjcaa
open Go.RowKit
set_option linter.unusedSimpArgs false
set_option linter.unusedVariables false

def lOf (f : Fm) : List UInt8 := if f.right = true ∧ f.enc.length ≤ 16384 then wire f else []
def eOf (f : Fm) : Int := if f.right = true then (if f.enc.length ≤ 16384 then 0 else 2) else 1

theorem Encode_uni (f : Fm) (v : Value) (w : World) (hv : FrV w v f) (hf : f.Fits) :
    Calls Try.prog 9 #[v] w fun e w' => ∃ A c, e = .returned (.tuple #[.slice A (lOf f).length c, .int .i64 (eOf f)]) ∧ Rd w' A (bs (lOf f)) ∧ w.grownBy w' none := by
  cases hR : f.right
  · refine (Encode_no f v w hv hf hR).mono ?_
    rintro e w' ⟨rfl, g⟩
    exact ⟨none, 0, by simp [lOf, eOf, hR], by simp [lOf, hR, bs]; exact Rd.nil _ _, g⟩
  · refine (Encode_yes f v w hv hf hR).mono ?_
    rintro e w' ⟨g, ⟨h, rfl⟩ | ⟨h, A, c, rfl, o⟩⟩
    · exact ⟨none, 0, by simp [lOf, eOf, hR, show ¬ f.enc.length ≤ 16384 by omega], by simp [lOf, hR, show ¬ f.enc.length ≤ 16384 by omega, bs]; exact Rd.nil _ _, g⟩
    · have e1 : lOf f = wire f := by simp [lOf, hR, h]
      refine ⟨A, c, ?_, ?_, g⟩
      · rw [e1]; simp [eOf, hR, h, wire]
      · rw [e1]; exact Rd.own o
theorem rEnc_uni (f : Fm) (v : Value) (w : World) (hv : RfV w v f) (hf : f.Fits) :
    Calls Try.prog 10 #[v] w fun e w' => e = .returned (.tuple #[.string (st (lOf f)), .int .i64 (eOf f)]) ∧ w.grownBy w' none := by
  obtain ⟨wa, wc, rfl, hr⟩ := hv
  have key : Calls Try.prog 10 #[.agg #[.int .i64 f.k, .int .i64 f.a, .int .i64 f.b, .slice wa f.ws.length wc, .string (st f.d)]] w (REnc f w) := by
    cases hR : f.right
    · exact rEnc_no f wa wc w hr hf hR
    · exact rEnc_yes f wa wc w hr hf hR
  refine key.mono ?_
  rintro e w' ⟨g, ⟨h, rfl⟩ | ⟨h, h2, rfl⟩ | ⟨h, h2, rfl⟩⟩
  · exact ⟨by simp [lOf, eOf, h], g⟩
  · exact ⟨by simp [lOf, eOf, h, show ¬ f.enc.length ≤ 16384 by omega], g⟩
  · exact ⟨by simp [lOf, eOf, h, h2], g⟩

set_option maxRecDepth 100000 in
set_option maxHeartbeats 1000000 in
theorem bytes_any (f : Fm) (wa da : Option Addr) (wc dc : Nat) (w : World) (h1 : Rd w wa (f.ws.map .string)) (h2 : Rd w da (bs f.d)) (hf : f.Fits) :
    Calls Try.prog 3 #[.agg #[.int .i64 f.k, .int .i64 f.a, .int .i64 f.b, .slice wa f.ws.length wc, .slice da f.d.length dc]] w fun e w' => e = .returned (.bool true) ∧ w.grownBy w' none := by
  have CS := Lib.hid (fun W => shown_any W)
  have CE := Lib.hid (fun (W : World) (hW : w.grownBy W none) => Encode_uni f _ W ⟨wa, wc, da, dc, rfl, h1.grown hW (.inl rfl), h2.grown hW (.inl rfl)⟩ hf)
  have CO := Lib.hid (fun (W : World) (hW : w.grownBy W none) => lawOf_any f wa da wc dc W (h1.grown hW (.inl rfl)) (h2.grown hW (.inl rfl)))
  have CR := Lib.hid (fun (W : World) (hW : w.grownBy W none) => rEnc_uni f _ W ⟨wa, wc, rfl, h1.grown hW (.inl rfl)⟩ hf)
  have C1 : Hid (∀ W : World, w.grownBy W none → Calls Try.prog 12 #[.agg #[.int .i64 f.k, .int .i64 f.a, .int .i64 f.b, .slice wa f.ws.length wc, .slice da f.d.length dc]] W fun e w' => e = .returned (.bool f.right) ∧ W.grownBy w' none) :=
    fun W hW => Right_any f.k f.a f.b wa da f.ws.length wc f.d.length dc f.ws W rfl (by have := hf.ws; omega) (by have := hf.d; omega) (h1.grown hW (.inl rfl)) (fun s hs => by have := hf.s s hs; omega)
  have C2 := Lib.hid (fun (W : World) (hW : w.grownBy W none) => rRight_eq f ▸ rRight_any f.k f.a f.b wa f.ws.length wc f.ws f.d W rfl (by have := hf.ws; omega) (h1.grown hW (.inl rfl)) (fun s hs => by have := hf.s s hs; omega))
  clear h1 h2 hf
  have F0 : FB (w.alloc (.cells #[.int .i64 f.k, .int .i64 f.a, .int .i64 f.b, .slice wa f.ws.length wc, .slice da f.d.length dc] 25)) w.heap.size f.k f.a f.b (.slice wa f.ws.length wc) (.slice da f.d.length dc) := heap_alloc_new w _
  replace F0 := Lib.hid F0
  go_enter Try.func3, Try.ntmps3
  go_wp2_with fail
  refine (CS.out _).mono ?_
  rintro e w1 ⟨rfl, G1⟩
  have g1 := (World.grownBy_alloc w _ none).trans G1
  have F1 := F0.out.grown G1 (by simp)
  have q0 := F1.cell 0; have q1 := F1.cell 1; have q2 := F1.cell 2; have q3 := F1.cell 3; have q4 := F1.cell 4
  simp at q0 q1 q2 q3 q4
  replace g1 := Lib.hid g1; replace F1 := Lib.hid F1
  clear G1
  go_wp2_with fail
  refine (CE.out _ g1.out).mono ?_
  rintro e w2 ⟨A, c, rfl, R2, G2⟩
  have g2 := g1.out.trans G2
  have F2 := F1.out.grown G2 (by simp)
  clear q0 q1 q2 q3 q4
  have q0 := F2.cell 0; have q1 := F2.cell 1; have q2 := F2.cell 2; have q3 := F2.cell 3; have q4 := F2.cell 4
  simp at q0 q1 q2 q3 q4
  replace g2 := Lib.hid g2; replace F2 := Lib.hid F2; replace R2 := Lib.hid R2
  clear G2
  go_wp2_with fail
  refine (CO.out _ g2.out).mono ?_
  rintro e w3 ⟨rfl, G3⟩
  have g3 := g2.out.trans G3
  replace g3 := Lib.hid g3
  go_wp2_with fail
  refine (CR.out _ g3.out).mono ?_
  rintro e w4 ⟨rfl, G4⟩
  have g4 := g3.out.trans G4
  have F4 := (F2.out.grown G3 (by simp)).grown G4 (by simp)
  have R4 := (R2.out.grown G3 (.inl rfl)).grown G4 (.inl rfl)
  clear q0 q1 q2 q3 q4
  have q0 := F4.cell 0; have q1 := F4.cell 1; have q2 := F4.cell 2; have q3 := F4.cell 3; have q4 := F4.cell 4
  simp at q0 q1 q2 q3 q4
  replace g4 := Lib.hid g4; replace F4 := Lib.hid F4; replace R4 := Lib.hid R4
  clear G3 G4
  go_wp2_with fail
  have hcv : ∀ W, w4.grownBy W none → (convert 23 9 (.slice A (lOf f).length c)).run Try.prog W = .ok (.string (st (lOf f))) W := fun W hW =>
    conv_str W 23 9 5 Try.underlying23 Try.underlying5 Try.underlying9 A (lOf f).length c (lOf f) rfl (R4.out.grown hW (.inl rfl))
  replace hcv := Lib.hid hcv
  have gd : w.grownBy w4.drew none := g_drew g4.out
  have gk : w4.grownBy w4.drew none := g_drew (World.grownBy.refl w4 none)
  have hc4 := hcv.out w4.drew gk
  first | (go_region_held3 (fun w' => w'.cell? ⟨w.heap.size, 0, none⟩ = some (.int .i64 f.k) ∧ w'.cell? ⟨w.heap.size, 1, none⟩ = some (.int .i64 f.a) ∧ w'.cell? ⟨w.heap.size, 2, none⟩ = some (.int .i64 f.b) ∧ w'.cell? ⟨w.heap.size, 3, none⟩ = some (.slice wa f.ws.length wc) ∧ w'.cell? ⟨w.heap.size, 4, none⟩ = some (.slice da f.d.length dc) ∧
        (convert 23 9 (.slice A (lOf f).length c)).run Try.prog w' = .ok (.string (st (lOf f))) w')
    (first | exact ⟨F7.cell 0, F7.cell 1, F7.cell 2, F7.cell 3, F7.cell 4, hc7⟩ | exact ⟨F6.cell 0, F6.cell 1, F6.cell 2, F6.cell 3, F6.cell 4, hc6⟩ | exact ⟨F5.cell 0, F5.cell 1, F5.cell 2, F5.cell 3, F5.cell 4, hc5⟩ | (go_keep; done) | fail)
    ((first
      | (go_at_call 12; refine (C1.out _ (by assumption)).mono ?_; rintro e w5 ⟨rfl, G5⟩; have gd5 := World.grownBy.trans (a := w) (by assumption) G5; have gk5 := World.grownBy.trans (by assumption : w4.grownBy _ none) G5; have hc5 := hcv.out w5 gk5; have F5 := F4.out.grown gk5 (by simp))
      | (go_at_call 11; refine (CO.out _ (by assumption)).mono ?_; rintro e w6 ⟨rfl, G6⟩; have gd6 := World.grownBy.trans (a := w) (by assumption) G6; have gk6 := World.grownBy.trans (by assumption : w4.grownBy _ none) G6; have hc6 := hcv.out w6 gk6; have F6 := F4.out.grown gk6 (by simp))
      | (go_at_call 13; refine (C2.out _ (by assumption)).mono ?_; rintro e w7 ⟨rfl, G7⟩; have gd7 := World.grownBy.trans (a := w) (by assumption) G7; have gk7 := World.grownBy.trans (by assumption : w4.grownBy _ none) G7; have hc7 := hcv.out w7 gk7; have F7 := F4.out.grown gk7 (by simp))
      | fail))) | fail
  all_goals
    go_wp2_with fail
    go_ret
    exact ⟨rfl, gd7⟩
end Go.Proofs.Ytdbjphabmdmjcaa
