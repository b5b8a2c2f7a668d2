/- Key: Feed and Time. -/
import Derived.Test.YtncokbppijnfiaaGreatDoorE2
namespace Go.Proofs.YtncokbppijnfiaaGreatDoor
open Go.RowKit
set_option linter.unusedSimpArgs false
set_option linter.unusedVariables false

theorem db_row {w : World} {p base n : Nat} {s v : Value} {xs : List Value} (hD : DB w p s) (h : w.ownsRow base 5 1 v n xs) : some p ≠ v.ownBlock := by
  intro e
  rcases h.2 with ⟨rfl, _⟩ | ⟨g1, c1, cur1, rfl, _, hg1, _⟩
  · simp [Value.ownBlock] at e
  · have : p = g1 := by simpa [Value.ownBlock] using e
    subst this
    unfold DB at hD
    rw [hD] at hg1
    injection hg1 with hg1
    injection hg1 with _ ht
    cases ht
theorem own_ablk {w : World} {base e n size c : Nat} {A : Option Addr} {xs : List Value} (h : w.ownsRow base e size (.slice A n c) n xs) : (Value.slice A n c).ownBlock = ablk A := by
  obtain ⟨A', c', e, _, h2, _⟩ := Rd.of_own h
  injection e with e1 _ e3
  subst e1; subst e3
  exact h2.symm
/-- The world has its variables as they were when the law began. -/
structure Wf (w0 w : World) : Prop where
  d : Wd w0
  b : Below w0.heap.size w0 w
theorem Wf.wd {w0 w : World} (h : Wf w0 w) : Wd w := h.d.below h.b
theorem Wf.grown {w0 w w' : World} (h : Wf w0 w) {r : Option Nat} (g : w.grownBy w' r) (hr : ∀ b, r = some b → w0.heap.size ≤ b) : Wf w0 w' :=
  ⟨h.d, ⟨g.os.trans h.b.os, g.tape.trans h.b.tape, g.output.trans h.b.output, Nat.le_trans h.b.size g.size, fun k hk => (g.block k (Nat.lt_of_lt_of_le hk h.b.size) (fun e => by have := hr k e.symm; omega)).trans (h.b.block k hk)⟩⟩
set_option maxHeartbeats 1000000 in
set_option maxRecDepth 100000 in
theorem feed_any (F : List UInt8 → Ms × Int × Nat) (p n c base m c2 : Nat) (A A2 : Option Addr) (old new rest : List UInt8) (out : List Ms) (w0 w : World) (hW : Wf w0 w) (hb0 : w0.heap.size ≤ base) (hp0 : w0.heap.size ≤ p) (hb : base ≤ w.heap.size)
    (hD : DB w p (.slice A n c)) (hO : w.ownsRow base 5 1 (.slice A n c) n (bs old)) (hn : n = old.length) (hm : m = new.length) (hbig : n + m ≤ 1000000) (hR : Rd w A2 (bs new))
    (hT : Took F (old ++ new) out rest) (hF : FrontAt F false (old ++ new)) :
    Calls Tryz.prog 13 #[.pointer (some ⟨p, 0, none⟩), .slice A2 m c2] w fun e w' => ∃ Ao co A' c' w1, e = .returned (.slice Ao out.length co) ∧ w'.ownsRow w.heap.size 40 5 (.slice Ao out.length co) out.length (msCells out) ∧ DB w' p (.slice A' rest.length c') ∧ w'.ownsRow w.heap.size 5 1 (.slice A' rest.length c') rest.length (bs rest) ∧ w.grownBy w1 (Value.slice A n c).ownBlock ∧ w1.grownBy w' (some p) := by
  have d0 := hD.cell; have d1 := hD.free; have hp := hD.lt
  have hne := db_row hD hO
  have hnews := bs_one new
  have hlen : (bs new).length = m := by rw [bs_len, hm]
  replace hW := Lib.hid hW; replace hD := Lib.hid hD; replace hO := Lib.hid hO; replace hR := Lib.hid hR; replace hT := Lib.hid hT; replace hF := Lib.hid hF; replace hn := Lib.hid hn; replace hm := Lib.hid hm; replace hne := Lib.hid hne; replace hnews := Lib.hid hnews; replace hlen := Lib.hid hlen
  go_enter Tryz.func13, Tryz.ntmps13
  go_wp2_with (at_builtin; refine ap32 rfl (.tmp 9) (.tmp 10) rfl base (.slice A n c) n (bs old) rfl hO.out A2 m c2 (bs new) rfl hlen.out hR.out hnews.out (by omega) hb ?_; intro A3 c3 w3 O3 G3 hh3; have hD3 := hD.out.grown G3 hne.out; have e0 := hD3.cell; have e1 := hD3.free; replace O3 := Lib.hid O3; replace G3 := Lib.hid G3; replace hD3 := Lib.hid hD3)
  have R3 : Rd w3 A3 (bs (old ++ new)) := by rw [bs_append]; exact own_Rd O3.out
  have hc3 : n + m ≤ c3 := by
    obtain ⟨_, _, e, _, _, h, _⟩ := Rd.of_own O3.out
    injection e with _ _ e3; omega
  have hD4 : DB (w3.setCell ⟨p, 0, none⟩ (.slice A3 (n + m) c3)) p (.slice A3 (n + m) c3) := hD3.out.set _
  have R4 := R3.set (p := ⟨p, 0, none⟩) (.slice A3 (n + m) c3) (fun e => db_row hD3.out O3.out (by
    have := hh3
    rw [show (Value.slice A3 (n + m) c3).ownBlock = ablk A3 from own_ablk O3.out]; exact e.symm))
  have W3 : Wf w0 w3 := hW.out.grown G3.out (fun b hb' => by
    have h1 := (hO.out.lt b hb').1; omega)
  have g4 : w3.grownBy (w3.setCell ⟨p, 0, none⟩ (.slice A3 (n + m) c3)) (some p) := g_set (a := ⟨p, 0, none⟩) (World.grownBy.refl _ _) rfl _
  have W4 : Wf w0 (w3.setCell ⟨p, 0, none⟩ (.slice A3 (n + m) c3)) := W3.grown g4 (fun b hb' => by injection hb' with hb'; omega)
  have CT := Lib.hid (take_any F false p (n + m) c3 A3 (old ++ new) rest out (w3.setCell ⟨p, 0, none⟩ (.slice A3 (n + m) c3)) W4.wd hD4 R4 (by rw [List.length_append, hn.out, hm.out]) (by omega) hc3 hT.out hF.out)
  refine CT.out.mono ?_
  rintro e w5 ⟨Ao, co, A5, c5, rfl, O5, D5, O6, G5⟩
  have hs : w.heap.size ≤ (w3.setCell ⟨p, 0, none⟩ (.slice A3 (n + m) c3)).heap.size := by have := G3.out.size; simpa [World.setCell] using this
  have G6 := g4.trans G5
  replace O5 := Lib.hid (own_le O5 hs); replace O6 := Lib.hid (own_le O6 hs); replace D5 := Lib.hid D5; replace G6 := Lib.hid G6
  go_wp2_with fail
  go_ret
  exact ⟨Ao, co, A5, c5, w3, rfl, O5.out, D5.out, O6.out, G3.out, G6.out⟩
set_option maxHeartbeats 1000000 in
set_option maxRecDepth 100000 in
theorem time_any (F : List UInt8 → Ms × Int × Nat) (p n c : Nat) (A : Option Addr) (xs rest : List UInt8) (out : List Ms) (w : World) (hW : Wd w) (hD : DB w p (.slice A n c)) (hR : Rd w A (bs xs)) (hn : n = xs.length) (hbig : n ≤ 1000000) (hc : n ≤ c)
    (hT : Took F xs out rest) (hF : FrontAt F true xs) :
    Calls Tryz.prog 14 #[.pointer (some ⟨p, 0, none⟩)] w fun e w' => ∃ Ao co A' c', e = .returned (.slice Ao out.length co) ∧ w'.ownsRow w.heap.size 40 5 (.slice Ao out.length co) out.length (msCells out) ∧ DB w' p (.slice A' rest.length c') ∧ w'.ownsRow w.heap.size 5 1 (.slice A' rest.length c') rest.length (bs rest) ∧ w.grownBy w' (some p) := by
  have CT := Lib.hid (take_any F true p n c A xs rest out w hW hD hR hn hbig hc hT hF)
  clear hW hD hR hn hT hF
  go_enter Tryz.func14, Tryz.ntmps14
  go_wp2_with fail
  refine CT.out.mono ?_
  rintro e w5 ⟨Ao, co, A5, c5, rfl, O5, D5, O6, G5⟩
  replace O5 := Lib.hid O5; replace O6 := Lib.hid O6; replace D5 := Lib.hid D5; replace G5 := Lib.hid G5
  go_wp2_with fail
  go_ret
  exact ⟨Ao, co, A5, c5, rfl, O5.out, D5.out, O6.out, G5.out⟩
end Go.Proofs.YtncokbppijnfiaaGreatDoor
