/- Key: a mouse's key among the arguments, opened. -/
import Derived.Test.YtncokbppijnfiaaGreatDoorW1
import Derived.OpenShut
import Derived.ChangeOld
import Derived.ChangeArms
import Derived.Lib.SmallJoins
namespace Go.Proofs.YtncokbppijnfiaaGreatDoor
open Go.RowKit Go.ChangeShapes Go.WideShapes Go.Joins
set_option linter.unusedSimpArgs false
set_option linter.unusedVariables false

section
variable {H : Type} {enc : TypeId × Value → H} {w : World} {base : Nat} {spare : Nat → Bool} {held : Bool}
set_option maxRecDepth 100000 in
theorem two_ints {t : TypeId} {f0 f1 : Field} {fuel : Nat} {c0 c1 : Value} {x : DataW H × List MemPlace} (ht : Tryz.prog.underlying t = some (.struct #[f0, f1])) (h0 : f0.type = 3 ∧ f0.offset = 0) (h1 : f1.type = 3 ∧ f1.offset = 1)
    (h : DataW.trod enc Tryz.prog w base spare held fuel t [c0, c1] = some x) : ∃ a b : Int, c0 = .int .i64 a ∧ c1 = .int .i64 b ∧ (Lit.int .i64 a).wf = true ∧ (Lit.int .i64 b).wf = true := by
  obtain ⟨xs, n, _, _, _, hlen, hg⟩ := DataW.trod_struct ht h
  have hC : Tryz.prog.cellsOf 3 = 1 := by kernel_rfl
  match xs, hlen with
  | [y0, y1], _ =>
    have g0 := hg 0 f0 rfl
    have g1 := hg 1 f1 rfl
    rw [h0.1, h0.2, hC] at g0
    rw [h1.1, h1.2, hC] at g1
    obtain ⟨a, e0, _, w0⟩ := DataW.trod_int Tryz.underlying3 g0
    obtain ⟨b, e1, _, w1⟩ := DataW.trod_int Tryz.underlying3 g1
    exact ⟨a, b, by simpa using e0, by simpa using e1, w0, w1⟩
set_option maxRecDepth 100000 in
theorem open_mouse {r : Reach} {b0 : Nat} {v : Value} {d : DataW H} {p : List MemPlace} (hv : Value.okWide Tryz.prog w r b0 40 v) (h : DataW.Trod enc Tryz.prog w base spare held 40 v d p) :
    ∃ c m b x y : Int, v = .agg #[.int .i64 c, .int .i64 m, .int .i64 b, .int .i64 x, .int .i64 y] ∧ (Lit.int .i64 c).wf = true ∧ (Lit.int .i64 m).wf = true ∧ (Lit.int .i64 b).wf = true ∧ (Lit.int .i64 x).wf = true ∧ (Lit.int .i64 y).wf = true := by
  obtain ⟨cs, rfl, hsz⟩ := okWide_struct Tryz.underlying40 hv
  have hC : Tryz.prog.cellsOf 40 = 5 := by kernel_rfl
  have hC3 : Tryz.prog.cellsOf 3 = 1 := by kernel_rfl
  have hC23 : Tryz.prog.cellsOf 23 = 2 := by kernel_rfl
  have hC38 : Tryz.prog.cellsOf 38 = 2 := by kernel_rfl
  obtain ⟨l⟩ := cs
  match l, hsz.trans hC with
  | [c0, c1, c2, c3, c4], _ =>
    obtain ⟨fuel, hf⟩ := h
    obtain ⟨xs, n, _, _, _, hlen, hg⟩ := DataW.trod_struct Tryz.underlying40 hf
    match xs, hlen with
    | [y0, y1, y2], _ =>
      have g0 : DataW.trod enc Tryz.prog w base spare held n 23 (([c0, c1, c2, c3, c4].drop 0).take (Tryz.prog.cellsOf 23)) = some y0 := hg 0 _ rfl
      have g1 : DataW.trod enc Tryz.prog w base spare held n 3 (([c0, c1, c2, c3, c4].drop 2).take (Tryz.prog.cellsOf 3)) = some y1 := hg 1 _ rfl
      have g2 : DataW.trod enc Tryz.prog w base spare held n 38 (([c0, c1, c2, c3, c4].drop 3).take (Tryz.prog.cellsOf 38)) = some y2 := hg 2 _ rfl
      rw [hC23] at g0
      rw [hC3] at g1
      rw [hC38] at g2
      obtain ⟨a, b, rfl, rfl, wa, wb⟩ := two_ints Tryz.underlying23 ⟨rfl, rfl⟩ ⟨rfl, rfl⟩ g0
      obtain ⟨k, e1, _, wk⟩ := DataW.trod_int Tryz.underlying3 g1
      obtain ⟨x, y, rfl, rfl, wx, wy⟩ := two_ints Tryz.underlying38 ⟨rfl, rfl⟩ ⟨rfl, rfl⟩ g2
      have e1' : c2 = .int .i64 k := by simpa using e1
      subst e1'
      exact ⟨a, b, k, x, y, rfl, wa, wb, wk, wx, wy⟩
end
end Go.Proofs.YtncokbppijnfiaaGreatDoor
