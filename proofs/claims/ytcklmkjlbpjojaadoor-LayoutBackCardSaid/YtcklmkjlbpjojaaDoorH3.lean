/- Layout: sameBoxes of equal boxes. -/
import Derived.Test.YtcklmkjlbpjojaaDoorC9
namespace Go.Proofs.YtcklmkjlbpjojaaDoor
open Go.RowKit
set_option linter.unusedSimpArgs false
set_option linter.unusedVariables false

def box5 (b : Int × Int × Int × Int × Int) : List Value := [.int .i64 b.1, .int .i64 b.2.1, .int .i64 b.2.2.1, .int .i64 b.2.2.2.1, .int .i64 b.2.2.2.2]
def boxL (l : List (Int × Int × Int × Int × Int)) : List Value := l.flatMap box5
theorem boxL_at {l : List (Int × Int × Int × Int × Int)} {j : Nat} {b : Int × Int × Int × Int × Int} (h : l[j]? = some b) (i : Nat) (u : Value) (hu : (box5 b)[i]? = some u) : (boxL l)[j * 5 + i]? = some u := by
  induction l generalizing j with
  | nil => simp at h
  | cons a l ih =>
    rcases j with _ | j
    · simp at h; subst h
      simp only [boxL, List.flatMap_cons]
      rw [List.getElem?_append_left (by rw [Nat.zero_mul, Nat.zero_add]; exact (List.getElem?_eq_some_iff.1 hu).1), Nat.zero_mul, Nat.zero_add]
      exact hu
    · simp only [boxL, List.flatMap_cons]
      rw [List.getElem?_append_right (by show 5 ≤ _; omega)]
      have := ih (j := j) (by simpa using h)
      rw [show (j + 1) * 5 + i - (box5 a).length = j * 5 + i by show (j + 1) * 5 + i - 5 = _; omega]
      exact this
theorem boxes_boxL (l : List T) : boxes l = boxL (l.map fun t => (t.n.p, t.n.x, t.n.y, t.n.a, t.n.b)) := by
  induction l with
  | nil => rfl
  | cons a l ih =>
    have e : boxes (a :: l) = boxOf a.n ++ boxes l := by simp [boxes]
    rw [e, ih]; rfl

set_option maxHeartbeats 1000000 in
set_option maxRecDepth 100000 in
theorem sameBoxes_any (A B : Option Addr) (len ca cb : Nat) (l : List (Int × Int × Int × Int × Int)) (w : World) (hn : len = l.length) (hb : len ≤ 100000) (hA : Rd w A (boxL l)) (hB : Rd w B (boxL l)) :
    Calls Tryd.prog 25 #[.slice A len ca, .slice B len cb] w fun e w' => e = .returned (.bool true) ∧ w.grownBy w' none := by
  replace hn := Lib.hid hn; replace hA := Lib.hid hA; replace hB := Lib.hid hB
  go_enter Tryd.func25, Tryd.ntmps25
  go_wp2_with fail
  go_loopw [5] (fun iv wr => ∃ j : Nat, j ≤ len ∧ iv = .int .i64 j ∧ Hid (w.grownBy wr none)) (fun iv _ => len - (match iv with | .int _ i => i | _ => 0).toNat)
  case atStart => exact ⟨0, Nat.zero_le _, rfl, Lib.hid (World.grownBy.refl _ _)⟩
  case round =>
    obtain ⟨j, hj, rfl, hI⟩ := hrel
    by_cases hlt : j < len
    · obtain ⟨o, ho⟩ : ∃ o, l[j]? = some o := ⟨l[j]'(by rw [← hn.out]; exact hlt), List.getElem?_eq_getElem _⟩
      obtain ⟨o1, o2, o3, o4, o5⟩ := o
      obtain ⟨b1, f1, rfl, _, _⟩ := hA.out.at_ (boxL_at ho 0 _ rfl)
      obtain ⟨b2, f2, rfl, _, _⟩ := hB.out.at_ (boxL_at ho 0 _ rfl)
      have hcA : ∀ (i : Nat) (u : Value), (box5 (o1, o2, o3, o4, o5))[i]? = some u → wr.cell? ⟨b1, f1 + j * 5 + i, none⟩ = some u := by
        intro i u hu
        obtain ⟨b', off', e, _, h⟩ := hA.out.at_ (boxL_at ho i u hu)
        cases e
        rw [← Nat.add_assoc] at h
        exact hI.out.cell h (by simp)
      have hcB : ∀ (i : Nat) (u : Value), (box5 (o1, o2, o3, o4, o5))[i]? = some u → wr.cell? ⟨b2, f2 + j * 5 + i, none⟩ = some u := by
        intro i u hu
        obtain ⟨b', off', e, _, h⟩ := hB.out.at_ (boxL_at ho i u hu)
        cases e
        rw [← Nat.add_assoc] at h
        exact hI.out.cell h (by simp)
      have x0 : wr.cell? ⟨b1, f1 + j * 5, none⟩ = some (.int .i64 o1) := hcA 0 _ rfl
      have x1 : wr.cell? ⟨b1, f1 + j * 5 + 1, none⟩ = some (.int .i64 o2) := hcA 1 _ rfl
      have x2 : wr.cell? ⟨b1, f1 + j * 5 + 2, none⟩ = some (.int .i64 o3) := hcA 2 _ rfl
      have x3 : wr.cell? ⟨b1, f1 + j * 5 + 3, none⟩ = some (.int .i64 o4) := hcA 3 _ rfl
      have x4 : wr.cell? ⟨b1, f1 + j * 5 + 4, none⟩ = some (.int .i64 o5) := hcA 4 _ rfl
      have y0 : wr.cell? ⟨b2, f2 + j * 5, none⟩ = some (.int .i64 o1) := hcB 0 _ rfl
      have y1 : wr.cell? ⟨b2, f2 + j * 5 + 1, none⟩ = some (.int .i64 o2) := hcB 1 _ rfl
      have y2 : wr.cell? ⟨b2, f2 + j * 5 + 2, none⟩ = some (.int .i64 o3) := hcB 2 _ rfl
      have y3 : wr.cell? ⟨b2, f2 + j * 5 + 3, none⟩ = some (.int .i64 o4) := hcB 3 _ rfl
      have y4 : wr.cell? ⟨b2, f2 + j * 5 + 4, none⟩ = some (.int .i64 o5) := hcB 4 _ rfl
      clear hcA hcB
      replace ho := Lib.hid ho
      go_upto_region 6 with fail
      go_quiet (fail)
      go_wp2_with fail
      refine ⟨⟨j + 1, by omega, by go_num, Lib.hid ⟨hI.out.os, hI.out.tape, hI.out.output, hI.out.size, hI.out.block⟩⟩, by simp; omega⟩
    · have : j = len := by omega
      subst this
      go_wp2_with fail
      go_ret
      exact ⟨rfl, hI.out⟩
end Go.Proofs.YtcklmkjlbpjojaaDoor
