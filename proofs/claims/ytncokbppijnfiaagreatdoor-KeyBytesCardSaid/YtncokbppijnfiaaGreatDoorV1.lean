/- Key: the document's answer: in, Width, Specials, CodeName. -/
import Derived.Test.YtncokbppijnfiaaGreatDoorC3
import Derived.Laws.Cover4
namespace Go.Proofs.YtncokbppijnfiaaGreatDoor
open Go.RowKit
set_option linter.unusedSimpArgs false
set_option linter.unusedVariables false

set_option maxHeartbeats 1000000 in
set_option maxRecDepth 100000 in
theorem in_any (r : Int) (A : Option Addr) (n2 c : Nat) (l : List (Int × Int)) (w : World) (hn : n2 = l.length * 2) (hb : n2 ≤ 1000) (hR : Rd w A (rngL l)) :
    Calls Tryz.prog 76 #[.int .i32 r, .slice A n2 c] w fun e w' => e = .returned (.bool (within r l)) ∧ w' = w := by
  obtain ⟨n, hnl⟩ : ∃ n, n = l.length := ⟨_, rfl⟩
  have hn2 : n2 = n * 2 := by rw [hnl]; exact hn
  replace hn := Lib.hid hn; replace hR := Lib.hid hR; replace hnl := Lib.hid hnl; replace hn2 := Lib.hid hn2
  go_enter Tryz.func76, Tryz.ntmps76
  go_wp2_with fail
  go_loopw [5] (fun iv wr => ∃ (i : Nat) (j : Nat), j ≤ n ∧ i = j * 2 ∧ iv = .int .i64 i ∧ wr = w ∧ Hid (within r (l.take j) = false)) (fun iv _ => n2 - (match iv with | .int _ i => i | _ => 0).toNat)
  case atStart => exact ⟨0, 0, Nat.zero_le _, rfl, rfl, rfl, Lib.hid rfl⟩
  case round =>
    obtain ⟨i, j, hj, hi, rfl, rfl, hI⟩ := hrel
    by_cases hlt : j < n
    · obtain ⟨p, hp⟩ : ∃ p, l[j]? = some p := ⟨l[j]'(by rw [← hnl.out]; exact hlt), List.getElem?_eq_getElem _⟩
      obtain ⟨p1, p2⟩ := p
      obtain ⟨q1, q2⟩ := rngL_at hp
      rw [← hi] at q1 q2
      obtain ⟨b, f, rfl, _, h1⟩ := hR.out.at_ q1
      obtain ⟨b', f', e, _, h2⟩ := hR.out.at_ q2
      cases e
      have htk : within r (l.take (j + 1)) = (decide (p1 ≤ r) && decide (r ≤ p2)) := by
        have e1 : l.take (j + 1) = l.take j ++ [(p1, p2)] := by rw [List.take_add_one, hp]; rfl
        have := hI.out
        unfold within at *
        rw [e1, List.any_append, this]; simp
      have hall : decide (p1 ≤ r) = true → decide (r ≤ p2) = true → within r l = true := fun h1 h2 => by
        unfold within
        rw [List.any_eq_true]
        exact ⟨(p1, p2), List.mem_of_getElem? hp, by rw [h1, h2]; rfl⟩
      have hn3 := hn2.out
      have hin : (i : Int) + 1 < n2 := by omega
      have hin0 : (i : Int) < n2 := by omega
      have hw1 : wrap64 ((i : Int) + 1) = (i : Int) + 1 := IntWalk.wrap64_in _ (by omega)
      have hw2 : wrap64 ((i : Int) + 2) = (i : Int) + 2 := IntWalk.wrap64_in _ (by omega)
      have hi2 : (i : Int) + 2 = ((i + 2 : Nat) : Int) := by omega
      have hi4 : i + 2 = (j + 1) * 2 := by omega
      have hi5 : n2 - (i + 2) < n2 - i := by omega
      have hj1 : j + 1 ≤ n := by omega
      replace hp := Lib.hid hp; replace htk := Lib.hid htk; replace hall := Lib.hid hall; replace hi2 := Lib.hid hi2; replace hi4 := Lib.hid hi4; replace hi5 := Lib.hid hi5
      replace hi := Lib.hid hi; replace hn3 := Lib.hid hn3
      clear q1 q2
      by_cases c1 : p1 ≤ r
      · by_cases c2 : r ≤ p2
        · go_wp2_with fail
          go_ret
          exact ⟨ret_bool (hall.out (decide_eq_true c1) (decide_eq_true c2)).symm, rfl⟩
        · go_wp2_with fail
          exact ⟨⟨i + 2, j + 1, hj1, hi4.out, congrArg _ hi2.out, trivial, Lib.hid (by rw [htk.out, decide_eq_false c2, Bool.and_false])⟩, by rw [hi2.out]; exact hi5.out⟩
      · go_wp2_with fail
        exact ⟨⟨i + 2, j + 1, hj1, hi4.out, congrArg _ hi2.out, trivial, Lib.hid (by rw [htk.out, decide_eq_false c1, Bool.false_and])⟩, by rw [hi2.out]; exact hi5.out⟩
    · have hje : j = n := by omega
      have hn3 := hn2.out
      have hin : ¬ (i : Int) + 1 < n2 := by omega
      have hw1 : wrap64 ((i : Int) + 1) = (i : Int) + 1 := IntWalk.wrap64_in _ (by omega)
      subst hje
      replace hi := Lib.hid hi; replace hn3 := Lib.hid hn3
      go_wp2_with fail
      go_ret
      exact ⟨ret_bool (by have := hI.out; rw [List.take_of_length_le (by rw [hnl.out]; exact Nat.le_refl _)] at this; exact this.symm), rfl⟩
def wideR : List (Int × Int) := [(4352, 4447), (11904, 12350), (12353, 13311), (13312, 19903), (19968, 40959), (40960, 42191), (44032, 55203), (63744, 64255), (65072, 65135), (65280, 65376), (65504, 65510), (127744, 128591), (129280, 129535), (131072, 262141)]
theorem in_anyG (r : Int) (A : Option Addr) (n2 c : Nat) (l : List (Int × Int)) (w : World) (hn : n2 = l.length * 2) (hb : n2 ≤ 1000) (hR : Rd w A (rngL l)) :
    Calls Tryz.prog 76 #[.int .i32 r, .slice A n2 c] w fun e w' => e = .returned (.bool (within r l)) ∧ w.grownBy w' none :=
  (in_any r A n2 c l w hn hb hR).mono fun e w' ⟨h1, h2⟩ => ⟨h1, by rw [h2]; exact World.grownBy.refl _ _⟩
theorem glue (r a b c d : Int) (h1 : a ≤ c) (h2 : c = b + 1) (h3 : b ≤ d) : ((decide (a ≤ r) && decide (r ≤ b)) || ((decide (c ≤ r) && decide (r ≤ d)))) = (decide (a ≤ r) && decide (r ≤ d)) := by
  rw [Bool.eq_iff_iff]
  simp only [Bool.or_eq_true, Bool.and_eq_true, decide_eq_true_eq]
  omega
theorem wide_same (r : Int) : within r wideR = within r wideT := by
  unfold within wideR wideT
  simp only [List.any_cons, List.any_nil, Bool.or_false]
  rw [← glue r 12353 13311 13312 19903 (by decide) (by decide) (by decide), ← glue r 19968 40959 40960 42191 (by decide) (by decide) (by decide)]
  simp only [Bool.or_assoc]
set_option maxHeartbeats 1000000 in
set_option maxRecDepth 100000 in
theorem widthRef_any (r : Int) (w : World) : Calls Tryz.prog 64 #[.int .i32 r] w fun e w' => e = .returned (.int .i64 (widthR r)) ∧ w.grownBy w' none := by
  by_cases hbad : r < 32 ∨ (127 ≤ r ∧ r ≤ 159) ∨ 1114111 < r
  · have hw : widthR r = -1 := by
      unfold widthR
      rw [if_pos]
      rcases hbad with h | h | h
      · exact .inl h
      · refine .inr (.inr ?_)
        unfold within; simp; omega
      · exact .inr (.inl h)
    replace hw := Lib.hid hw
    rcases hbad with h | ⟨h, h'⟩ | h
    · go_enter Tryz.func64, Tryz.ntmps64
      go_wp2_with fail
      go_ret
      exact ⟨by rw [hw.out]; rfl, World.grownBy.refl _ _⟩
    · have h32 : ¬ r < 32 := by omega
      go_enter Tryz.func64, Tryz.ntmps64
      go_wp2_with fail
      go_ret
      exact ⟨by rw [hw.out]; rfl, World.grownBy.refl _ _⟩
    · have h32 : ¬ r < 32 := by omega
      have h159 : ¬ r ≤ 159 := by omega
      have h127 : 127 ≤ r := by omega
      go_enter Tryz.func64, Tryz.ntmps64
      go_wp2_with fail
      go_ret
      exact ⟨by rw [hw.out]; rfl, World.grownBy.refl _ _⟩
  obtain ⟨b2, hb2⟩ : ∃ b, b = within r zeroT := ⟨_, rfl⟩
  obtain ⟨b3, hb3⟩ : ∃ b, b = within r wideR := ⟨_, rfl⟩
  have hw : widthR r = if b2 = true then 0 else if b3 = true then 2 else 1 := by
    unfold widthR
    rw [← hb2, ← wide_same r, ← hb3, if_neg]
    rintro (h | h | h)
    · omega
    · omega
    · unfold within at h; simp at h; omega
  have C2 := fun W => in_anyG r (some ⟨W.heap.size, 0, none⟩) 6 6 zeroT (W.alloc (.cells (rngL zeroT).toArray 21)) rfl (by omega) (Rd.newL W _ 21)
  have C3 := fun W => in_anyG r (some ⟨W.heap.size, 0, none⟩) 28 28 wideR (W.alloc (.cells (rngL wideR).toArray 21)) rfl (by omega) (Rd.newL W _ 21)
  rw [← hb2] at C2; rw [← hb3] at C3
  have hcs : (r < 127 ∧ ¬ 127 ≤ r) ∨ (127 ≤ r ∧ ¬ r ≤ 159) := by omega
  have h32 : ¬ r < 32 := by omega
  have h111 : ¬ 1114111 < r := by omega
  replace C2 := Lib.hid C2; replace C3 := Lib.hid C3
  replace hb2 := Lib.hid hb2; replace hb3 := Lib.hid hb3; replace hw := Lib.hid hw; replace hbad := Lib.hid hbad
  rcases hcs with ⟨k1, k2⟩ | ⟨k1, k2⟩
  all_goals
    go_enter Tryz.func64, Tryz.ntmps64
    go_wp2_with fail
    refine (C2.out _).mono ?_
    rintro e w2 ⟨rfl, g2⟩
    have G2 := (World.grownBy_alloc w (.cells (rngL zeroT).toArray 21) none).trans g2
    clear g2
    replace G2 := Lib.hid G2
    cases b2
    rotate_left
    · go_wp2_with fail
      go_ret
      exact ⟨by rw [hw.out]; rfl, G2.out⟩
    go_wp2_with fail
    refine (C3.out _).mono ?_
    rintro e w3 ⟨rfl, g3⟩
    have G3 := (G2.out.trans (World.grownBy_alloc w2 (.cells (rngL wideR).toArray 21) none)).trans g3
    clear g3
    replace G3 := Lib.hid G3
    cases b3
    · go_wp2_with fail
      go_ret
      exact ⟨by rw [hw.out]; rfl, G3.out⟩
    · go_wp2_with fail
      go_ret
      exact ⟨by rw [hw.out]; rfl, G3.out⟩
set_option maxRecDepth 100000 in
theorem specialsRef_any (w : World) : Calls Tryz.prog 63 #[] w fun e w' => e = .returned (.slice (some ⟨w.heap.size, 0, none⟩) 31 31) ∧ w.grownBy w' none ∧ ∀ j s, specialsL[j]? = some s → w'.cell? ⟨w.heap.size, j, none⟩ = some (.string (st s)) := by
  go_enter Tryz.func63, Tryz.ntmps63
  go_wp2_with fail
  go_ret
  refine ⟨rfl, World.grownBy_alloc _ _ _, fun j s hj => ?_⟩
  unfold World.cell?
  rw [heap_alloc_new]
  have : (specialsL.map fun s => Value.string (st s))[j]? = some (.string (st s)) := by rw [List.getElem?_map, hj]; rfl
  rw [← this]
  simp [specialsL, st]
end Go.Proofs.YtncokbppijnfiaaGreatDoor
