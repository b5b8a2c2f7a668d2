/- Key: the small ones: pick, mouse, one, the widths of runes. -/
import Derived.Test.YtncokbppijnfiaaGreatDoorBase
import Derived.Test.YtncokbppijnfiaaGreatDoorK0
import Derived.Test.YtncokbppijnfiaaGreatDoorProg
import Derived.StillTailTactics
import Derived.BigQuiet
namespace Go.Proofs.YtncokbppijnfiaaGreatDoor
open Go.RowKit
set_option linter.unusedSimpArgs false
set_option linter.unusedVariables false

abbrev keyV (c m : Int) : Value := .agg #[.int .i64 c, .int .i64 m]
abbrev msV (k : Ms) : Value := .agg #[.int .i64 k.c, .int .i64 k.m, .int .i64 k.b, .int .i64 k.x, .int .i64 k.y]
theorem mouse_any (c : Int) (w : World) : Calls Tryz.prog 22 #[.int .i64 c] w fun e w' => e = .returned (.bool (isMouse c)) ∧ w' = w := by
  go_enter Tryz.func22, Tryz.ntmps22
  go_wp2_with fail
  all_goals (go_ret; exact ⟨ret_bool (by unfold isMouse; simp; try omega), rfl⟩)
theorem one_any (c m : Int) (w : World) : Calls Tryz.prog 60 #[.int .i64 c, .int .i64 m] w fun e w' => e = .returned (msV (msOne c m)) ∧ w.grownBy w' none := by
  have hres : Tryz.f60.results = #[.cell 4 40] := by kernel_rfl
  go_enter Tryz.func60, Tryz.ntmps60
  go_wp2_with fail
  refine bodyPost_ret (v := msV (msOne c m)) ?_ rfl ⟨rfl, ?_⟩
  · simp only [results, hres]
    go_simp
    exact ⟨rfl, rfl, rfl, rfl, rfl⟩
  · exact World.grownBy_alloc _ _ _
theorem Rd.newL (w : World) (xs : List Value) (e : TypeId) : Rd (w.alloc (.cells xs.toArray e)) (some ⟨w.heap.size, 0, none⟩) xs := fun _ => ⟨_, _, rfl, by simp, fun j u hj => by
  unfold World.cell?; rw [heap_alloc_new, Nat.zero_add]; simpa using hj⟩
def rngL (l : List (Int × Int)) : List Value := l.flatMap fun p => [.int .i32 p.1, .int .i32 p.2]
theorem rngL_at {l : List (Int × Int)} {j : Nat} {p : Int × Int} (h : l[j]? = some p) : (rngL l)[j * 2]? = some (.int .i32 p.1) ∧ (rngL l)[j * 2 + 1]? = some (.int .i32 p.2) := by
  induction l generalizing j with
  | nil => simp at h
  | cons a l ih =>
    rcases j with _ | j
    · simp at h; subst h; exact ⟨rfl, rfl⟩
    · have := ih (j := j) (by simpa using h)
      rw [show (j + 1) * 2 = j * 2 + 2 by omega]
      exact this
set_option maxHeartbeats 1000000 in
set_option maxRecDepth 100000 in
theorem within_any (r : Int) (A : Option Addr) (n c : Nat) (l : List (Int × Int)) (w : World) (hn : n = l.length) (hb : n ≤ 1000) (hR : Rd w A (rngL l)) :
    Calls Tryz.prog 51 #[.int .i32 r, .slice A n c] w fun e w' => e = .returned (.bool (within r l)) ∧ w.grownBy w' none := by
  replace hn := Lib.hid hn; replace hR := Lib.hid hR
  go_enter Tryz.func51, Tryz.ntmps51
  go_wp2_with fail
  go_loopw [9] (fun iv wr => ∃ j : Nat, j ≤ n ∧ iv = .int .i64 j ∧ Hid (within r (l.take j) = false ∧ w.grownBy wr none)) (fun iv _ => n - (match iv with | .int _ i => i | _ => 0).toNat)
  case atStart => exact ⟨0, Nat.zero_le _, rfl, Lib.hid ⟨rfl, World.grownBy.refl _ _⟩⟩
  case round =>
    obtain ⟨j, hj, rfl, hI⟩ := hrel
    by_cases hlt : j < n
    · obtain ⟨p, hp⟩ : ∃ p, l[j]? = some p := ⟨l[j]'(by rw [← hn.out]; exact hlt), List.getElem?_eq_getElem _⟩
      obtain ⟨p1, p2⟩ := p
      obtain ⟨q1, q2⟩ := rngL_at hp
      obtain ⟨b, f, rfl, _, h1⟩ := hR.out.at_ q1
      obtain ⟨b', f', e, _, h2⟩ := hR.out.at_ q2
      cases e
      rw [← Nat.add_assoc] at h2
      have x1 := hI.out.2.cell h1 (by simp)
      have x2 := hI.out.2.cell h2 (by simp)
      have htk : within r (l.take (j + 1)) = (decide (p1 ≤ r) && decide (r ≤ p2)) := by
        have e1 : l.take (j + 1) = l.take j ++ [(p1, p2)] := by rw [List.take_add_one, hp]; rfl
        have := hI.out.1
        unfold within at *
        rw [e1, List.any_append, this]; simp
      have hall : decide (p1 ≤ r) = true → decide (r ≤ p2) = true → within r l = true := fun h1 h2 => by
        unfold within
        rw [List.any_eq_true]
        exact ⟨(p1, p2), List.mem_of_getElem? hp, by rw [h1, h2]; rfl⟩
      replace hp := Lib.hid hp; replace htk := Lib.hid htk; replace hall := Lib.hid hall
      clear h1 h2 q1 q2
      have gA : w.grownBy (wr.alloc (.cells #[.int .i32 p1, .int .i32 p2] 92)) none := hI.out.2.trans (World.grownBy_alloc _ _ _)
      replace gA := Lib.hid gA
      go_wp2_with fail
      · go_ret
        exact ⟨ret_bool (hall.out (decide_eq_true (by omega)) (decide_eq_true (by omega))).symm, gA.out⟩
      · exact ⟨⟨j + 1, by omega, by go_num, Lib.hid ⟨by rw [htk.out]; simp; omega, gA.out⟩⟩, by simp; omega⟩
      · exact ⟨⟨j + 1, by omega, by go_num, Lib.hid ⟨by rw [htk.out]; simp; omega, gA.out⟩⟩, by simp; omega⟩
    · have hje : j = n := by omega
      subst hje
      go_wp2_with fail
      go_ret
      exact ⟨ret_bool (by have := hI.out.1; rw [List.take_of_length_le (by rw [hn.out]; exact Nat.le_refl _)] at this; exact this.symm), hI.out.2⟩
set_option maxHeartbeats 1000000 in
set_option maxRecDepth 100000 in
theorem width_any (r : Int) (w : World) : Calls Tryz.prog 36 #[.int .i32 r] w fun e w' => e = .returned (.int .i64 (widthR r)) ∧ w.grownBy w' none := by
  have CW : Hid (∀ (A : Option Addr) (n c : Nat) (l : List (Int × Int)) (W : World), n = l.length → n ≤ 1000 → Rd W A (rngL l) → Calls Tryz.prog 51 #[.int .i32 r, .slice A n c] W fun e w' => e = .returned (.bool (within r l)) ∧ W.grownBy w' none) :=
    Lib.hid fun A n c l W h1 h2 h3 => within_any r A n c l W h1 h2 h3
  by_cases h1 : r < 32
  · have hw : widthR r = -1 := by unfold widthR; rw [if_pos (.inl h1)]
    replace hw := Lib.hid hw
    go_enter Tryz.func36, Tryz.ntmps36
    go_wp2_with fail
    go_ret
    exact ⟨by rw [hw.out]; rfl, World.grownBy.refl _ _⟩
  by_cases h2 : 1114111 < r
  · have hw : widthR r = -1 := by unfold widthR; rw [if_pos (.inr (.inl h2))]
    replace hw := Lib.hid hw
    go_enter Tryz.func36, Tryz.ntmps36
    go_wp2_with fail
    go_ret
    exact ⟨by rw [hw.out]; rfl, World.grownBy.refl _ _⟩
  obtain ⟨b1, hb1⟩ : ∃ b, b = within r [(0x7f, 0x9f)] := ⟨_, rfl⟩
  obtain ⟨b2, hb2⟩ : ∃ b, b = within r zeroT := ⟨_, rfl⟩
  obtain ⟨b3, hb3⟩ : ∃ b, b = within r wideT := ⟨_, rfl⟩
  have hw : widthR r = if b1 = true then -1 else if b2 = true then 0 else if b3 = true then 2 else 1 := by
    unfold widthR
    rw [← hb1, ← hb2, ← hb3]
    cases b1 <;> simp [h1, h2]
  have C1 := fun W => CW.out (some ⟨W.heap.size, 0, none⟩) 1 1 [(0x7f, 0x9f)] (W.alloc (.cells (rngL [(0x7f, 0x9f)]).toArray 92)) rfl (by omega) (Rd.newL W _ 92)
  have C2 := fun W => CW.out (some ⟨W.heap.size, 0, none⟩) 3 3 zeroT (W.alloc (.cells (rngL zeroT).toArray 92)) rfl (by omega) (Rd.newL W _ 92)
  have C3 := fun W => CW.out (some ⟨W.heap.size, 0, none⟩) 12 12 wideT (W.alloc (.cells (rngL wideT).toArray 92)) rfl (by omega) (Rd.newL W _ 92)
  rw [← hb1] at C1; rw [← hb2] at C2; rw [← hb3] at C3
  replace C1 := Lib.hid C1; replace C2 := Lib.hid C2; replace C3 := Lib.hid C3
  replace hb1 := Lib.hid hb1; replace hb2 := Lib.hid hb2; replace hb3 := Lib.hid hb3; replace hw := Lib.hid hw
  clear CW
  go_enter Tryz.func36, Tryz.ntmps36
  go_wp2_with fail
  refine (C1.out _).mono ?_
  rintro e w1 ⟨rfl, g1⟩
  have G1 := (World.grownBy_alloc w (.cells (rngL [(0x7f, 0x9f)]).toArray 92) none).trans g1
  replace G1 := Lib.hid G1
  cases b1
  rotate_left
  · go_wp2_with fail
    go_ret
    exact ⟨by rw [hw.out]; rfl, G1.out⟩
  go_wp2_with fail
  refine (C2.out _).mono ?_
  rintro e w2 ⟨rfl, g2⟩
  have G2 := G1.out.trans ((World.grownBy_alloc w1 (.cells (rngL zeroT).toArray 92) none).trans g2)
  replace G2 := Lib.hid G2
  cases b2
  rotate_left
  · go_wp2_with fail
    go_ret
    exact ⟨by rw [hw.out]; rfl, G2.out⟩
  go_wp2_with fail
  refine (C3.out _).mono ?_
  rintro e w3 ⟨rfl, g3⟩
  have G3 := G2.out.trans ((World.grownBy_alloc w2 (.cells (rngL wideT).toArray 92) none).trans g3)
  replace G3 := Lib.hid G3
  cases b3
  · go_wp2_with fail
    go_ret
    exact ⟨by rw [hw.out]; rfl, G3.out⟩
  · go_wp2_with fail
    go_ret
    exact ⟨by rw [hw.out]; rfl, G3.out⟩
end Go.Proofs.YtncokbppijnfiaaGreatDoor
