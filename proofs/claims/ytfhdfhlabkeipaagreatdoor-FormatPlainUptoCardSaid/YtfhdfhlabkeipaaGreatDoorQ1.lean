/- Format: modifiers: one letter, and what is behind it. Format: the width of a rune of ASCII that is no control. -/
import Derived.Test.YtfhdfhlabkeipaaGreatDoorBase
namespace Go.Proofs.YtfhdfhlabkeipaaGreatDoor
open Go.RowKit
set_option linter.unusedSimpArgs false
set_option linter.unusedVariables false

section
variable {ops : Array Oper} {rest : List Oper} {o : Oper} {a : Act} {Q : Exit → Act → World → Prop} {w : World}
/-- append of one modifier, at a step of a region that draws its order. -/
theorem ap105s {K : Act → World → Prop} {E : Prop} (hgd : o.guard = none) (s x : Operand) (ho : o.op = .call { callee := .builtin .append, args := #[s, x], argTypes := #[105, 105] })
    (base : Nat) (v : Value) (n : Nat) (xs : List Value) (hs : a.eval s = v) (hown : w.ownsRow base 109 5 v n xs) (g : Nat) (c : UInt8) (hx : a.eval x = .slice (some ⟨g, 0, none⟩) 1 1) (hg : w.heap[g]? = some (.cells #[.int .u8 (c.toNat : Int), .int .i64 0, .bool false, .string ⟨#[]⟩, .string ⟨#[]⟩] 109 (0, 0)))
    (hb : n ≤ 1000000) (hbase : base ≤ w.heap.size)
    (h : ∀ A' c' w', w'.ownsRow base 109 5 (.slice A' (n + 1) c') (n + 1) (xs ++ [.int .u8 (c.toNat : Int), .int .i64 0, .bool false, .string ⟨#[]⟩, .string ⟨#[]⟩]) → w.grownBy w' v.ownBlock → K (a.put o.dst (.slice A' (n + 1) c')) w') : if Region.wanted o (yielded ops a.tmps) = true then Oper.wp Tryz.prog o a w K Q else E := by
  have hw : Region.wanted o (yielded ops a.tmps) = true := by simp [Region.wanted, hgd]
  rw [if_pos hw]
  obtain ⟨i0, hi0, hz0, hz1, hz2⟩ := info_parts info109b
  exact wp_append_rd w s x 105 ho base 109 i0 _ 5 56 Tryz.underlying105 hi0 hz0 hz1 hz2 rfl (by omega) v n xs hs hown (some ⟨g, 0, none⟩) 1 1 [.int .u8 (c.toNat : Int), .int .i64 0, .bool false, .string ⟨#[]⟩, .string ⟨#[]⟩] hx rfl (rd_block hg) (by intro q hq; simp at hq; rcases hq with rfl | rfl | rfl | rfl <;> rfl) (by unfold maxLen; omega) (by omega) hbase fun A' c' w' h1 h2 _ => h A' c' w' h1 h2
end
theorem cell_on {w w' : World} {o : Obj} {v : Value} {p : Addr} (q : (w.drew.alloc o).grownBy w' none) (h : w.cell? p = some v) : w'.cell? p = some v := ((g_alloc (g_drew (World.grownBy.refl w none)) o).trans q).cell h (by simp)
def letC (c : UInt8) : List Value := [.int .u8 (c.toNat : Int), .int .i64 0, .bool false, .string ⟨#[]⟩, .string ⟨#[]⟩]

def MdP (cs : List Value) (n : Nat) (r : B) (w : World) (e : Ending) (w' : World) : Prop := ∃ A cp, e = .returned (.tuple #[.slice A n cp, .string (st r)]) ∧ w'.ownsRow w.heap.size 109 5 (.slice A n cp) n cs ∧ w.grownBy w' none
set_option maxRecDepth 100000 in
set_option maxHeartbeats 2000000 in
theorem modifiers_one (c : UInt8) (r : B) (w : World) (hc : c = 98 ∨ c = 117 ∨ c = 108) (hr : r.length ≤ 90000) :
    Calls Tryz.prog 75 #[.string (st (c :: 58 :: r))] w (MdP (letC c) 1 r w) := by
  have CF := fun W => first_letter c (58 :: r) W hc (by simp; omega)
  unfold modV at CF
  rw [show st [] = ⟨#[]⟩ from rfl] at CF
  obtain ⟨S, hS⟩ : ∃ S, S = st (c :: 58 :: r) := ⟨_, rfl⟩
  obtain ⟨S1, hS1⟩ : ∃ S, S = st (58 :: r) := ⟨_, rfl⟩
  obtain ⟨S2, hS2⟩ : ∃ S, S = st r := ⟨_, rfl⟩
  obtain ⟨len, hlen⟩ : ∃ len, len = r.length + 1 := ⟨_, rfl⟩
  have hZ : S1.size = len := by rw [hS1, st_size, hlen]; rfl
  have hg := get_at (P := 58 :: r) (j := 0) (c := 58) rfl hS1
  have hne : S1.toList.isEmpty = false := by rw [hS1, empty_iff]; simp
  have hx : S1.extract 1 len = S2 := by rw [hS1, st_drop _ _ _ (by rw [hlen]; rfl), hS2]; rfl
  have hl1 : (1 : Int) ≤ (len : Int) := by omega
  have hl0 : (0 : Int) < (len : Int) := by omega
  rw [← hS, ← hS1] at CF
  rw [← hS]
  have CM1 := Lib.hid must_ok
  replace CF := Lib.hid CF; replace hS := Lib.hid hS; replace hS1 := Lib.hid hS1; replace hS2 := Lib.hid hS2; replace hlen := Lib.hid hlen; replace hc := Lib.hid hc
  go_enter Tryz.func75, Tryz.ntmps75
  go_wp2_with fail
  refine wp_loop_in (loopWp_round ?_)
  go_wp2_with fail
  refine (CF.out _).mono ?_
  rintro e w1 ⟨rfl, G1⟩
  replace G1 := Lib.hid G1
  go_wp2_with fail
  refine (CM1.out 4 _).mono ?_
  rintro e w2 ⟨rfl, rfl⟩
  go_upto_region 4 with fail
  obtain ⟨W5, hW5⟩ : ∃ W5, W5 = w1.alloc (.cells #[.int .u8 (c.toNat : Int), .int .i64 0, .bool false, .string ⟨#[]⟩, .string ⟨#[]⟩] 109) := ⟨_, rfl⟩
  obtain ⟨b5, hb5⟩ : ∃ b5, b5 = w1.heap.size := ⟨_, rfl⟩
  rw [← hW5, ← hb5]
  have hh : W5.heap[b5]? = some (.cells #[.int .u8 (c.toNat : Int), .int .i64 0, .bool false, .string ⟨#[]⟩, .string ⟨#[]⟩] 109 (0, 0)) := by rw [hW5, hb5]; exact heap_alloc_new _ _
  have d0 : W5.cell? ⟨b5, 0, none⟩ = some (.int .u8 (c.toNat : Int)) := by rw [cell_of_heap hh]; rfl
  have d1 : W5.cell? ⟨b5, 1, none⟩ = some (.int .i64 0) := by rw [cell_of_heap hh]; rfl
  have d2 : W5.cell? ⟨b5, 2, none⟩ = some (.bool false) := by rw [cell_of_heap hh]; rfl
  have d3 : W5.cell? ⟨b5, 3, none⟩ = some (.string ⟨#[]⟩) := by rw [cell_of_heap hh]; rfl
  have d4 : W5.cell? ⟨b5, 4, none⟩ = some (.string ⟨#[]⟩) := by rw [cell_of_heap hh]; rfl
  have hG5 : w.grownBy W5 none := by rw [hW5]; exact g_alloc G1.out _
  replace hW5 := Lib.hid hW5; replace hb5 := Lib.hid hb5; replace hh := Lib.hid hh; replace hG5 := Lib.hid hG5
  go_region_held3 (fun w' => w'.cell? ⟨b5, 0, none⟩ = some (.int .u8 (c.toNat : Int)) ∧ w'.cell? ⟨b5, 1, none⟩ = some (.int .i64 0) ∧ w'.cell? ⟨b5, 2, none⟩ = some (.bool false) ∧ w'.cell? ⟨b5, 3, none⟩ = some (.string ⟨#[]⟩) ∧ w'.cell? ⟨b5, 4, none⟩ = some (.string ⟨#[]⟩)) (first | go_keep | (exact ⟨(cell_on q2 d0), (cell_on q2 d1), (cell_on q2 d2), (cell_on q2 d3), (cell_on q2 d4)⟩))
    ((refine ap105s (by rfl) _ _ (by rfl) w.heap.size (.slice none 0 0) 0 [] (by rfl) (World.ownsRow_nil _ _ _ _) W5.heap.size c (by rfl) (heap_alloc_new _ _) (by omega) (by exact Nat.le_trans hG5.out.size (g_alloc (g_drew (World.grownBy.refl W5 none)) _).size) ?_; intro A' c' w' q1 q2))
  all_goals
    have hG6 : w.grownBy w' none := g_own (a' := W5) (n := 0) (xs := []) (g_alloc (g_drew hG5.out) _) (World.ownsRow_nil W5 w.heap.size 109 5) (Nat.le_refl _) q2
    replace hG6 := Lib.hid hG6; replace q1 := Lib.hid q1; replace q2 := Lib.hid q2
    go_wp2_with fail
    go_ret2
    exact ⟨A', c', by rw [hS2.out]; rfl, q1.out, hG6.out⟩
end Go.Proofs.YtfhdfhlabkeipaaGreatDoor
namespace Go.Proofs.YtfhdfhlabkeipaaGreatDoor
open Go.RowKit
set_option linter.unusedSimpArgs false
set_option linter.unusedVariables false

/-- Ranges as they lie. -/
def rg (l : List (Int × Int)) : List Value := l.flatMap fun p => [.int .i32 p.1, .int .i32 p.2]
theorem rg_at : ∀ (l : List (Int × Int)) (j : Nat) {p : Int × Int}, l[j]? = some p → (rg l)[j * 2]? = some (.int .i32 p.1) ∧ (rg l)[j * 2 + 1]? = some (.int .i32 p.2)
  | [], j, p, h => by simp at h
  | a :: l, j, p, h => by
    rcases j with _ | j
    · simp at h; subst h; exact ⟨rfl, rfl⟩
    · have := rg_at l j (by simpa using h)
      rw [show (j + 1) * 2 = j * 2 + 2 by omega]
      exact this
set_option maxHeartbeats 1000000 in
set_option maxRecDepth 100000 in
theorem within_no (r : Int) (l : List (Int × Int)) (n : Nat) (A : Option Addr) (c : Nat) (w : World) (hn : n = l.length) (h63 : n ≤ 1000) (hR : Rd w A (rg l)) (hl : ∀ p ∈ l, r < p.1) :
    Calls Tryz.prog 165 #[.int .i32 r, .slice A n c] w fun e w' => e = .returned (.bool false) ∧ w.grownBy w' none := by
  replace hn := Lib.hid hn; replace hR := Lib.hid hR; replace hl := Lib.hid hl
  go_enter Tryz.func165, Tryz.ntmps165
  go_wp2_with fail
  go_loopw [9] (fun jv wr => ∃ j : Nat, jv = .int .i64 j ∧ j ≤ n ∧ Hid (w.grownBy wr none)) (fun jv _ => n - (intOf jv).toNat)
  case atStart => exact ⟨0, rfl, Nat.zero_le _, Lib.hid (World.grownBy.refl _ _)⟩
  case round =>
    obtain ⟨j, rfl, hj, hI⟩ := hrel
    by_cases hlt : j < n
    · obtain ⟨p, hp⟩ : ∃ p, l[j]? = some p := ⟨l[j]'(by rw [← hn.out]; exact hlt), List.getElem?_eq_getElem _⟩
      obtain ⟨q1, q2⟩ := rg_at l j hp
      have hR2 := hR.out.grown hI.out (.inl rfl)
      obtain ⟨b1, off, rfl, _, k0⟩ := hR2.at_ q1
      obtain ⟨b', off', e', _, k1⟩ := hR2.at_ q2
      cases e'
      rw [← Nat.add_assoc] at k1
      have hlp := hl.out p (List.mem_of_getElem? hp)
      obtain ⟨lo, hlo⟩ : ∃ x, x = p.1 := ⟨_, rfl⟩
      obtain ⟨hi, hhi⟩ : ∃ x, x = p.2 := ⟨_, rfl⟩
      rw [← hlo] at k0 hlp
      rw [← hhi] at k1
      have hd : decide (lo ≤ r) = false := by rw [decide_eq_false_iff_not]; omega
      have hlti : (j : Int) < (n : Int) := by omega
      have hj0 : (0 : Int) ≤ (j : Int) := by omega
      have hwj : IntKind.i64.wrap ((j : Int) + 1) = ((j + 1 : Nat) : Int) := by rw [IntKind.wrap_i64]; omega
      replace hlo := Lib.hid hlo; replace hhi := Lib.hid hhi; replace hp := Lib.hid hp; replace q1 := Lib.hid q1; replace q2 := Lib.hid q2; replace hR2 := Lib.hid hR2; replace hlp := Lib.hid hlp
      go_wp2_with fail
      exact ⟨⟨j + 1, by first | rfl | rw [hwj], by omega, Lib.hid (g_alloc hI.out _)⟩, by simp [intOf]; omega⟩
    · have hlti : ¬ ((j : Int) < (n : Int)) := by omega
      go_wp2_with fail
      go_ret
      exact ⟨rfl, hI.out⟩
end Go.Proofs.YtfhdfhlabkeipaaGreatDoor
