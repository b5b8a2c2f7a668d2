/- Key: the walk of KeyMouse. -/
import Derived.Test.YtncokbppijnfiaaGreatDoorS3
namespace Go.Proofs.YtncokbppijnfiaaGreatDoor
open Go.RowKit
set_option linter.unusedSimpArgs false
set_option linter.unusedVariables false

def pickL (c n : Int) : Int := (if c < 0 then -(c + 1) else c) % n
theorem pick_any (c n : Int) (hc : I64 c) (hn : 0 < n) (hn2 : n ≤ 1000000) (w : World) : Calls Tryz.prog 16 #[.int .i64 c, .int .i64 n] w fun e w' => e = .returned (.int .i64 (pickL c n)) ∧ w' = w := by
  unfold I64 at hc
  have hr : ∀ x : Int, 0 ≤ x → x.tmod n = x % n := fun x hx => Int.tmod_eq_emod_of_nonneg hx
  have hb : ∀ x : Int, 0 ≤ x % n ∧ x % n < n := fun x => ⟨Int.emod_nonneg _ (by omega), Int.emod_lt_of_pos _ hn⟩
  by_cases h : c < 0
  · have e1 : pickL c n = (-(c + 1)) % n := by unfold pickL; rw [if_pos h]
    obtain ⟨x, hx⟩ : ∃ x, x = -(c + 1) := ⟨_, rfl⟩
    rw [← hx] at e1
    have w1 : wrap64 (c + 1) = c + 1 := IntWalk.wrap64_in _ (by omega)
    have w2 : wrap64 (-(c + 1)) = x := by rw [hx]; exact IntWalk.wrap64_in _ (by omega)
    have hx0 : 0 ≤ x := by omega
    have hrx := hr x hx0
    have hbx := hb x
    have w3 : wrap64 (x % n) = x % n := IntWalk.wrap64_in _ (by omega)
    have hnz : ¬ n = 0 := by omega
    replace e1 := Lib.hid e1; replace hx := Lib.hid hx
    clear hr hb
    go_enter Tryz.func16, Tryz.ntmps16
    go_wp2_with fail
    go_ret
    exact ⟨by rw [e1.out, ← hrx, hx.out, Int.neg_tmod]; rfl, rfl⟩
  · have e1 : pickL c n = c % n := by unfold pickL; rw [if_neg h]
    have hrx := hr c (by omega)
    have hbx := hb c
    have w3 : wrap64 (c % n) = c % n := IntWalk.wrap64_in _ (by omega)
    have hnz : ¬ n = 0 := by omega
    have h0 : 0 ≤ c := by omega
    replace e1 := Lib.hid e1
    clear hr hb h
    go_enter Tryz.func16, Tryz.ntmps16
    go_wp2_with fail
    go_ret
    exact ⟨by rw [e1.out]; first | rfl | simp [hrx, w3], rfl⟩
theorem pickL_in (c n : Int) (hn : 0 < n) : 0 ≤ pickL c n ∧ pickL c n < n := by
  unfold pickL
  exact ⟨Int.emod_nonneg _ (by omega), Int.emod_lt_of_pos _ hn⟩
set_option maxHeartbeats 1000000 in
set_option maxRecDepth 100000 in
/-- Mouse, where no mode asks for it. -/
theorem mouse_off (k : Ms) (w : World) : Calls Tryz.prog 19 #[msV k, .int .i64 0] w fun e w' => e = .returned (.slice none 0 0) ∧ w.grownBy w' none := by
  obtain ⟨c, m, b, x, y⟩ := k
  have hb : bits .and .i64 0 128 = 0 := by decide
  have hR0 := MC.new w ⟨c, m, b, x, y⟩
  obtain ⟨x0, x1, x2, x3, x4, _⟩ := hR0.cells
  dsimp only at x0 x1 x2 x3 x4
  unfold msV
  dsimp only
  go_enter Tryz.func19, Tryz.ntmps19
  go_wp2_with fail
  go_ret
  exact ⟨rfl, World.grownBy_alloc _ _ _⟩
set_option maxRecDepth 100000 in
theorem right_mouse_all : ((List.range 5).all fun i => (List.range 8).all fun j => rightK (1114136 + (i : Int)) (j : Int)) = true := by kernel_rfl
theorem right_mouse (c m : Int) (hc : 1114136 ≤ c ∧ c ≤ 1114140) (hm : 0 ≤ m ∧ m ≤ 7) : rightK c m = true := by
  have h := List.all_eq_true.1 right_mouse_all (c - 1114136).toNat (List.mem_range.2 (by omega))
  have h2 := List.all_eq_true.1 h m.toNat (List.mem_range.2 (by omega))
  rw [show 1114136 + ((c - 1114136).toNat : Int) = c by omega, show ((m.toNat : Nat) : Int) = m by omega] at h2
  exact h2
theorem mouseOut_on (k : Ms) (h : MouseOk k) : mouseOut k 128 = mouseL k := by
  unfold mouseOut
  have hm : isMouse k.c = true := by
    have := h.c
    unfold isMouse; simp; omega
  rw [if_neg]
  · have hb := h.b
    split
    · rfl
    · rename_i hc
      have h1 := h.c
      rw [if_neg (by omega)] at hb
      rw [if_neg (by omega)]
  · rintro (h' | h' | h' | h' | h')
    · exact absurd h' (by decide)
    · rw [right_mouse k.c k.m h.c h.m] at h'; cases h'
    · rw [hm] at h'; cases h'
    · have := h.x; have := h.y; omega
    · have := h.x; have := h.y; omega
theorem mouseL_asc (k : Ms) (h : MouseOk k) : (∀ c ∈ mouseL k, c.toNat < 128) ∧ (mouseL k).length ≤ 100 ∧ 1 ≤ (mouseL k).length ∧ ∀ j : Nat, (mouseL k)[j]? = some (27 : UInt8) → j = 0 := by
  obtain ⟨q, hq, hl, hp, _⟩ := mouseL_form k h
  have hz : mouseZ k.c = 77 ∨ mouseZ k.c = 109 := by unfold mouseZ; split <;> simp
  have hpar : ∀ c ∈ 60 :: q, 48 ≤ c.toNat ∧ c.toNat ≤ 63 := fun c hc => by
    have := hp c hc
    unfold parB at this
    simp only [Bool.and_eq_true, decide_eq_true_eq] at this
    exact this
  rw [hq]
  refine ⟨fun c hc => ?_, by simp; omega, by simp, fun j hj => ?_⟩
  · simp only [List.mem_cons, List.mem_append, List.cons_append, List.not_mem_nil, or_false] at hc
    rcases hc with rfl | rfl | rfl | hc | rfl
    · decide
    · decide
    · decide
    · have := hpar c (List.mem_cons_of_mem _ hc); omega
    · rcases hz with h | h <;> rw [h] <;> decide
  · match j, hj with
    | 0, _ => rfl
    | 1, hj => simp at hj
    | j + 2, hj =>
      exfalso
      rw [List.getElem?_cons_succ, List.getElem?_cons_succ] at hj
      have hm := List.mem_of_getElem? hj
      rw [List.mem_append] at hm
      rcases hm with hm | hm
      · have := hpar 27 hm; simp at this
      · simp at hm
        rcases hz with h | h <;> rw [h] at hm <;> simp at hm
theorem brK_mouse (k : Ms) (h : MouseOk k) : ∃ q z, mouseL k = 27 :: 91 :: ((60 :: q) ++ [z]) ∧ brK (mouseL k) = q.length + 3 ∧ q.length ≤ 14 := by
  obtain ⟨q, hq, hl, hp, _⟩ := mouseL_form k h
  refine ⟨q, mouseZ k.c, hq, ?_, hl⟩
  have hz : parB (mouseZ k.c) = false := by unfold mouseZ; split <;> decide
  rw [hq]
  unfold brK
  show 2 + ((((60 :: q) ++ [mouseZ k.c]).take 31).takeWhile parB).length = _
  rw [List.take_of_length_le (by simp; omega), tw_all parB _ _ hp]
  simp [hz]
  omega
theorem seqAt_mouse (k : Ms) (h : MouseOk k) : SeqAt (mouseL k) := by
  obtain ⟨q, z, hq, hk, hl⟩ := brK_mouse k h
  intro z' hz' _ _ W hW
  rw [hk] at hz' ⊢
  have e1 : ((mouseL k).take (q.length + 3)).drop 2 = 60 :: q := by
    rw [hq, show q.length + 3 = q.length + 1 + 1 + 1 from rfl, List.take_succ_cons, List.take_succ_cons]
    have : ((60 :: q) ++ [z]).take (q.length + 1) = 60 :: q := by
      rw [List.take_append_of_le_length (by simp), List.take_of_length_le (by simp)]
    rw [this]; rfl
  rw [e1]
  exact sequence_lt q z' (by omega) (fun l hl => listedL_bound l hl) W hW
theorem took_mouse (k : Ms) (h : MouseOk k) : Took (frF false) ([] ++ mouseL k) [k] [] := by
  obtain ⟨q, z, hq, _⟩ := brK_mouse k h
  have hf : frF false (mouseL k) = (k, 2, (mouseL k).length) := by
    have hb := bracket_mouse k h
    unfold frF
    rw [if_pos (by rw [hq]; rfl), if_pos (by rw [hq]; rfl)]
    exact hb
  have hne : mouseL k ≠ [] := by rw [hq]; simp
  have := Took.is (F := frF false) (mouseL k) [] [] hne (by rw [hf]) (by rw [hf]; exact List.length_pos_iff.2 hne) (by rw [hf]; exact Nat.le_refl _) (by rw [hf]; simp only [List.drop_length]; exact .nil)
  rw [hf] at this
  exact this
theorem frontAt_mouse (k : Ms) (h : MouseOk k) : FrontAt (frF false) false ([] ++ mouseL k) := by
  obtain ⟨h1, h2, h3, h4⟩ := mouseL_asc k h
  obtain ⟨q, z, hq, _⟩ := brK_mouse k h
  refine frontAt_F false (mouseL k) (by omega) h1 fun j hj => ?_
  have hj0 : j = 0 := h4 j (by rw [← hj, List.getElem?_drop, Nat.add_zero])
  subst hj0
  right
  exact ⟨by rw [hq]; rfl, seqAt_mouse k h⟩
end Go.Proofs.YtncokbppijnfiaaGreatDoor
