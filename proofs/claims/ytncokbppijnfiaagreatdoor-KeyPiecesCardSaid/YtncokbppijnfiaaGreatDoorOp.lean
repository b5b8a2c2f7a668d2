/- Key: a slice of ints among the arguments, opened. -/
import Derived.Test.YtncokbppijnfiaaGreatDoorW1
import Derived.OpenShut
import Derived.ChangeOld
import Derived.ChangeSlices
namespace Go.Proofs.YtncokbppijnfiaaGreatDoor
open Go.RowKit Go.ChangeShapes Go.WideShapes
set_option linter.unusedSimpArgs false
set_option linter.unusedVariables false

theorem rd_add {w : World} {a : Addr} {xs : List Value} (h : ∀ i u, xs[i]? = some u → w.cell? (a.add i) = some u) : Rd w (some a) xs := fun hx => by
  obtain ⟨x, l, rfl⟩ := List.exists_cons_of_ne_nil hx
  have h0 := h 0 x rfl
  have e0 : a.add 0 = a := by simp [Addr.add]
  rw [e0] at h0
  have hb := World.block_lt_of_cell? w a h0
  obtain ⟨b, off, sp⟩ := a
  have hsp : sp = none := by
    rcases sp with _ | s
    · rfl
    · unfold World.cell? at h0
      split at h0 <;> simp at h0
  subst hsp
  refine ⟨b, off, rfl, hb, fun j u hj => ?_⟩
  have := h j u hj
  rwa [Addr.add_lit] at this
theorem ints_in {H : Type} {enc : TypeId × Value → H} {P : Program} {w : World} {base : Nat} {spare : Nat → Bool} {held : Bool} {t e : TypeId} {k : IntKind} {fuel : Nat} {A : Option Addr} {n c : Nat} {x : DataW H × List MemPlace} (ht : P.underlying t = some (.slice e)) (he : P.underlying e = some (.int k)) (hc : P.cellsOf e = 1)
    (h : DataW.trod enc P w base spare held fuel t [.slice A n c] = some x) :
    ∃ zs : List Int, n = zs.length ∧ Rd w A (zs.map (.int k)) ∧ (∀ z ∈ zs, (Lit.int k z).wf = true) ∧ n ≤ c ∧ n ≤ maxLen := by
  rcases open_ints ht he hc h with ⟨hcs, rfl⟩ | ⟨a, len, cap, ss, hcs, _, hl, hm, hz, rfl, hcell, hwf⟩
  · simp only [List.cons.injEq, and_true, Value.slice.injEq] at hcs
    obtain ⟨rfl, rfl, rfl⟩ := hcs
    exact ⟨[], rfl, Rd.nil _ _, by simp, Nat.le_refl _, Nat.zero_le _⟩
  · simp only [List.cons.injEq, and_true, Value.slice.injEq] at hcs
    obtain ⟨rfl, rfl, rfl⟩ := hcs
    have hlen : n ≤ ss.length := by rw [hz]; split <;> omega
    have hn : (ss.take n).length = n := by rw [List.length_take]; omega
    refine ⟨ss.take n, hn.symm, rd_add fun i u hu => ?_, fun s hs => hwf s (List.mem_of_mem_take hs), hl, Nat.le_trans hl hm⟩
    have hi : i < n := by
      have := (List.getElem?_eq_some_iff.1 hu).1
      simp at this; omega
    rw [hcell i (by omega)]
    rw [List.getElem?_map, List.getElem?_take, if_pos hi] at hu
    rw [List.getD_eq_getElem?_getD]
    have hi2 : i < ss.length := by omega
    rw [List.getElem?_eq_getElem hi2] at hu ⊢
    simpa using hu
end Go.Proofs.YtncokbppijnfiaaGreatDoor
