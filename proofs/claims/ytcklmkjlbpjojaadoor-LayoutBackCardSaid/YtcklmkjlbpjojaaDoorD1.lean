/- Layout: Index, split (a new node of one kid), put. -/
import Derived.Test.YtcklmkjlbpjojaaDoorC3
import Derived.LaidEqlPtr
namespace Go.Proofs.YtcklmkjlbpjojaaDoor
open Go.RowKit
set_option linter.unusedSimpArgs false
set_option linter.unusedVariables false

theorem ptr_inj {a b : Nat} (h : ptr a = ptr b) : a = b := by
  unfold ptr at h
  injection h with h; injection h with h; injection h

theorem info58 : (Tryd.prog.info? 58).map (fun i => (i.size)) = some 8 := by kernel_rfl
/-- A block that is one of cells. -/
def IsC (w : World) (g : Nat) : Prop := ∃ c t, w.heap[g]? = some (.cells c t (0, 0))
theorem eq_same (g : Nat) (w : World) : Sem.run Tryd.prog (binOp .eql 55 (.pointer (some ⟨g, 0, none⟩)) (.pointer (some ⟨g, 0, none⟩))) w = .ok (.bool true) w := by
  have h := info58
  cases hi : Tryd.prog.info? 58 with
  | none => rw [hi] at h; cases h
  | some j => exact run_eql_ptr_same w ⟨g, 0, none⟩ Tryd.underlying55 hi
theorem eq_other {a b : Nat} (w : World) (hne : a ≠ b) (ha : IsC w a) (hb : IsC w b) : Sem.run Tryd.prog (binOp .eql 55 (.pointer (some ⟨a, 0, none⟩)) (.pointer (some ⟨b, 0, none⟩))) w = .ok (.bool false) w := by
  have h := info58
  cases hi : Tryd.prog.info? 58 with
  | none => rw [hi] at h; cases h
  | some j =>
    rw [hi] at h
    obtain ⟨c1, t1, h1⟩ := ha
    obtain ⟨c2, t2, h2⟩ := hb
    exact run_eql_ptr_other (a := ⟨a, 0, none⟩) (b := ⟨b, 0, none⟩) w Tryd.underlying55 hi (by simp at h; omega) (by intro e; injection e; contradiction) h1 h2
set_option maxHeartbeats 400000 in
set_option maxRecDepth 100000 in
theorem index_any (A : Option Addr) (len c g j : Nat) (l : List T) (k : T) (w : World) (hn : len = l.length) (hb : len ≤ 9223372036854775807) (hR : Rd w A (ptrs l)) (hk : l[j]? = some k) (hg : k.g = g) (hne : ∀ s ∈ l.take j, s.g ≠ g) (hC : ∀ s ∈ l, IsC w s.g) :
    Calls Tryd.prog 34 #[.slice A len c, ptr g] w fun e w' => e = .returned (.int .i64 j) ∧ w' = w := by
  have hjl : j < len := by rw [hn]; exact (List.getElem?_eq_some_iff.1 hk).1
  replace hn := Lib.hid hn; replace hR := Lib.hid hR; replace hk := Lib.hid hk; replace hne := Lib.hid hne; replace hg := Lib.hid hg; replace hC := Lib.hid hC
  unfold ptr
  go_enter Tryd.func34, Tryd.ntmps34
  go_wp2_with fail
  go_loopw [8] (fun iv wr => ∃ i : Nat, i ≤ j ∧ iv = .int .i64 i ∧ wr = w) (fun iv _ => len - (intOf iv).toNat)
  case atStart => exact ⟨0, Nat.zero_le _, rfl, rfl⟩
  case round =>
    obtain ⟨i, hi, rfl, rfl⟩ := hrel
    have hlt : i < len := by omega
    obtain ⟨s, hs⟩ : ∃ s, l[i]? = some s := ⟨l[i]'(by rw [← hn.out]; exact hlt), List.getElem?_eq_getElem _⟩
    obtain ⟨b, off, rfl, _, hcell⟩ := hR.out.at_ (j := i) (u := ptr s.g) (by simp [ptrs, hs])
    unfold ptr at hcell
    by_cases hij : i = j
    · subst hij
      have hsg : s.g = g := by
        have := hk.out; rw [hs] at this; injection this with this; subst this; exact hg.out
      rw [hsg] at hcell
      have he := eq_same g wr
      replace hs := Lib.hid hs
      go_wp2_with fail
      go_ret
      exact ⟨rfl, rfl⟩
    · have hsg : s.g ≠ g := hne.out s (by
        rw [List.mem_take_iff_getElem]
        obtain ⟨h1, h2⟩ := List.getElem?_eq_some_iff.1 hs
        exact ⟨i, by omega, h2⟩)
      have he := eq_other (a := g) (b := s.g) wr (fun e => hsg e.symm) (by have := hC.out k (List.mem_of_getElem? hk.out); rwa [hg.out] at this) (hC.out s (List.mem_of_getElem? hs))
      replace hs := Lib.hid hs
      go_wp2_with fail
      exact ⟨⟨i + 1, by omega, by go_num, trivial⟩, by simp [intOf]; omega⟩
end Go.Proofs.YtcklmkjlbpjojaaDoor
