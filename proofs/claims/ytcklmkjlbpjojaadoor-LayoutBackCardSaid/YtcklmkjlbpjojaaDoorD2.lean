/- Layout: Insert of one kid. -/
import Derived.Test.YtcklmkjlbpjojaaDoorD1
import Derived.Test.YtcklmkjlbpjojaaDoorC2
import Derived.Shelf.Spec.SlicesInsertGrow
import Derived.Deep.RegionLaw
namespace Go.Proofs.YtcklmkjlbpjojaaDoor
open Go.RowKit Go.Lib
set_option linter.unusedSimpArgs false
set_option linter.unusedVariables false

theorem heap_setCells {g : Nat} {e : TypeId} : ∀ (vs : List Value) (o : Nat) (w : World) (c : List Value), w.heap[g]? = some (.cells c.toArray e (0, 0)) → o + vs.length ≤ c.length →
    (w.setCells g o vs).heap[g]? = some (.cells (c.take o ++ vs ++ c.drop (o + vs.length)).toArray e (0, 0))
  | [], o, w, c, h, _ => by simpa [World.setCells] using h
  | v :: vs, o, w, c, h, hl => by
    simp only [List.length_cons] at hl
    have h1 := heap_set (j := o) h v
    rw [List.setIfInBounds_toArray] at h1
    have h2 := heap_setCells vs (o + 1) (w.setCell ⟨g, o, none⟩ v) (c.set o v) h1 (by rw [List.length_set]; omega)
    rw [World.setCells, h2]
    congr 3
    rw [List.take_succ_eq_append_getElem (by rw [List.length_set]; omega)]
    simp only [List.getElem_set_self, List.length_cons]
    rw [List.take_set_of_le (Nat.le_refl _), List.drop_set_of_lt (by omega)]
    simp only [List.append_assoc, List.cons_append, List.nil_append]
    rw [show o + 1 + vs.length = o + (vs.length + 1) by omega]
theorem Off.setCells {g : Nat} : ∀ (vs : List Value) (o : Nat) (w : World), Off [g] w (w.setCells g o vs)
  | [], o, w => Off.refl _ _
  | v :: vs, o, w => by
    rw [World.setCells]
    exact (Off.set w ⟨g, o, none⟩ v).trans (Off.setCells vs (o + 1) _) (by simp)

/-- What one kid more leaves. -/
def InsPost (base : Nat) (w : World) (A : Option Nat) (l : List T) (i g : Nat) (e : Ending) (w' : World) : Prop :=
  ∃ A' c', e = .returned (.slice (adr A') (l.length + 1) c') ∧ w'.ownsRow base 55 1 (.slice (adr A') (l.length + 1) c') (l.length + 1) (ptrs (l.take i) ++ ptr g :: ptrs (l.drop i)) ∧ Off A.toList w w' ∧ (A' = A ∨ ∃ b, A' = some b ∧ w.heap.size ≤ b)

theorem sizeOf55 : ∀ w, (Go.sizeOf 55).run Tryd.prog w = .ok 1 w := fun w => by
  obtain ⟨i0, hi0, h0, h1, h2⟩ := info_parts info55
  simp [Go.sizeOf, typeInfo, hi0, h1]

set_option maxHeartbeats 4000000 in
set_option maxRecDepth 100000 in
theorem insert_shift (base : Nat) (b n c i vb g : Nat) (l : List T) (w : World) (hn : n = l.length) (hi : i < n) (hroom : n + 1 ≤ c) (hO : w.ownsRow base 55 1 (.slice (some ⟨b, 0, none⟩) n c) n (ptrs l))
    (hv : w.heap[vb]? = some (.cells #[ptr g] 55 (0, 0))) (hvb : vb ≠ b) :
    Calls Tryd.prog 35 #[.slice (some ⟨b, 0, none⟩) n c, .int .i64 i, .slice (some ⟨vb, 0, none⟩) 1 1] w (InsPost base w (some b) l i g) := by
  obtain ⟨cur, hbase, hh, hnc, hcm, hcs, htk⟩ : ∃ cur : Array Value, base ≤ b ∧ w.heap[b]? = some (.cells cur 55 (0, 0)) ∧ n ≤ c ∧ c ≤ maxLen ∧ cur.size = c ∧ cur.toList.take n = ptrs l := by
    rcases hO.2 with ⟨h, _⟩ | ⟨g', cap, cur, h, h1, h2, h3, h4, h5, h6⟩
    · cases h
    · injection h with h7 _ h8
      injection h7 with h7; injection h7 with h7
      subst h7; subst h8
      exact ⟨cur, h1, h2, h3, h4, by omega, by simpa using h6⟩
  have hcl : cur.toList.length = c := by simpa using hcs
  have hcell : ∀ j, j < c → ∃ v, w.cell? ⟨b, j, none⟩ = some v := fun j hj => by
    refine ⟨cur[j]'(by omega), ?_⟩
    unfold World.cell?; rw [hh]; simp
  have hcellp : ∀ j v, (ptrs l)[j]? = some v → w.cell? ⟨b, j, none⟩ = some v := fun j v hj => by
    have := hO.cells (g := b) rfl j v hj
    rwa [Addr.add_lit, Nat.zero_add] at this
  have hfz : ∀ j, w.frozen? ⟨b, j, none⟩ = false := fun j => by unfold World.frozen?; rw [hh]; simp
  have hov : ∀ lb cb, (callFunc 59 #[.slice (some ⟨vb, 0, none⟩) 1 1, .slice (some ⟨b, i + 1, none⟩) lb cb]).run Tryd.prog w = .ok (.value (.bool false)) w := fun lb cb => by
    rw [run_callFunc_extern Tryd.func59 (by kernel_rfl) (by kernel_rfl) (by kernel_rfl) (e := Extern.SlicesOverlaps.overlaps #[53, 53] #[4]) (by kernel_rfl),
      Lib.run_overlaps_apart w 53 4 55 Tryd.underlying53 1 sizeOf55 ⟨vb, 0, none⟩ ⟨b, i + 1, none⟩ 1 1 lb cb hvb 55 55 1 c (by unfold World.shape?; rw [hv]; rfl) (by unfold World.shape?; rw [hh]; simp [hcs]) (by omega)
        (by unfold World.frozen?; rw [hv]; rfl) (by unfold World.frozen?; rw [hv]; rfl)]
    rfl
  have hpl : (ptrs l).length = n := by rw [ptrs_len, hn]
  have hdl : ((ptrs l).drop i).length = n - i := by rw [List.length_drop, hpl]
  have hsz : (Tryd.prog.info? 55).map (·.size) = some 1 := by
    obtain ⟨i0, hi0, h0, h1, h2⟩ := info_parts info55
    rw [hi0]; simp [h1]
  have hcp1 : ∀ ty dc sc, (Builtin.copy_ #[53, 53] ty #[.slice (some ⟨b, i + 1, none⟩) (n - i) dc, .slice (some ⟨b, i, none⟩) (n + 1 - i) sc]).run Tryd.prog w.drew = .ok (goInt ((ptrs l).drop i).length) (w.drew.setCells b (i + 1) ((ptrs l).drop i)) := fun ty dc sc =>
    run_copy_cells w.drew _ _ ty 55 b (i + 1) (n - i) dc ⟨b, i, none⟩ (n + 1 - i) sc ((ptrs l).drop i) Tryd.underlying53 hsz (by rw [hdl]; simp only [Nat.min_def]; split <;> omega)
      (fun j v hj => by rw [Addr.add_lit]; exact hcellp (i + j) v (by rwa [List.getElem?_drop] at hj))
      (fun j hj => by obtain ⟨v, hv⟩ := hcell (i + 1 + j) (by omega); show (w.cell? _).isSome = true; rw [hv]; rfl) (fun j hj => hfz _) (fun v hv => ptrs_one l v (List.mem_of_mem_drop hv))
  obtain ⟨W1, hW1⟩ : ∃ W1, W1 = w.drew.setCells b (i + 1) ((ptrs l).drop i) := ⟨_, rfl⟩
  have hsp1 : ∀ k, k < n + 1 → (W1.cell? ⟨b, k, none⟩).isSome = true := fun k hk => by
    rw [hW1]
    exact isSome_setCells b _ _ _ (fun j hj => by obtain ⟨v, hv⟩ := hcell (i + 1 + j) (by omega); show (w.cell? _).isSome = true; rw [hv]; rfl) _ (by obtain ⟨v, hv⟩ := hcell k (by omega); show (w.cell? _).isSome = true; rw [hv]; rfl)
  have hcp2 : ∀ (W : World), (∀ x, W.cell? x = W1.cell? x) → (∀ x, W.frozen? x = W1.frozen? x) → ∀ ty dc, (Builtin.copy_ #[53, 53] ty #[.slice (some ⟨b, i, none⟩) (n + 1 - i) dc, .slice (some ⟨vb, 0, none⟩) 1 1]).run Tryd.prog W = .ok (goInt [ptr g].length) (W.setCells b i [ptr g]) := fun W hWc hWf ty dc =>
    run_copy_cells W _ _ ty 55 b i (n + 1 - i) dc ⟨vb, 0, none⟩ 1 1 [ptr g] Tryd.underlying53 hsz (by simp only [List.length_singleton, Nat.min_def]; split <;> omega)
      (fun j v hj => by
        rw [Addr.add_lit, hWc, hW1, World.cell?_setCells_out b _ _ _ _ (fun h _ => absurd h hvb)]
        show w.cell? _ = _
        rcases j with _ | j
        · unfold World.cell?; rw [hv]; simpa using hj
        · simp at hj)
      (fun j hj => by rw [hWc]; simp at hj; exact hsp1 _ (by omega)) (fun j hj => by rw [hWf, hW1, World.frozen?_setCells]; exact hfz _) (fun v hv => by simp at hv; subst hv; rfl)
  rw [← hW1] at hcp1
  have hW := hW1
  have hb1 : (0 : Int) ≤ (i : Int) + 1 := by omega
  have hw1 : IntKind.i64.wrap ((i : Int) + 1) = (i : Int) + 1 := by have : maxLen = 9223372036854775807 := rfl; rw [IntKind.wrap_i64]; omega
  have hz2 : ¬ ((i : Int) = (n : Int)) := by omega
  have hin : i ≤ n := by omega
  have htn : ((i : Int) + 1).toNat = i + 1 := by omega
  have hb2 : ¬ (c = i + 1) := by omega
  have hb3 : (i : Int) ≤ (n : Int) + 1 := by omega
  have hb4 : ¬ (c = i) := by omega
  have hc63 : c ≤ 9223372036854775807 := hcm
  have hnr : ¬ ((c : Int) < (n : Int) + 1) := by omega
  replace hW := Lib.hid hW; replace hh := Lib.hid hh; replace hO := Lib.hid hO; replace htk := Lib.hid htk; replace hcs := Lib.hid hcs; replace hv := Lib.hid hv; replace hn := Lib.hid hn; replace hcell := Lib.hid hcell; replace hcellp := Lib.hid hcellp; replace hsp1 := Lib.hid hsp1
  clear hW1
  have hu53 := run_underlying Tryd.underlying53 (w := w)
  go_enter Tryd.func35, Tryd.ntmps35
  go_wp2_with (simp only [hov])
  go_still_tail 8, (by kernel_rfl)
  change wpList _ _ _ _ _ w.drew
  go_wp2_with (first
    | (at_builtin; go_must (refine wpList_copy_runI _ rfl _ _ 53 53 rfl _ _ rfl rfl (hcp1 _ _ _) ?_))
    | (at_builtin; go_must (refine wpList_copy_runI _ rfl _ _ 53 53 rfl _ _ rfl rfl (hcp2 _ (fun _ => rfl) (fun _ => rfl) _ _) ?_))
    | fail)
  go_ret
  have h1 : (w.drew).heap[b]? = some (.cells cur.toList.toArray 55 (0, 0)) := by show w.heap[b]? = _; simpa using hh.out
  have hcl2 : cur.toList.length = c := by simpa using hcs.out
  have h2 := heap_setCells ((ptrs l).drop i) (i + 1) w.drew cur.toList h1 (by rw [hdl]; omega)
  rw [← hW.out] at h2
  obtain ⟨L2, hL2⟩ : ∃ L2, L2 = cur.toList.take (i + 1) ++ (ptrs l).drop i ++ cur.toList.drop (i + 1 + ((ptrs l).drop i).length) := ⟨_, rfl⟩
  have hl2 : L2.length = c := by
    have a1 : (cur.toList.take (i + 1)).length = i + 1 := by rw [List.length_take]; omega
    have a2 : (cur.toList.drop (i + 1 + ((ptrs l).drop i).length)).length = c - (n + 1) := by rw [List.length_drop, hdl]; omega
    rw [hL2, List.length_append, List.length_append, a1, a2, hdl]; omega
  rw [← hL2] at h2
  have h3 := heap_setCells [ptr g] i W1 L2 h2 (by simp; omega)
  have htk2 := htk.out
  refine ⟨some b, c, by rw [← hn.out]; rfl, ⟨by have := hn.out; simp [ptrs_len]; omega, .inr ⟨b, c, _, by rw [← hn.out]; rfl, hbase, h3, by have := hn.out; omega, hcm, ?_, ?_⟩⟩, ?_, .inl rfl⟩
  · have a1 : (L2.take i).length = i := by rw [List.length_take]; omega
    have a2 : (L2.drop (i + [ptr g].length)).length = c - (i + 1) := by rw [List.length_drop, hl2]; simp
    rw [List.size_toArray, List.length_append, List.length_append, a1, a2]; simp; omega
  · have e1 : cur.toList.take i = (ptrs l).take i := by rw [← htk2, List.take_take, Nat.min_eq_left (by omega)]
    have e2 : L2.take i = (ptrs l).take i := by
      rw [hL2]
      rw [List.append_assoc, List.take_append_of_le_length (by rw [List.length_take]; omega), List.take_take, Nat.min_eq_left (by omega), e1]
    have e3 : L2.drop (i + 1) = (ptrs l).drop i ++ cur.toList.drop (i + 1 + ((ptrs l).drop i).length) := by
      rw [hL2]
      have : (cur.toList.take (i + 1)).length = i + 1 := by rw [List.length_take]; omega
      rw [List.append_assoc, List.drop_append_of_le_length (by omega), List.drop_of_length_le (by omega), List.nil_append]
    simp only [List.length_singleton]
    rw [e2, e3, Nat.mul_one, ← hn.out]
    have e4 : ((ptrs l).take i ++ [ptr g] ++ ((ptrs l).drop i ++ cur.toList.drop (i + 1 + ((ptrs l).drop i).length))).take (n + 1) = (ptrs l).take i ++ [ptr g] ++ (ptrs l).drop i := by
      rw [← List.append_assoc]
      have : ((ptrs l).take i ++ [ptr g] ++ (ptrs l).drop i).length = n + 1 := by simp only [List.length_append, List.length_take, hdl, hpl, List.length_singleton]; omega
      rw [List.take_append_of_le_length (by omega), List.take_of_length_le (by omega)]
    rw [e4]
    simp [ptrs, List.map_take, List.map_drop]
  · have o1 : Off [b] w W1 := by
      rw [hW.out]
      exact (Off.drew (S := [b]) w).trans (Off.setCells _ _ _) (by simp)
    exact o1.trans (Off.setCells [ptr g] i W1) (by simp)
end Go.Proofs.YtcklmkjlbpjojaaDoor
