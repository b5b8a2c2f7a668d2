/- Layout: Index, split (a new node of one kid), put. Layout: Insert of one kid. Layout: Insert at the end; Insert into a new row. -/
import Derived.Test.YtcklmkjlbpjojaaDoorC5
import Derived.LaidEqlPtr
import Derived.Test.YtcklmkjlbpjojaaDoorC4
import Derived.Shelf.Spec.SlicesInsertGrow
import Derived.Deep.RegionLaw
namespace Go.Proofs.YtcklmkjlbpjojaaDoor
open Go.RowKit
set_option linter.unusedSimpArgs false
set_option linter.unusedVariables false

theorem ptr_inj {a b : Nat} (h : ptr a = ptr b) : a = b := by
  unfold ptr at h
  injection h with h; injection h with h; injection h

theorem info58 : (Tryd.prog.info? 58).map (fun i => (i.size)) = some 8 := by kernel_rfl
/-- A block that is one of cells. -/
def IsC (w : World) (g : Nat) : Prop := ∃ c t, w.heap[g]? = some (.cells c t (0, 0))
theorem eq_same (g : Nat) (w : World) : Sem.run Tryd.prog (binOp .eql 55 (.pointer (some ⟨g, 0, none⟩)) (.pointer (some ⟨g, 0, none⟩))) w = .ok (.bool true) w := by
  have h := info58
  cases hi : Tryd.prog.info? 58 with
  | none => rw [hi] at h; cases h
  | some j => exact run_eql_ptr_same w ⟨g, 0, none⟩ Tryd.underlying55 hi
theorem eq_other {a b : Nat} (w : World) (hne : a ≠ b) (ha : IsC w a) (hb : IsC w b) : Sem.run Tryd.prog (binOp .eql 55 (.pointer (some ⟨a, 0, none⟩)) (.pointer (some ⟨b, 0, none⟩))) w = .ok (.bool false) w := by
  have h := info58
  cases hi : Tryd.prog.info? 58 with
  | none => rw [hi] at h; cases h
  | some j =>
    rw [hi] at h
    obtain ⟨c1, t1, h1⟩ := ha
    obtain ⟨c2, t2, h2⟩ := hb
    exact run_eql_ptr_other (a := ⟨a, 0, none⟩) (b := ⟨b, 0, none⟩) w Tryd.underlying55 hi (by simp at h; omega) (by intro e; injection e; contradiction) h1 h2
set_option maxHeartbeats 400000 in
set_option maxRecDepth 100000 in
theorem index_any (A : Option Addr) (len c g j : Nat) (l : List T) (k : T) (w : World) (hn : len = l.length) (hb : len ≤ 9223372036854775807) (hR : Rd w A (ptrs l)) (hk : l[j]? = some k) (hg : k.g = g) (hne : ∀ s ∈ l.take j, s.g ≠ g) (hC : ∀ s ∈ l, IsC w s.g) :
    Calls Tryd.prog 34 #[.slice A len c, ptr g] w fun e w' => e = .returned (.int .i64 j) ∧ w' = w := by
  have hjl : j < len := by rw [hn]; exact (List.getElem?_eq_some_iff.1 hk).1
  replace hn := Lib.hid hn; replace hR := Lib.hid hR; replace hk := Lib.hid hk; replace hne := Lib.hid hne; replace hg := Lib.hid hg; replace hC := Lib.hid hC
  unfold ptr
  go_enter Tryd.func34, Tryd.ntmps34
  go_wp2_with fail
  go_loopw [8] (fun iv wr => ∃ i : Nat, i ≤ j ∧ iv = .int .i64 i ∧ wr = w) (fun iv _ => len - (intOf iv).toNat)
  case atStart => exact ⟨0, Nat.zero_le _, rfl, rfl⟩
  case round =>
    obtain ⟨i, hi, rfl, rfl⟩ := hrel
    have hlt : i < len := by omega
    obtain ⟨s, hs⟩ : ∃ s, l[i]? = some s := ⟨l[i]'(by rw [← hn.out]; exact hlt), List.getElem?_eq_getElem _⟩
    obtain ⟨b, off, rfl, _, hcell⟩ := hR.out.at_ (j := i) (u := ptr s.g) (by simp [ptrs, hs])
    unfold ptr at hcell
    by_cases hij : i = j
    · subst hij
      have hsg : s.g = g := by
        have := hk.out; rw [hs] at this; injection this with this; subst this; exact hg.out
      rw [hsg] at hcell
      have he := eq_same g wr
      replace hs := Lib.hid hs
      go_wp2_with fail
      go_ret
      exact ⟨rfl, rfl⟩
    · have hsg : s.g ≠ g := hne.out s (by
        rw [List.mem_take_iff_getElem]
        obtain ⟨h1, h2⟩ := List.getElem?_eq_some_iff.1 hs
        exact ⟨i, by omega, h2⟩)
      have he := eq_other (a := g) (b := s.g) wr (fun e => hsg e.symm) (by have := hC.out k (List.mem_of_getElem? hk.out); rwa [hg.out] at this) (hC.out s (List.mem_of_getElem? hs))
      replace hs := Lib.hid hs
      go_wp2_with fail
      exact ⟨⟨i + 1, by omega, by go_num, trivial⟩, by simp [intOf]; omega⟩
end Go.Proofs.YtcklmkjlbpjojaaDoor
namespace Go.Proofs.YtcklmkjlbpjojaaDoor
open Go.RowKit Go.Lib
set_option linter.unusedSimpArgs false
set_option linter.unusedVariables false

theorem heap_setCells {g : Nat} {e : TypeId} : ∀ (vs : List Value) (o : Nat) (w : World) (c : List Value), w.heap[g]? = some (.cells c.toArray e (0, 0)) → o + vs.length ≤ c.length →
    (w.setCells g o vs).heap[g]? = some (.cells (c.take o ++ vs ++ c.drop (o + vs.length)).toArray e (0, 0))
  | [], o, w, c, h, _ => by simpa [World.setCells] using h
  | v :: vs, o, w, c, h, hl => by
    simp only [List.length_cons] at hl
    have h1 := heap_set (j := o) h v
    rw [List.setIfInBounds_toArray] at h1
    have h2 := heap_setCells vs (o + 1) (w.setCell ⟨g, o, none⟩ v) (c.set o v) h1 (by rw [List.length_set]; omega)
    rw [World.setCells, h2]
    congr 3
    rw [List.take_succ_eq_append_getElem (by rw [List.length_set]; omega)]
    simp only [List.getElem_set_self, List.length_cons]
    rw [List.take_set_of_le (Nat.le_refl _), List.drop_set_of_lt (by omega)]
    simp only [List.append_assoc, List.cons_append, List.nil_append]
    rw [show o + 1 + vs.length = o + (vs.length + 1) by omega]
theorem Off.setCells {g : Nat} : ∀ (vs : List Value) (o : Nat) (w : World), Off [g] w (w.setCells g o vs)
  | [], o, w => Off.refl _ _
  | v :: vs, o, w => by
    rw [World.setCells]
    exact (Off.set w ⟨g, o, none⟩ v).trans (Off.setCells vs (o + 1) _) (by simp)

/-- What one kid more leaves. -/
def InsPost (base : Nat) (w : World) (A : Option Nat) (l : List T) (i g : Nat) (e : Ending) (w' : World) : Prop :=
  ∃ A' c', e = .returned (.slice (adr A') (l.length + 1) c') ∧ w'.ownsRow base 55 1 (.slice (adr A') (l.length + 1) c') (l.length + 1) (ptrs (l.take i) ++ ptr g :: ptrs (l.drop i)) ∧ Off A.toList w w' ∧ (A' = A ∨ ∃ b, A' = some b ∧ w.heap.size ≤ b)

theorem sizeOf55 : ∀ w, (Go.sizeOf 55).run Tryd.prog w = .ok 1 w := fun w => by
  obtain ⟨i0, hi0, h0, h1, h2⟩ := info_parts info55
  simp [Go.sizeOf, typeInfo, hi0, h1]

set_option maxHeartbeats 4000000 in
set_option maxRecDepth 100000 in
theorem insert_shift (base : Nat) (b n c i vb g : Nat) (l : List T) (w : World) (hn : n = l.length) (hi : i < n) (hroom : n + 1 ≤ c) (hO : w.ownsRow base 55 1 (.slice (some ⟨b, 0, none⟩) n c) n (ptrs l))
    (hv : w.heap[vb]? = some (.cells #[ptr g] 55 (0, 0))) (hvb : vb ≠ b) :
    Calls Tryd.prog 35 #[.slice (some ⟨b, 0, none⟩) n c, .int .i64 i, .slice (some ⟨vb, 0, none⟩) 1 1] w (InsPost base w (some b) l i g) := by
  obtain ⟨cur, hbase, hh, hnc, hcm, hcs, htk⟩ : ∃ cur : Array Value, base ≤ b ∧ w.heap[b]? = some (.cells cur 55 (0, 0)) ∧ n ≤ c ∧ c ≤ maxLen ∧ cur.size = c ∧ cur.toList.take n = ptrs l := by
    rcases hO.2 with ⟨h, _⟩ | ⟨g', cap, cur, h, h1, h2, h3, h4, h5, h6⟩
    · cases h
    · injection h with h7 _ h8
      injection h7 with h7; injection h7 with h7
      subst h7; subst h8
      exact ⟨cur, h1, h2, h3, h4, by omega, by simpa using h6⟩
  have hcl : cur.toList.length = c := by simpa using hcs
  have hcell : ∀ j, j < c → ∃ v, w.cell? ⟨b, j, none⟩ = some v := fun j hj => by
    refine ⟨cur[j]'(by omega), ?_⟩
    unfold World.cell?; rw [hh]; simp
  have hcellp : ∀ j v, (ptrs l)[j]? = some v → w.cell? ⟨b, j, none⟩ = some v := fun j v hj => by
    have := hO.cells (g := b) rfl j v hj
    rwa [Addr.add_lit, Nat.zero_add] at this
  have hfz : ∀ j, w.frozen? ⟨b, j, none⟩ = false := fun j => by unfold World.frozen?; rw [hh]; simp
  have hov : ∀ lb cb, (callFunc 59 #[.slice (some ⟨vb, 0, none⟩) 1 1, .slice (some ⟨b, i + 1, none⟩) lb cb]).run Tryd.prog w = .ok (.value (.bool false)) w := fun lb cb => by
    rw [run_callFunc_extern Tryd.func59 (by kernel_rfl) (by kernel_rfl) (by kernel_rfl) (e := Extern.SlicesOverlaps.overlaps #[53, 53] #[4]) (by kernel_rfl),
      Lib.run_overlaps_apart w 53 4 55 Tryd.underlying53 1 sizeOf55 ⟨vb, 0, none⟩ ⟨b, i + 1, none⟩ 1 1 lb cb hvb 55 55 1 c (by unfold World.shape?; rw [hv]; rfl) (by unfold World.shape?; rw [hh]; simp [hcs]) (by omega)
        (by unfold World.frozen?; rw [hv]; rfl) (by unfold World.frozen?; rw [hv]; rfl)]
    rfl
  have hpl : (ptrs l).length = n := by rw [ptrs_len, hn]
  have hdl : ((ptrs l).drop i).length = n - i := by rw [List.length_drop, hpl]
  have hsz : (Tryd.prog.info? 55).map (·.size) = some 1 := by
    obtain ⟨i0, hi0, h0, h1, h2⟩ := info_parts info55
    rw [hi0]; simp [h1]
  have hcp1 : ∀ ty dc sc, (Builtin.copy_ #[53, 53] ty #[.slice (some ⟨b, i + 1, none⟩) (n - i) dc, .slice (some ⟨b, i, none⟩) (n + 1 - i) sc]).run Tryd.prog w.drew = .ok (goInt ((ptrs l).drop i).length) (w.drew.setCells b (i + 1) ((ptrs l).drop i)) := fun ty dc sc =>
    run_copy_cells w.drew _ _ ty 55 b (i + 1) (n - i) dc ⟨b, i, none⟩ (n + 1 - i) sc ((ptrs l).drop i) Tryd.underlying53 hsz (by rw [hdl]; simp only [Nat.min_def]; split <;> omega)
      (fun j v hj => by rw [Addr.add_lit]; exact hcellp (i + j) v (by rwa [List.getElem?_drop] at hj))
      (fun j hj => by obtain ⟨v, hv⟩ := hcell (i + 1 + j) (by omega); show (w.cell? _).isSome = true; rw [hv]; rfl) (fun j hj => hfz _) (fun v hv => ptrs_one l v (List.mem_of_mem_drop hv))
  obtain ⟨W1, hW1⟩ : ∃ W1, W1 = w.drew.setCells b (i + 1) ((ptrs l).drop i) := ⟨_, rfl⟩
  have hsp1 : ∀ k, k < n + 1 → (W1.cell? ⟨b, k, none⟩).isSome = true := fun k hk => by
    rw [hW1]
    exact isSome_setCells b _ _ _ (fun j hj => by obtain ⟨v, hv⟩ := hcell (i + 1 + j) (by omega); show (w.cell? _).isSome = true; rw [hv]; rfl) _ (by obtain ⟨v, hv⟩ := hcell k (by omega); show (w.cell? _).isSome = true; rw [hv]; rfl)
  have hcp2 : ∀ (W : World), (∀ x, W.cell? x = W1.cell? x) → (∀ x, W.frozen? x = W1.frozen? x) → ∀ ty dc, (Builtin.copy_ #[53, 53] ty #[.slice (some ⟨b, i, none⟩) (n + 1 - i) dc, .slice (some ⟨vb, 0, none⟩) 1 1]).run Tryd.prog W = .ok (goInt [ptr g].length) (W.setCells b i [ptr g]) := fun W hWc hWf ty dc =>
    run_copy_cells W _ _ ty 55 b i (n + 1 - i) dc ⟨vb, 0, none⟩ 1 1 [ptr g] Tryd.underlying53 hsz (by simp only [List.length_singleton, Nat.min_def]; split <;> omega)
      (fun j v hj => by
        rw [Addr.add_lit, hWc, hW1, World.cell?_setCells_out b _ _ _ _ (fun h _ => absurd h hvb)]
        show w.cell? _ = _
        rcases j with _ | j
        · unfold World.cell?; rw [hv]; simpa using hj
        · simp at hj)
      (fun j hj => by rw [hWc]; simp at hj; exact hsp1 _ (by omega)) (fun j hj => by rw [hWf, hW1, World.frozen?_setCells]; exact hfz _) (fun v hv => by simp at hv; subst hv; rfl)
  rw [← hW1] at hcp1
  have hW := hW1
  have hb1 : (0 : Int) ≤ (i : Int) + 1 := by omega
  have hw1 : IntKind.i64.wrap ((i : Int) + 1) = (i : Int) + 1 := by have : maxLen = 9223372036854775807 := rfl; rw [IntKind.wrap_i64]; omega
  have hz2 : ¬ ((i : Int) = (n : Int)) := by omega
  have hin : i ≤ n := by omega
  have htn : ((i : Int) + 1).toNat = i + 1 := by omega
  have hb2 : ¬ (c = i + 1) := by omega
  have hb3 : (i : Int) ≤ (n : Int) + 1 := by omega
  have hb4 : ¬ (c = i) := by omega
  have hc63 : c ≤ 9223372036854775807 := hcm
  have hnr : ¬ ((c : Int) < (n : Int) + 1) := by omega
  replace hW := Lib.hid hW; replace hh := Lib.hid hh; replace hO := Lib.hid hO; replace htk := Lib.hid htk; replace hcs := Lib.hid hcs; replace hv := Lib.hid hv; replace hn := Lib.hid hn; replace hcell := Lib.hid hcell; replace hcellp := Lib.hid hcellp; replace hsp1 := Lib.hid hsp1
  clear hW1
  have hu53 := run_underlying Tryd.underlying53 (w := w)
  go_enter Tryd.func35, Tryd.ntmps35
  go_wp2_with (simp only [hov])
  go_still_tail 8, (by kernel_rfl)
  change wpList _ _ _ _ _ w.drew
  go_wp2_with (first
    | (at_builtin; go_must (refine wpList_copy_runI _ rfl _ _ 53 53 rfl _ _ rfl rfl (hcp1 _ _ _) ?_))
    | (at_builtin; go_must (refine wpList_copy_runI _ rfl _ _ 53 53 rfl _ _ rfl rfl (hcp2 _ (fun _ => rfl) (fun _ => rfl) _ _) ?_))
    | fail)
  go_ret
  have h1 : (w.drew).heap[b]? = some (.cells cur.toList.toArray 55 (0, 0)) := by show w.heap[b]? = _; simpa using hh.out
  have hcl2 : cur.toList.length = c := by simpa using hcs.out
  have h2 := heap_setCells ((ptrs l).drop i) (i + 1) w.drew cur.toList h1 (by rw [hdl]; omega)
  rw [← hW.out] at h2
  obtain ⟨L2, hL2⟩ : ∃ L2, L2 = cur.toList.take (i + 1) ++ (ptrs l).drop i ++ cur.toList.drop (i + 1 + ((ptrs l).drop i).length) := ⟨_, rfl⟩
  have hl2 : L2.length = c := by
    have a1 : (cur.toList.take (i + 1)).length = i + 1 := by rw [List.length_take]; omega
    have a2 : (cur.toList.drop (i + 1 + ((ptrs l).drop i).length)).length = c - (n + 1) := by rw [List.length_drop, hdl]; omega
    rw [hL2, List.length_append, List.length_append, a1, a2, hdl]; omega
  rw [← hL2] at h2
  have h3 := heap_setCells [ptr g] i W1 L2 h2 (by simp; omega)
  have htk2 := htk.out
  refine ⟨some b, c, by rw [← hn.out]; rfl, ⟨by have := hn.out; simp [ptrs_len]; omega, .inr ⟨b, c, _, by rw [← hn.out]; rfl, hbase, h3, by have := hn.out; omega, hcm, ?_, ?_⟩⟩, ?_, .inl rfl⟩
  · have a1 : (L2.take i).length = i := by rw [List.length_take]; omega
    have a2 : (L2.drop (i + [ptr g].length)).length = c - (i + 1) := by rw [List.length_drop, hl2]; simp
    rw [List.size_toArray, List.length_append, List.length_append, a1, a2]; simp; omega
  · have e1 : cur.toList.take i = (ptrs l).take i := by rw [← htk2, List.take_take, Nat.min_eq_left (by omega)]
    have e2 : L2.take i = (ptrs l).take i := by
      rw [hL2]
      rw [List.append_assoc, List.take_append_of_le_length (by rw [List.length_take]; omega), List.take_take, Nat.min_eq_left (by omega), e1]
    have e3 : L2.drop (i + 1) = (ptrs l).drop i ++ cur.toList.drop (i + 1 + ((ptrs l).drop i).length) := by
      rw [hL2]
      have : (cur.toList.take (i + 1)).length = i + 1 := by rw [List.length_take]; omega
      rw [List.append_assoc, List.drop_append_of_le_length (by omega), List.drop_of_length_le (by omega), List.nil_append]
    simp only [List.length_singleton]
    rw [e2, e3, Nat.mul_one, ← hn.out]
    have e4 : ((ptrs l).take i ++ [ptr g] ++ ((ptrs l).drop i ++ cur.toList.drop (i + 1 + ((ptrs l).drop i).length))).take (n + 1) = (ptrs l).take i ++ [ptr g] ++ (ptrs l).drop i := by
      rw [← List.append_assoc]
      have : ((ptrs l).take i ++ [ptr g] ++ (ptrs l).drop i).length = n + 1 := by simp only [List.length_append, List.length_take, hdl, hpl, List.length_singleton]; omega
      rw [List.take_append_of_le_length (by omega), List.take_of_length_le (by omega)]
    rw [e4]
    simp [ptrs, List.map_take, List.map_drop]
  · have o1 : Off [b] w W1 := by
      rw [hW.out]
      exact (Off.drew (S := [b]) w).trans (Off.setCells _ _ _) (by simp)
    exact o1.trans (Off.setCells [ptr g] i W1) (by simp)
end Go.Proofs.YtcklmkjlbpjojaaDoor
namespace Go.Proofs.YtcklmkjlbpjojaaDoor
open Go.RowKit Go.Lib
set_option linter.unusedSimpArgs false
set_option linter.unusedVariables false

set_option maxHeartbeats 1000000 in
set_option maxRecDepth 100000 in
theorem insert_end (base : Nat) (b n c vb g : Nat) (l : List T) (w : World) (hn : n = l.length) (hb : n ≤ 100000) (hbase : base ≤ w.heap.size) (hO : w.ownsRow base 55 1 (.slice (some ⟨b, 0, none⟩) n c) n (ptrs l))
    (hv : w.heap[vb]? = some (.cells #[ptr g] 55 (0, 0))) :
    Calls Tryd.prog 35 #[.slice (some ⟨b, 0, none⟩) n c, .int .i64 n, .slice (some ⟨vb, 0, none⟩) 1 1] w (InsPost base w (some b) l n g) := by
  have hnc : n ≤ c ∧ c ≤ 9223372036854775807 := by
    obtain ⟨A', c', e, _, _, h1, h2⟩ := Rd.of_own hO
    injection e with _ _ e; subst e; exact ⟨h1, h2⟩
  obtain ⟨hnc, hc63⟩ := hnc
  have hR : Rd w (some ⟨vb, 0, none⟩) [ptr g] := fun _ => ⟨vb, 0, rfl, lt_of_heap hv, fun j u hj => by
    rcases j with _ | j
    · simp at hj; subst hj; unfold World.cell?; rw [hv]; rfl
    · simp at hj⟩
  have hb4 : ∀ x : Nat, (if c = n then some (⟨b, 0, none⟩ : Addr) else some ⟨b, n, none⟩) = (if c = n then some (⟨b, 0, none⟩ : Addr) else some ⟨b, n, none⟩) := fun _ => rfl
  replace hO := Lib.hid hO; replace hR := Lib.hid hR; replace hv := Lib.hid hv; replace hn := Lib.hid hn
  clear hb4
  go_enter Tryd.func35, Tryd.ntmps35
  go_wp2_with (first
    | (at_builtin; go_must (refine ap53 rfl (.tmp 23) (.tmp 24) rfl base (.slice (some ⟨b, 0, none⟩) n c) n _ rfl hO.out (some ⟨vb, 0, none⟩) 1 1 [ptr g] rfl rfl hR.out (by intro u hu; simp at hu; subst hu; rfl) (by omega) hbase ?_; intro A2 c2 w2 O2 G2 hh2; replace hh2 := Lib.hid hh2))
    | fail)
  all_goals
    go_ret
    have hp : ptrs (l.take n) ++ ptr g :: ptrs (l.drop n) = ptrs l ++ [ptr g] := by
      rw [List.take_of_length_le (by rw [← hn.out]; exact Nat.le_refl _), List.drop_of_length_le (by rw [← hn.out]; exact Nat.le_refl _)]; rfl
    obtain ⟨b2, hA2⟩ : ∃ b2, A2 = some ⟨b2, 0, none⟩ := by
      rcases O2.2 with ⟨h, _⟩ | ⟨g', cap, cur, h, _⟩
      · injection h with _ h; omega
      · injection h with h; exact ⟨g', h⟩
    subst hA2
    refine ⟨some b2, c2, by rw [← hn.out]; rfl, by rw [← hn.out, hp]; exact O2, Off.of_row G2, ?_⟩
    rcases hh2.out with h | h
    · injection h with h; have h' : b2 = b := h; exact .inl (by rw [h'])
    · injection h with h; have h' : b2 = w.heap.size := h; exact .inr ⟨b2, rfl, by omega⟩

set_option maxHeartbeats 4000000 in
set_option maxRecDepth 100000 in
theorem insert_grow (base : Nat) (b n c i vb g : Nat) (l : List T) (w : World) (hn : n = l.length) (hb : n ≤ 100000) (hi : i < n) (hroom : c < n + 1) (hbase : base ≤ w.heap.size) (hO : w.ownsRow base 55 1 (.slice (some ⟨b, 0, none⟩) n c) n (ptrs l))
    (hv : w.heap[vb]? = some (.cells #[ptr g] 55 (0, 0))) :
    Calls Tryd.prog 35 #[.slice (some ⟨b, 0, none⟩) n c, .int .i64 i, .slice (some ⟨vb, 0, none⟩) 1 1] w (InsPost base w (some b) l i g) := by
  have hnc : n ≤ c ∧ c ≤ 9223372036854775807 := by
    obtain ⟨A', c', e, _, _, h1, h2⟩ := Rd.of_own hO
    injection e with _ _ e; subst e; exact ⟨h1, h2⟩
  obtain ⟨hnc, hc63⟩ := hnc
  have hcn : c = n := by omega
  subst hcn
  obtain ⟨i0, hi0, hz0, hzs, hzb⟩ := info_parts info55
  have hsz : (Tryd.prog.info? 55).map (·.size) = some 1 := by rw [hi0]; simp [hzs]
  have hpl : (ptrs l).length = c := by rw [ptrs_len, hn]
  have hbw : b < w.heap.size := (hO.lt b rfl).2
  have hvw : vb < w.heap.size := lt_of_heap hv
  have hcellp : ∀ j v, (ptrs l)[j]? = some v → w.cell? ⟨b, j, none⟩ = some v := fun j v hj => by
    have := hO.cells (g := b) rfl j v hj
    rwa [Addr.add_lit, Nat.zero_add] at this
  have hold : (Builtin.firstCells i0.size i (.slice (some ⟨b, 0, none⟩) i c)).run Tryd.prog w.drew = .ok ((ptrs l).take i).toArray w.drew := by
    rw [hzs]
    exact run_firstCells_some w.drew 1 i ⟨b, 0, none⟩ i c ((ptrs l).take i) (by rw [List.length_take]; omega) (fun j v hj => by
      rw [Addr.add_lit, Nat.zero_add]
      rw [List.getElem?_take] at hj
      split at hj
      · exact hcellp j v hj
      · cases hj)
  have hkk : (c : Int) + 1 - (i : Int) = ((c + 1 - i : Nat) : Int) := by omega
  have hik : i + (c + 1 - i) = c + 1 := by omega
  obtain ⟨G, hG⟩ : ∃ G, G = grownCap w (c + 1) c 55 := ⟨_, rfl⟩
  have hrz0 := fun ty => Lib.run_append_grow_zeros w 53 3 ty 55 i0 _ .i64 .i64 Tryd.underlying53 Tryd.underlying3 hi0 hz0 (some ⟨b, 0, none⟩) i c ((ptrs l).take i) hold (c + 1 - i) (by omega) (by omega) (by omega) (by omega) (by rw [hzb]; omega) (by rw [hzb, hik]; exact growslice_fits (by omega) (by omega))
  rw [hik] at hrz0
  rw [← hG] at hrz0
  obtain ⟨ROW, hROW⟩ : ∃ ROW : Array Value, ROW = ((ptrs l).take i).toArray ++ Builtin.zeroCells (Value.pointer none).cells (c + 1 - i) ++ Builtin.zeroCells (Value.pointer none).cells (G - (c + 1)) := ⟨_, rfl⟩
  rw [← hROW] at hrz0
  have hrz : ∀ ty, (Builtin.append_ #[53, 3] ty #[.slice (some ⟨b, 0, none⟩) i c, .int .i64 ((c : Int) + 1 - (i : Int))]).run Tryd.prog w = .ok (.slice (some ⟨w.heap.size, 0, none⟩) (c + 1) G) (w.drew.alloc (.cells ROW 55)) := fun ty => by rw [hkk]; exact hrz0 ty
  have hGn : c + 1 ≤ G := by rw [hG]; exact grownCap_ge w _ _ _
  have hG63 : G ≤ 9223372036854775807 := by
    have := grownCap_le_maxLen w (c + 1) c 55 (by unfold maxLen; omega)
    rw [← hG] at this; exact this
  have hRl : ROW.size = G := by
    rw [hROW]
    simp [Builtin.zeroCells, Value.cells, ptrs_len]
    omega
  have hRt : ROW.toList.take i = (ptrs l).take i := by
    rw [hROW]
    simp only [Array.toList_append, List.append_assoc]
    rw [List.take_append_of_le_length (by simp [ptrs_len]; omega)]
    rw [List.take_of_length_le (by simp [ptrs_len]; omega)]
  obtain ⟨W1, hW1⟩ : ∃ W1, W1 = w.drew.alloc (.cells ROW 55) := ⟨_, rfl⟩
  rw [← hW1] at hrz
  have hh1 : W1.heap[w.heap.size]? = some (.cells ROW.toList.toArray 55 (0, 0)) := by rw [hW1]; simpa using heap_alloc_new w.drew (.cells ROW 55)
  have g1 : w.grownBy W1 none := by rw [hW1]; exact (g_drew (World.grownBy.refl w none)).trans (World.grownBy_alloc w.drew _ none)
  have hN : ∀ j, j < c + 1 → (W1.cell? ⟨w.heap.size, j, none⟩).isSome = true := fun j hj => by
    unfold World.cell?; rw [hh1]; simp; omega
  have hNf : ∀ j, W1.frozen? ⟨w.heap.size, j, none⟩ = false := fun j => by unfold World.frozen?; rw [hh1]; simp
  have hbN : b ≠ w.heap.size := by omega
  have hdl : ((ptrs l).drop i).length = c - i := by rw [List.length_drop, hpl]
  have hcpA : ∀ (W : World), (∀ x, W.cell? x = W1.cell? x) → (∀ x, W.frozen? x = W1.frozen? x) → ∀ ty dc, (Builtin.copy_ #[53, 53] ty #[.slice (some ⟨w.heap.size, i, none⟩) (c + 1 - i) dc, .slice (some ⟨vb, 0, none⟩) 1 1]).run Tryd.prog W = .ok (goInt [ptr g].length) (W.setCells w.heap.size i [ptr g]) := fun W hWc hWf ty dc =>
    run_copy_cells W _ _ ty 55 w.heap.size i (c + 1 - i) dc ⟨vb, 0, none⟩ 1 1 [ptr g] Tryd.underlying53 hsz (by simp only [List.length_singleton, Nat.min_def]; split <;> omega)
      (fun j v hj => by
        rw [Addr.add_lit, hWc]
        rcases j with _ | j
        · have hvv : w.cell? ⟨vb, 0, none⟩ = some (ptr g) := by unfold World.cell?; rw [hv]; rfl
          simp at hj; subst hj
          exact g1.cell hvv (by simp)
        · simp at hj)
      (fun j hj => by rw [hWc]; simp at hj; exact hN _ (by omega)) (fun j hj => by rw [hWf]; exact hNf _) (fun v hv => by simp at hv; subst hv; rfl)
  obtain ⟨W2, hW2⟩ : ∃ W2, W2 = W1.setCells w.heap.size i [ptr g] := ⟨_, rfl⟩
  have hcpB : ∀ (W : World), (∀ x, W.cell? x = W2.cell? x) → (∀ x, W.frozen? x = W2.frozen? x) → ∀ ty dc sc, (Builtin.copy_ #[53, 53] ty #[.slice (some ⟨w.heap.size, i + 1, none⟩) (c - i) dc, .slice (some ⟨b, i, none⟩) (c - i) sc]).run Tryd.prog W = .ok (goInt ((ptrs l).drop i).length) (W.setCells w.heap.size (i + 1) ((ptrs l).drop i)) := fun W hWc hWf ty dc sc =>
    run_copy_cells W _ _ ty 55 w.heap.size (i + 1) (c - i) dc ⟨b, i, none⟩ (c - i) sc ((ptrs l).drop i) Tryd.underlying53 hsz (by rw [hdl]; simp)
      (fun j v hj => by
        rw [Addr.add_lit, hWc, hW2, World.cell?_setCells_out _ _ _ _ _ (fun h _ => absurd h hbN)]
        exact g1.cell (hcellp (i + j) v (by rwa [List.getElem?_drop] at hj)) (by simp))
      (fun j hj => by rw [hWc, hW2]; exact isSome_setCells _ _ _ _ (fun t ht => hN _ (by simp at ht; omega)) _ (hN _ (by omega)))
      (fun j hj => by rw [hWf, hW2, World.frozen?_setCells]; exact hNf _) (fun v hv => ptrs_one l v (List.mem_of_mem_drop hv))
  have hz2 : ¬ ((i : Int) = (c : Int)) := by omega
  have hin : i ≤ c := by omega
  have hw1 : IntKind.i64.wrap ((i : Int) + 1) = (i : Int) + 1 := by rw [IntKind.wrap_i64]; omega
  have hw2 : IntKind.i64.wrap ((c : Int) + 1) = (c : Int) + 1 := by rw [IntKind.wrap_i64]; omega
  have hb1 : (0 : Int) ≤ (i : Int) + 1 := by omega
  have htn : ((i : Int) + 1).toNat = i + 1 := by omega
  have hb3 : (i : Int) ≤ (c : Int) + 1 := by omega
  have hGi : ¬ (G = i) := by omega
  have hGim : ¬ (G = i + 1) := by omega
  have hci : ¬ (c = i) := by omega
  have hib : (i : Int) + 1 ≤ (c : Int) + 1 := by omega
  replace hW2 := Lib.hid hW2; replace hW1 := Lib.hid hW1; replace hO := Lib.hid hO; replace hv := Lib.hid hv; replace hn := Lib.hid hn; replace hcellp := Lib.hid hcellp; replace hROW := Lib.hid hROW; replace hh1 := Lib.hid hh1; replace hRl := Lib.hid hRl; replace hRt := Lib.hid hRt; replace g1 := Lib.hid g1; replace hG := Lib.hid hG
  replace hN := Lib.hid hN; replace hNf := Lib.hid hNf; replace hold := Lib.hid hold
  clear hrz0 hkk hik
  go_enter Tryd.func35, Tryd.ntmps35
  go_wp2_with (first
    | (at_builtin; go_must (refine Lib.wpList_append_run _ rfl _ _ _ _ rfl _ _ rfl rfl _ _ (hrz _) ?_))
    | (at_builtin; go_must (refine wpList_copy_runI _ rfl _ _ 53 53 rfl _ _ rfl rfl (hcpA _ (fun _ => rfl) (fun _ => rfl) _ _) ?_))
    | fail)
  rw [← hW2.out]
  go_still_tail 8, (by kernel_rfl)
  change wpList _ _ _ _ _ W2.drew
  have hcpC := hcpB W2.drew (fun _ => rfl) (fun _ => rfl)
  clear hcpB hcpA
  go_wp2_with fail
  go_ret
  have hRl2 : ROW.toList.length = G := by simpa using hRl.out
  have h2 := heap_setCells [ptr g] i W1 ROW.toList hh1.out (by rw [hRl2]; simp only [List.length_singleton]; omega)
  rw [← hW2.out] at h2
  obtain ⟨L2, hL2⟩ : ∃ L2, L2 = ROW.toList.take i ++ [ptr g] ++ ROW.toList.drop (i + [ptr g].length) := ⟨_, rfl⟩
  rw [← hL2] at h2
  have a1 : (ROW.toList.take i ++ [ptr g]).length = i + 1 := by rw [List.length_append, List.length_take, hRl2]; simp only [List.length_singleton]; omega
  have hl2 : L2.length = G := by
    rw [hL2, List.length_append, a1, List.length_drop, hRl2]; simp only [List.length_singleton]; omega
  have h3 := heap_setCells ((ptrs l).drop i) (i + 1) W2.drew L2 h2 (by rw [hdl]; omega)
  have htk : L2.take (i + 1) = (ptrs l).take i ++ [ptr g] := by
    rw [hL2, List.take_append_of_le_length (by omega), List.take_of_length_le (by omega), hRt.out]
  refine ⟨some w.heap.size, G, by rw [← hn.out]; rfl, ⟨by have := hn.out; simp [ptrs_len]; omega, .inr ⟨w.heap.size, G, _, by rw [← hn.out]; rfl, hbase, h3, by have := hn.out; omega, hG63, ?_, ?_⟩⟩, ?_, .inr ⟨_, rfl, Nat.le_refl _⟩⟩
  · have a2 : (L2.take (i + 1)).length = i + 1 := by rw [List.length_take]; omega
    have a3 : (L2.drop (i + 1 + ((ptrs l).drop i).length)).length = G - (c + 1) := by rw [List.length_drop, hdl]; omega
    rw [List.size_toArray, List.length_append, List.length_append, a2, a3, hdl]; omega
  · rw [htk, Nat.mul_one, ← hn.out]
    have a4 : ((ptrs l).take i ++ [ptr g] ++ (ptrs l).drop i).length = c + 1 := by simp only [List.length_append, List.length_take, hdl, hpl, List.length_singleton]; omega
    show List.take (c + 1) _ = _
    rw [List.take_append_of_le_length (by omega), List.take_of_length_le (by omega)]
    simp [ptrs, List.map_take, List.map_drop]
  · have o1 : Off [w.heap.size] w W2 := by
      rw [hW2.out]
      exact (Off.of_grown (S := [w.heap.size]) g1.out).trans (Off.setCells _ _ _) (by simp)
    have o2 : Off [w.heap.size] w (W2.drew.setCells w.heap.size (i + 1) ((ptrs l).drop i)) := (o1.trans (Off.drew (S := []) W2) (by simp)).trans (Off.setCells _ _ _) (by simp)
    exact o2.sub (by simp)
end Go.Proofs.YtcklmkjlbpjojaaDoor
