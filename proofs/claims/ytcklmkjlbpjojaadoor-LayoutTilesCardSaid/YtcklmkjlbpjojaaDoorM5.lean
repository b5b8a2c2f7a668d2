/- Layout: Replace of one kid by two or more. -/
import Derived.Test.YtcklmkjlbpjojaaDoorD3
namespace Go.Proofs.YtcklmkjlbpjojaaDoor
open Go.RowKit Go.Lib
set_option linter.unusedSimpArgs false
set_option linter.unusedVariables false

/-- What many kids for one leave. -/
def RepPost (base : Nat) (w : World) (b : Nat) (l vs : List T) (i : Nat) (e : Ending) (w' : World) : Prop :=
  ∃ b' c' tot, tot + 1 = l.length + vs.length ∧ e = .returned (.slice (some ⟨b', 0, none⟩) tot c') ∧ w'.ownsRow base 55 1 (.slice (some ⟨b', 0, none⟩) tot c') tot (ptrs (l.take i) ++ ptrs vs ++ ptrs (l.drop (i + 1))) ∧ Off [b] w w' ∧ (b' = b ∨ w.heap.size ≤ b')

theorem own_parts {base b n c : Nat} {w : World} {xs : List Value} (hO : w.ownsRow base 55 1 (.slice (some ⟨b, 0, none⟩) n c) n xs) :
    ∃ cur : List Value, base ≤ b ∧ w.heap[b]? = some (.cells cur.toArray 55 (0, 0)) ∧ n ≤ c ∧ c ≤ 9223372036854775807 ∧ cur.length = c ∧ cur.take n = xs := by
  rcases hO.2 with ⟨h, _⟩ | ⟨g', cap, cur, h, h1, h2, h3, h4, h5, h6⟩
  · cases h
  · injection h with h7 _ h8
    injection h7 with h7; injection h7 with h7
    subst h7; subst h8
    exact ⟨cur.toList, h1, by simpa using h2, h3, h4, by simp; omega, by simpa using h6⟩
theorem own_of {base b n c : Nat} {w : World} {xs cur : List Value} (h1 : base ≤ b) (h2 : w.heap[b]? = some (.cells cur.toArray 55 (0, 0))) (h3 : n ≤ c) (h4 : c ≤ 9223372036854775807) (h5 : cur.length = c) (h6 : cur.take n = xs) :
    w.ownsRow base 55 1 (.slice (some ⟨b, 0, none⟩) n c) n xs :=
  ⟨by rw [← h6, List.length_take]; omega, .inr ⟨b, c, cur.toArray, rfl, h1, h2, h3, h4, by simp; omega, by simpa using h6⟩⟩
theorem own_take {base b n c i : Nat} {w : World} {xs : List Value} (hO : w.ownsRow base 55 1 (.slice (some ⟨b, 0, none⟩) n c) n xs) (hi : i ≤ n) :
    w.ownsRow base 55 1 (.slice (some ⟨b, 0, none⟩) i c) i (xs.take i) := by
  obtain ⟨cur, h1, h2, h3, h4, h5, h6⟩ := own_parts hO
  exact own_of h1 h2 (by omega) h4 h5 (by rw [← h6, List.take_take, Nat.min_eq_left hi])

set_option maxHeartbeats 400000 in
set_option maxRecDepth 100000 in
theorem replace_end (base b n c vb vc m : Nat) (l vs : List T) (w : World) (hn : n + 1 = l.length) (hb : n ≤ 1000) (hm : m = vs.length) (hm2 : 2 ≤ m) (hmb : m ≤ 1000) (hbase : base ≤ w.heap.size)
    (hO : w.ownsRow base 55 1 (.slice (some ⟨b, 0, none⟩) (n + 1) c) (n + 1) (ptrs l)) (hV : w.ownsRow 0 55 1 (.slice (some ⟨vb, 0, none⟩) m vc) m (ptrs vs)) :
    Calls Tryd.prog 39 #[.slice (some ⟨b, 0, none⟩) (n + 1) c, .int .i64 n, .int .i64 ((n : Int) + 1), .slice (some ⟨vb, 0, none⟩) m vc] w (RepPost base w b l vs n) := by
  obtain ⟨cur, h1, hh, hnc, hc63, hcl, htk⟩ := own_parts hO
  obtain ⟨curv, _, hvh, hvc, hvc63, hvl, _⟩ := own_parts hV
  have hR := own_Rd hV
  have hOt := own_take hO (i := n) (by omega)
  replace hO := Lib.hid hO; replace hR := Lib.hid hR; replace hV := Lib.hid hV; replace hn := Lib.hid hn; replace hOt := Lib.hid hOt; replace hm := Lib.hid hm; replace hh := Lib.hid hh; replace hvh := Lib.hid hvh; replace hcl := Lib.hid hcl; replace hvl := Lib.hid hvl; replace htk := Lib.hid htk
  have hi1 : ¬ ((n : Int) = (n : Int) + 1) := by omega
  have hi2 : (0 : Int) ≤ (n : Int) + 1 := by omega
  have hi3 : (n : Int) ≤ (n : Int) + 1 := by omega
  have hi4 : (n : Int) ≤ (c : Int) := by omega
  have hi5 : (n : Int) + 1 ≤ (c : Int) := by omega
  have htn : ((n : Int) + 1).toNat = n + 1 := by omega
  have hlt : ¬ ((n : Int) + (m : Int) < (n : Int) + 1) := by omega
  go_enter Tryd.func39, Tryd.ntmps39
  go_wp2_with (first
    | (at_builtin; go_must (refine ap53 rfl (.tmp 32) (.tmp 33) rfl base (.slice (some ⟨b, 0, none⟩) n c) n _ rfl hOt.out (some ⟨vb, 0, none⟩) m vc (ptrs vs) rfl (by rw [ptrs_len, hm.out]) hR.out (ptrs_one vs) (by omega) hbase ?_; intro A2 c2 w2 O2 G2 hh2; replace hh2 := Lib.hid hh2))
    | fail)
  all_goals
    go_ret
    obtain ⟨b2, hA2⟩ : ∃ b2, A2 = some ⟨b2, 0, none⟩ := by
      rcases O2.2 with ⟨h, _⟩ | ⟨g', cap, cur, h, _⟩
      · injection h with _ h; omega
      · injection h with h; exact ⟨g', h⟩
    subst hA2
    have hno := hn.out
    have hmo := hm.out
    have hp : ptrs (l.take n) ++ ptrs vs ++ ptrs (l.drop (n + 1)) = (ptrs l).take n ++ ptrs vs := by
      rw [List.drop_of_length_le (by rw [hno]; exact Nat.le_refl _)]; simp [ptrs, List.map_take]
    refine ⟨b2, c2, n + m, by omega, rfl, by rw [hp]; exact O2, Off.of_row G2, ?_⟩
    rcases hh2.out with h | h
    · injection h with h; exact .inl h
    · injection h with h; have h' : b2 = w.heap.size := h; exact .inr (by omega)

set_option maxHeartbeats 4000000 in
set_option maxRecDepth 100000 in
theorem replace_shift (base b n c i vb vc m : Nat) (l vs : List T) (w : World) (hn : n = l.length) (hi : i + 1 < n) (hb : n ≤ 1000) (hm : m = vs.length) (hm2 : 2 ≤ m) (hmb : m ≤ 1000) (hroom : n + m ≤ c + 1)
    (hO : w.ownsRow base 55 1 (.slice (some ⟨b, 0, none⟩) n c) n (ptrs l)) (hV : w.ownsRow 0 55 1 (.slice (some ⟨vb, 0, none⟩) m vc) m (ptrs vs)) (hvb : vb ≠ b) :
    Calls Tryd.prog 39 #[.slice (some ⟨b, 0, none⟩) n c, .int .i64 i, .int .i64 ((i : Int) + 1), .slice (some ⟨vb, 0, none⟩) m vc] w (RepPost base w b l vs i) := by
  obtain ⟨cur, hbase, hh, hnc, hc63, hcl, htk⟩ := own_parts hO
  obtain ⟨curv, _, hvh, hvc, hvc63, hvl, hvt⟩ := own_parts hV
  have hcell : ∀ j, j < c → ∃ v, w.cell? ⟨b, j, none⟩ = some v := fun j hj => by
    refine ⟨cur[j]'(by omega), ?_⟩
    unfold World.cell?; rw [hh]; simp
  have hcellp : ∀ j v, (ptrs l)[j]? = some v → w.cell? ⟨b, j, none⟩ = some v := fun j v hj => by
    have := hO.cells (g := b) rfl j v hj
    rwa [Addr.add_lit, Nat.zero_add] at this
  have hcellv : ∀ j v, (ptrs vs)[j]? = some v → w.cell? ⟨vb, j, none⟩ = some v := fun j v hj => by
    have := hV.cells (g := vb) rfl j v hj
    rwa [Addr.add_lit, Nat.zero_add] at this
  have hfz : ∀ j, w.frozen? ⟨b, j, none⟩ = false := fun j => by unfold World.frozen?; rw [hh]; simp
  have hov : ∀ (W : World), W.heap = w.heap → ∀ la ca, (callFunc 59 #[.slice (some ⟨b, i + m, none⟩) la ca, .slice (some ⟨vb, 0, none⟩) m vc]).run Tryd.prog W = .ok (.value (.bool false)) W := fun W hW la ca => by
    rw [run_callFunc_extern Tryd.func59 (by kernel_rfl) (by kernel_rfl) (by kernel_rfl) (e := Extern.SlicesOverlaps.overlaps #[53, 53] #[4]) (by kernel_rfl),
      Lib.run_overlaps_apart W 53 4 55 Tryd.underlying53 1 sizeOf55 ⟨b, i + m, none⟩ ⟨vb, 0, none⟩ la ca m vc (fun e => hvb e.symm) 55 55 c vc (by unfold World.shape?; rw [hW, hh]; simp [hcl]) (by unfold World.shape?; rw [hW, hvh]; simp [hvl]) (by omega)
        (by unfold World.frozen?; rw [hW, hh]; simp) (by unfold World.frozen?; rw [hW, hh]; simp)]
    rfl
  have hpl : (ptrs l).length = n := by rw [ptrs_len, hn]
  have hvpl : (ptrs vs).length = m := by rw [ptrs_len, hm]
  have hdl : ((ptrs l).drop (i + 1)).length = n - (i + 1) := by rw [List.length_drop, hpl]
  have hsz : (Tryd.prog.info? 55).map (·.size) = some 1 := by
    obtain ⟨i0, hi0, h0, h1, h2⟩ := info_parts info55
    rw [hi0]; simp [h1]
  obtain ⟨tot, htot⟩ : ∃ tot, tot + 1 = n + m := ⟨n + m - 1, by omega⟩
  have hcp1 : ∀ (W : World), W.heap = w.heap → ∀ ty dc sc, (Builtin.copy_ #[53, 53] ty #[.slice (some ⟨b, i + m, none⟩) (tot - (i + m)) dc, .slice (some ⟨b, i + 1, none⟩) (n - (i + 1)) sc]).run Tryd.prog W = .ok (goInt ((ptrs l).drop (i + 1)).length) (W.setCells b (i + m) ((ptrs l).drop (i + 1))) := fun W hW ty dc sc =>
    run_copy_cells W _ _ ty 55 b (i + m) (tot - (i + m)) dc ⟨b, i + 1, none⟩ (n - (i + 1)) sc ((ptrs l).drop (i + 1)) Tryd.underlying53 hsz (by rw [hdl]; simp only [Nat.min_def]; split <;> omega)
      (fun j v hj => by rw [Addr.add_lit]; unfold World.cell?; rw [hW]; exact hcellp (i + 1 + j) v (by rwa [List.getElem?_drop] at hj))
      (fun j hj => by obtain ⟨v, hv⟩ := hcell (i + m + j) (by rw [hdl] at hj; omega); unfold World.cell? at hv ⊢; rw [hW, hv]; rfl) (fun j hj => by unfold World.frozen?; rw [hW]; exact hfz _) (fun v hv => ptrs_one l v (List.mem_of_mem_drop hv))
  obtain ⟨W1, hW1⟩ : ∃ W1, W1 = w.drew.drew.setCells b (i + m) ((ptrs l).drop (i + 1)) := ⟨_, rfl⟩
  have hsp1 : ∀ k, k < c → (W1.cell? ⟨b, k, none⟩).isSome = true := fun k hk => by
    rw [hW1]
    exact isSome_setCells b _ _ _ (fun j hj => by obtain ⟨v, hv⟩ := hcell (i + m + j) (by rw [hdl] at hj; omega); show (w.cell? _).isSome = true; rw [hv]; rfl) _ (by obtain ⟨v, hv⟩ := hcell k hk; show (w.cell? _).isSome = true; rw [hv]; rfl)
  have hcp2 : ∀ ty dc, (Builtin.copy_ #[53, 53] ty #[.slice (some ⟨b, i, none⟩) (tot - i) dc, .slice (some ⟨vb, 0, none⟩) m vc]).run Tryd.prog W1 = .ok (goInt (ptrs vs).length) (W1.setCells b i (ptrs vs)) := fun ty dc =>
    run_copy_cells W1 _ _ ty 55 b i (tot - i) dc ⟨vb, 0, none⟩ m vc (ptrs vs) Tryd.underlying53 hsz (by rw [hvpl]; simp only [Nat.min_def]; split <;> omega)
      (fun j v hj => by
        rw [Addr.add_lit, Nat.zero_add, hW1, World.cell?_setCells_out b _ _ _ _ (fun h _ => absurd h hvb)]
        exact hcellv j v hj)
      (fun j hj => by rw [hvpl] at hj; exact hsp1 _ (by omega)) (fun j hj => by rw [hW1, World.frozen?_setCells]; exact hfz _) (fun v hv => ptrs_one vs v hv)
  have hi1 : ¬ ((i : Int) = (i : Int) + 1) := by omega
  have hi2 : (0 : Int) ≤ (i : Int) + 1 := by omega
  have hi3 : (i : Int) ≤ (i : Int) + 1 := by omega
  have hi5 : (i : Int) + 1 ≤ (c : Int) := by omega
  have hi6 : (i : Int) + 1 ≤ (n : Int) := by omega
  have hi7 : ¬ ((i : Int) + 1 = (n : Int)) := by omega
  have htn : ((i : Int) + 1).toNat = i + 1 := by omega
  have hin : i ≤ n := by omega
  have hic : i ≤ c := by omega
  have hci1 : ¬ (c = i + 1) := by omega
  have hw1 : IntKind.i64.wrap ((i : Int) + (m : Int)) = (i : Int) + (m : Int) := by rw [IntKind.wrap_i64]; omega
  have hj1 : (0 : Int) ≤ (i : Int) + (m : Int) := by omega
  have hj2 : ((i : Int) + (m : Int)).toNat = i + m := by omega
  have hj3 : (i : Int) + (m : Int) ≤ (tot : Int) := by omega
  have hj4 : ¬ (c = i + m) := by omega
  have hj5 : (tot : Int) ≤ (c : Int) := by omega
  have hj6 : ¬ (c = i) := by omega
  have hw2 : IntKind.i64.wrap ((i : Int) + (m : Int) + ((n - (i + 1) : Nat) : Int)) = (tot : Int) := by rw [IntKind.wrap_i64]; omega
  replace hW1 := Lib.hid hW1; replace hcp2 := Lib.hid hcp2; replace hcp1 := Lib.hid hcp1; replace hsp1 := Lib.hid hsp1
  replace hO := Lib.hid hO; replace hV := Lib.hid hV; replace hn := Lib.hid hn; replace hm := Lib.hid hm; replace hh := Lib.hid hh; replace hvh := Lib.hid hvh; replace hcl := Lib.hid hcl; replace hvl := Lib.hid hvl; replace htk := Lib.hid htk; replace hvt := Lib.hid hvt
  replace hcell := Lib.hid hcell; replace hcellp := Lib.hid hcellp; replace hcellv := Lib.hid hcellv; replace hfz := Lib.hid hfz; replace hov := Lib.hid hov; replace hpl := Lib.hid hpl; replace hvpl := Lib.hid hvpl; replace hdl := Lib.hid hdl
  go_enter Tryd.func39, Tryd.ntmps39
  go_upto_region 9 with fail
  refine wp_region_still_tail 12 (by kernel_rfl) (by kernel_rfl) ?_
  simp only [List.take_succ_cons, List.take_zero, List.drop_succ_cons, List.drop_zero]
  repeat still_step
  refine wpStill_nil ?_
  change wpList _ _ _ _ _ w.drew
  have hov' := hov.out w.drew rfl
  have hcp1' := hcp1.out w.drew.drew rfl
  have hcp2' := hcp2.out
  rw [← hW1.out] at hcp1'
  go_wp2_with (simp only [hov'])
  go_still_tail 9, (by kernel_rfl)
  change wpList _ _ _ _ _ w.drew.drew
  go_wp2_with (first
    | (at_builtin; go_must (refine wpList_copy_runI _ rfl _ _ 53 53 rfl _ _ rfl rfl (hcp1' _ _ _) ?_))
    | (at_builtin; go_must (refine wpList_copy_runI _ rfl _ _ 53 53 rfl _ _ rfl rfl (hcp2' _ _) ?_))
    | fail)
  go_ret
  have h2 := heap_setCells ((ptrs l).drop (i + 1)) (i + m) w.drew.drew cur hh.out (by rw [hdl.out, hcl.out]; omega)
  rw [← hW1.out] at h2
  obtain ⟨L2, hL2⟩ : ∃ L2, L2 = cur.take (i + m) ++ (ptrs l).drop (i + 1) ++ cur.drop (i + m + ((ptrs l).drop (i + 1)).length) := ⟨_, rfl⟩
  rw [← hL2] at h2
  have hcl' := hcl.out; have hdl' := hdl.out; have hvpl' := hvpl.out; have hpl' := hpl.out; have htk' := htk.out
  have a1 : (cur.take (i + m)).length = i + m := by rw [List.length_take]; omega
  have hl2 : L2.length = c := by
    rw [hL2]; simp only [List.length_append, a1, List.length_drop, hpl', hcl']; omega
  have h3 := heap_setCells (ptrs vs) i W1 L2 h2 (by rw [hl2, hvpl']; omega)
  have e2 : L2.take i = (ptrs l).take i := by
    rw [hL2, List.append_assoc, List.take_append_of_le_length (by omega), List.take_take, Nat.min_eq_left (by omega), ← htk', List.take_take, Nat.min_eq_left (by omega)]
  have e3 : L2.drop (i + m) = (ptrs l).drop (i + 1) ++ cur.drop (i + m + ((ptrs l).drop (i + 1)).length) := by
    rw [hL2, List.append_assoc, List.drop_append_of_le_length (by omega), List.drop_of_length_le (by omega), List.nil_append]
  rw [e2, hvpl', e3] at h3
  refine ⟨b, c, tot, by rw [← hn.out, ← hm.out]; omega, rfl, own_of hbase h3 (by omega) hc63 ?_ ?_, ?_, .inl rfl⟩
  · simp only [List.length_append, List.length_take, List.length_drop, hvpl', hpl', hcl']; omega
  · have a4 : ((ptrs l).take i ++ ptrs vs ++ (ptrs l).drop (i + 1)).length = tot := by simp only [List.length_append, List.length_take, hdl', hpl', hvpl']; omega
    rw [← List.append_assoc, List.take_append_of_le_length (by omega), List.take_of_length_le (by omega)]
    simp [ptrs, List.map_take, List.map_drop]
  · have o1 : Off [b] w W1 := by
      rw [hW1.out]
      exact ((Off.drew (S := [b]) w).trans (Off.drew (S := []) _) (by simp)).trans (Off.setCells _ _ _) (by simp)
    exact o1.trans (Off.setCells (ptrs vs) i W1) (by simp)

set_option maxHeartbeats 4000000 in
set_option maxRecDepth 100000 in
theorem replace_grow (base b n c i vb vc m : Nat) (l vs : List T) (w : World) (hn : n = l.length) (hi : i + 1 < n) (hb : n ≤ 1000) (hm : m = vs.length) (hm2 : 2 ≤ m) (hmb : m ≤ 1000) (hroom : c + 1 < n + m) (hbase : base ≤ w.heap.size)
    (hO : w.ownsRow base 55 1 (.slice (some ⟨b, 0, none⟩) n c) n (ptrs l)) (hV : w.ownsRow 0 55 1 (.slice (some ⟨vb, 0, none⟩) m vc) m (ptrs vs)) :
    Calls Tryd.prog 39 #[.slice (some ⟨b, 0, none⟩) n c, .int .i64 i, .int .i64 ((i : Int) + 1), .slice (some ⟨vb, 0, none⟩) m vc] w (RepPost base w b l vs i) := by
  obtain ⟨cur, _, hh, hnc, hc63, hcl, htk⟩ := own_parts hO
  obtain ⟨curv, _, hvh, hvc, hvc63, hvl, hvt⟩ := own_parts hV
  obtain ⟨i0, hi0, hz0, hzs, hzb⟩ := info_parts info55
  have hsz : (Tryd.prog.info? 55).map (·.size) = some 1 := by rw [hi0]; simp [hzs]
  have hpl : (ptrs l).length = n := by rw [ptrs_len, hn]
  have hvpl : (ptrs vs).length = m := by rw [ptrs_len, hm]
  have hbw : b < w.heap.size := (hO.lt b rfl).2
  have hvw : vb < w.heap.size := (hV.lt vb rfl).2
  obtain ⟨tot, htot⟩ : ∃ tot, tot + 1 = n + m := ⟨n + m - 1, by omega⟩
  have hcellp : ∀ j v, (ptrs l)[j]? = some v → w.cell? ⟨b, j, none⟩ = some v := fun j v hj => by
    have := hO.cells (g := b) rfl j v hj
    rwa [Addr.add_lit, Nat.zero_add] at this
  have hcellv : ∀ j v, (ptrs vs)[j]? = some v → w.cell? ⟨vb, j, none⟩ = some v := fun j v hj => by
    have := hV.cells (g := vb) rfl j v hj
    rwa [Addr.add_lit, Nat.zero_add] at this
  have hold : (Builtin.firstCells i0.size i (.slice (some ⟨b, 0, none⟩) i c)).run Tryd.prog w.drew.drew = .ok ((ptrs l).take i).toArray w.drew.drew := by
    rw [hzs]
    exact run_firstCells_some w.drew.drew 1 i ⟨b, 0, none⟩ i c ((ptrs l).take i) (by rw [List.length_take]; omega) (fun j v hj => by
      rw [Addr.add_lit, Nat.zero_add]
      rw [List.getElem?_take] at hj
      split at hj
      · exact hcellp j v hj
      · cases hj)
  have hkk : (tot : Int) - (i : Int) = ((tot - i : Nat) : Int) := by omega
  have hik : i + (tot - i) = tot := by omega
  obtain ⟨G, hG⟩ : ∃ G, G = grownCap w.drew tot c 55 := ⟨_, rfl⟩
  have hrz0 := fun ty => Lib.run_append_grow_zeros w.drew 53 3 ty 55 i0 _ .i64 .i64 Tryd.underlying53 Tryd.underlying3 hi0 hz0 (some ⟨b, 0, none⟩) i c ((ptrs l).take i) hold (tot - i) (by omega) (by omega) (by omega) (by omega) (by rw [hzb]; omega) (by rw [hzb, hik]; exact growslice_fits (by omega) (by omega))
  rw [hik] at hrz0
  rw [← hG] at hrz0
  obtain ⟨ROW, hROW⟩ : ∃ ROW : Array Value, ROW = ((ptrs l).take i).toArray ++ Builtin.zeroCells (Value.pointer none).cells (tot - i) ++ Builtin.zeroCells (Value.pointer none).cells (G - tot) := ⟨_, rfl⟩
  rw [← hROW] at hrz0
  have hrz : ∀ ty, (Builtin.append_ #[53, 3] ty #[.slice (some ⟨b, 0, none⟩) i c, .int .i64 ((tot : Int) - (i : Int))]).run Tryd.prog w.drew = .ok (.slice (some ⟨w.heap.size, 0, none⟩) tot G) (w.drew.drew.alloc (.cells ROW 55)) := fun ty => by rw [hkk]; exact hrz0 ty
  have hGn : tot ≤ G := by rw [hG]; exact grownCap_ge w.drew _ _ _
  have hG63 : G ≤ 9223372036854775807 := by
    have := grownCap_le_maxLen w.drew tot c 55 (by unfold maxLen; omega)
    rw [← hG] at this; exact this
  have hRl : ROW.toList.length = G := by
    rw [hROW]
    simp [Builtin.zeroCells, Value.cells, ptrs_len]
    omega
  have hRt : ROW.toList.take i = (ptrs l).take i := by
    rw [hROW]
    simp only [Array.toList_append, List.append_assoc]
    rw [List.take_append_of_le_length (by simp [ptrs_len]; omega)]
    rw [List.take_of_length_le (by simp [ptrs_len]; omega)]
  obtain ⟨W1, hW1⟩ : ∃ W1, W1 = w.drew.drew.alloc (.cells ROW 55) := ⟨_, rfl⟩
  rw [← hW1] at hrz
  have hh1 : W1.heap[w.heap.size]? = some (.cells ROW.toList.toArray 55 (0, 0)) := by rw [hW1]; simpa using heap_alloc_new w.drew.drew (.cells ROW 55)
  have g1 : w.grownBy W1 none := by rw [hW1]; exact (g_drew (g_drew (World.grownBy.refl w none))).trans (World.grownBy_alloc w.drew.drew _ none)
  have hN : ∀ j, j < tot → (W1.cell? ⟨w.heap.size, j, none⟩).isSome = true := fun j hj => by
    unfold World.cell?; rw [hh1]; simp at hRl; simp; omega
  have hNf : ∀ j, W1.frozen? ⟨w.heap.size, j, none⟩ = false := fun j => by unfold World.frozen?; rw [hh1]; simp
  have hbN : b ≠ w.heap.size := by omega
  have hdl : ((ptrs l).drop (i + 1)).length = n - (i + 1) := by rw [List.length_drop, hpl]
  have hcpA : ∀ ty dc, (Builtin.copy_ #[53, 53] ty #[.slice (some ⟨w.heap.size, i, none⟩) (tot - i) dc, .slice (some ⟨vb, 0, none⟩) m vc]).run Tryd.prog W1 = .ok (goInt (ptrs vs).length) (W1.setCells w.heap.size i (ptrs vs)) := fun ty dc =>
    run_copy_cells W1 _ _ ty 55 w.heap.size i (tot - i) dc ⟨vb, 0, none⟩ m vc (ptrs vs) Tryd.underlying53 hsz (by rw [hvpl]; simp only [Nat.min_def]; split <;> omega)
      (fun j v hj => by
        rw [Addr.add_lit, Nat.zero_add]
        exact g1.cell (hcellv j v hj) (by simp))
      (fun j hj => by rw [hvpl] at hj; exact hN _ (by omega)) (fun j hj => hNf _) (fun v hv => ptrs_one vs v hv)
  obtain ⟨W2, hW2⟩ : ∃ W2, W2 = W1.setCells w.heap.size i (ptrs vs) := ⟨_, rfl⟩
  rw [← hW2] at hcpA
  have hcpB : ∀ ty dc sc, (Builtin.copy_ #[53, 53] ty #[.slice (some ⟨w.heap.size, i + m, none⟩) (tot - (i + m)) dc, .slice (some ⟨b, i + 1, none⟩) (n - (i + 1)) sc]).run Tryd.prog W2.drew = .ok (goInt ((ptrs l).drop (i + 1)).length) (W2.drew.setCells w.heap.size (i + m) ((ptrs l).drop (i + 1))) := fun ty dc sc =>
    run_copy_cells W2.drew _ _ ty 55 w.heap.size (i + m) (tot - (i + m)) dc ⟨b, i + 1, none⟩ (n - (i + 1)) sc ((ptrs l).drop (i + 1)) Tryd.underlying53 hsz (by rw [hdl]; simp only [Nat.min_def]; split <;> omega)
      (fun j v hj => by
        show W2.cell? _ = _
        rw [Addr.add_lit, hW2, World.cell?_setCells_out _ _ _ _ _ (fun h _ => absurd h hbN)]
        exact g1.cell (hcellp (i + 1 + j) v (by rwa [List.getElem?_drop] at hj)) (by simp))
      (fun j hj => by
        show (W2.cell? _).isSome = true
        rw [hdl] at hj
        rw [hW2]; exact isSome_setCells _ _ _ _ (fun t ht => hN _ (by rw [hvpl] at ht; omega)) _ (hN _ (by omega)))
      (fun j hj => by show W2.frozen? _ = _; rw [hW2, World.frozen?_setCells]; exact hNf _) (fun v hv => ptrs_one l v (List.mem_of_mem_drop hv))
  have hi1 : ¬ ((i : Int) = (i : Int) + 1) := by omega
  have hi2 : (0 : Int) ≤ (i : Int) + 1 := by omega
  have hi3 : (i : Int) ≤ (i : Int) + 1 := by omega
  have hi5 : (i : Int) + 1 ≤ (c : Int) := by omega
  have hi6 : (i : Int) + 1 ≤ (n : Int) := by omega
  have hi7 : ¬ ((i : Int) + 1 = (n : Int)) := by omega
  have htn : ((i : Int) + 1).toNat = i + 1 := by omega
  have hin : i ≤ n := by omega
  have hic : i ≤ c := by omega
  have hci1 : ¬ (c = i + 1) := by omega
  have hw1 : IntKind.i64.wrap ((i : Int) + (m : Int)) = (i : Int) + (m : Int) := by rw [IntKind.wrap_i64]; omega
  have hj1 : (0 : Int) ≤ (i : Int) + (m : Int) := by omega
  have hj2 : ((i : Int) + (m : Int)).toNat = i + m := by omega
  have hj3 : (i : Int) + (m : Int) ≤ (tot : Int) := by omega
  have hj4 : ¬ (G = i + m) := by omega
  have hj5 : ¬ ((tot : Int) ≤ (c : Int)) := by omega
  have hj6 : ¬ (G = i) := by omega
  have hj7 : (i : Int) ≤ (tot : Int) := by omega
  have hw2 : IntKind.i64.wrap ((i : Int) + (m : Int) + ((n - (i + 1) : Nat) : Int)) = (tot : Int) := by rw [IntKind.wrap_i64]; omega
  have hw3 : IntKind.i64.wrap ((tot : Int) - (i : Int)) = (tot : Int) - (i : Int) := by rw [IntKind.wrap_i64]; omega
  replace hW2 := Lib.hid hW2; replace hW1 := Lib.hid hW1; replace hO := Lib.hid hO; replace hV := Lib.hid hV; replace hn := Lib.hid hn; replace hm := Lib.hid hm; replace hcellp := Lib.hid hcellp; replace hcellv := Lib.hid hcellv; replace hROW := Lib.hid hROW; replace hh1 := Lib.hid hh1; replace hRl := Lib.hid hRl; replace hRt := Lib.hid hRt; replace g1 := Lib.hid g1; replace hG := Lib.hid hG
  replace hN := Lib.hid hN; replace hNf := Lib.hid hNf; replace hold := Lib.hid hold; replace hh := Lib.hid hh; replace hvh := Lib.hid hvh; replace hcl := Lib.hid hcl; replace hvl := Lib.hid hvl; replace htk := Lib.hid htk; replace hvt := Lib.hid hvt; replace hpl := Lib.hid hpl; replace hvpl := Lib.hid hvpl; replace hdl := Lib.hid hdl
  replace hcpA := Lib.hid hcpA; replace hcpB := Lib.hid hcpB; replace hrz := Lib.hid hrz
  clear hrz0 hkk hik
  go_enter Tryd.func39, Tryd.ntmps39
  go_upto_region 9 with fail
  refine wp_region_still_tail 12 (by kernel_rfl) (by kernel_rfl) ?_
  simp only [List.take_succ_cons, List.take_zero, List.drop_succ_cons, List.drop_zero]
  repeat still_step
  refine wpStill_nil ?_
  change wpList _ _ _ _ _ w.drew
  have hrz' := hrz.out
  have hcpA' := hcpA.out
  go_wp2_with (first
    | (at_builtin; go_must (refine Lib.wpList_append_run _ rfl _ _ _ _ rfl _ _ rfl rfl _ _ (hrz' _) ?_))
    | (at_builtin; go_must (refine wpList_copy_runI _ rfl _ _ 53 53 rfl _ _ rfl rfl (hcpA' _ _) ?_))
    | fail)
  go_still_tail 9, (by kernel_rfl)
  change wpList _ _ _ _ _ W2.drew
  have hcpB' := hcpB.out
  go_wp2_with (first
    | (at_builtin; go_must (refine wpList_copy_runI _ rfl _ _ 53 53 rfl _ _ rfl rfl (hcpB' _ _ _) ?_))
    | fail)
  go_ret
  have hRl2 := hRl.out; have hvpl' := hvpl.out; have hpl' := hpl.out; have hdl' := hdl.out
  have h2 := heap_setCells (ptrs vs) i W1 ROW.toList hh1.out (by rw [hRl2, hvpl']; omega)
  rw [← hW2.out] at h2
  obtain ⟨L2, hL2⟩ : ∃ L2, L2 = ROW.toList.take i ++ ptrs vs ++ ROW.toList.drop (i + (ptrs vs).length) := ⟨_, rfl⟩
  rw [← hL2] at h2
  have a1 : (ROW.toList.take i ++ ptrs vs).length = i + m := by rw [List.length_append, List.length_take, hRl2, hvpl']; omega
  have hl2 : L2.length = G := by
    rw [hL2, List.length_append, a1, List.length_drop, hRl2, hvpl']; omega
  have h3 := heap_setCells ((ptrs l).drop (i + 1)) (i + m) W2.drew L2 h2 (by rw [hdl', hl2]; omega)
  have htk : L2.take (i + m) = (ptrs l).take i ++ ptrs vs := by
    rw [hL2, List.take_append_of_le_length (by omega), List.take_of_length_le (by omega), hRt.out]
  rw [htk] at h3
  have a4 : ((ptrs l).take i ++ ptrs vs ++ (ptrs l).drop (i + 1)).length = tot := by simp only [List.length_append, List.length_take, hdl', hpl', hvpl']; omega
  refine ⟨w.heap.size, G, tot, by rw [← hn.out, ← hm.out]; omega, rfl, own_of hbase h3 hGn hG63 ?_ ?_, ?_, .inr (Nat.le_refl _)⟩
  · rw [List.length_append, a4, List.length_drop, hl2, hdl']; omega
  · rw [List.take_append_of_le_length (by omega), List.take_of_length_le (by omega)]
    simp [ptrs, List.map_take, List.map_drop]
  · have o1 : Off [w.heap.size] w W2 := by
      rw [hW2.out]
      exact (Off.of_grown (S := [w.heap.size]) g1.out).trans (Off.setCells _ _ _) (by simp)
    have o2 : Off [w.heap.size] w (W2.drew.setCells w.heap.size (i + m) ((ptrs l).drop (i + 1))) := (o1.trans (Off.drew (S := []) W2) (by simp)).trans (Off.setCells _ _ _) (by simp)
    exact o2.sub (by simp)

theorem replace_any (base b n c i vb vc m : Nat) (l vs : List T) (w : World) (hn : n = l.length) (hi : i < n) (hb : n ≤ 1000) (hm : m = vs.length) (hm2 : 2 ≤ m) (hmb : m ≤ 1000) (hbase : base ≤ w.heap.size)
    (hO : w.ownsRow base 55 1 (.slice (some ⟨b, 0, none⟩) n c) n (ptrs l)) (hV : w.ownsRow 0 55 1 (.slice (some ⟨vb, 0, none⟩) m vc) m (ptrs vs)) (hvb : vb ≠ b) :
    Calls Tryd.prog 39 #[.slice (some ⟨b, 0, none⟩) n c, .int .i64 i, .int .i64 ((i : Int) + 1), .slice (some ⟨vb, 0, none⟩) m vc] w (RepPost base w b l vs i) := by
  rcases Nat.lt_or_ge (i + 1) n with h1 | h1
  · rcases Nat.lt_or_ge (c + 1) (n + m) with h2 | h2
    · exact replace_grow base b n c i vb vc m l vs w hn h1 hb hm hm2 hmb h2 hbase hO hV
    · exact replace_shift base b n c i vb vc m l vs w hn h1 hb hm hm2 hmb h2 hO hV hvb
  · obtain rfl : n = i + 1 := by omega
    exact replace_end base b i c vb vc m l vs w hn (by omega) hm hm2 hmb hbase hO hV
end Go.Proofs.YtcklmkjlbpjojaaDoor
