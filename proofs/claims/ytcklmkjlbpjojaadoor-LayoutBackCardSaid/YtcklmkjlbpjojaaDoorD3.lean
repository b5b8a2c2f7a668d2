/- Layout: Insert at the end; Insert into a new row. -/
import Derived.Test.YtcklmkjlbpjojaaDoorD2
namespace Go.Proofs.YtcklmkjlbpjojaaDoor
open Go.RowKit Go.Lib
set_option linter.unusedSimpArgs false
set_option linter.unusedVariables false

set_option maxHeartbeats 1000000 in
set_option maxRecDepth 100000 in
theorem insert_end (base : Nat) (b n c vb g : Nat) (l : List T) (w : World) (hn : n = l.length) (hb : n ≤ 100000) (hbase : base ≤ w.heap.size) (hO : w.ownsRow base 55 1 (.slice (some ⟨b, 0, none⟩) n c) n (ptrs l))
    (hv : w.heap[vb]? = some (.cells #[ptr g] 55 (0, 0))) :
    Calls Tryd.prog 35 #[.slice (some ⟨b, 0, none⟩) n c, .int .i64 n, .slice (some ⟨vb, 0, none⟩) 1 1] w (InsPost base w (some b) l n g) := by
  have hnc : n ≤ c ∧ c ≤ 9223372036854775807 := by
    obtain ⟨A', c', e, _, _, h1, h2⟩ := Rd.of_own hO
    injection e with _ _ e; subst e; exact ⟨h1, h2⟩
  obtain ⟨hnc, hc63⟩ := hnc
  have hR : Rd w (some ⟨vb, 0, none⟩) [ptr g] := fun _ => ⟨vb, 0, rfl, lt_of_heap hv, fun j u hj => by
    rcases j with _ | j
    · simp at hj; subst hj; unfold World.cell?; rw [hv]; rfl
    · simp at hj⟩
  have hb4 : ∀ x : Nat, (if c = n then some (⟨b, 0, none⟩ : Addr) else some ⟨b, n, none⟩) = (if c = n then some (⟨b, 0, none⟩ : Addr) else some ⟨b, n, none⟩) := fun _ => rfl
  replace hO := Lib.hid hO; replace hR := Lib.hid hR; replace hv := Lib.hid hv; replace hn := Lib.hid hn
  clear hb4
  go_enter Tryd.func35, Tryd.ntmps35
  go_wp2_with (first
    | (at_builtin; go_must (refine ap53 rfl (.tmp 23) (.tmp 24) rfl base (.slice (some ⟨b, 0, none⟩) n c) n _ rfl hO.out (some ⟨vb, 0, none⟩) 1 1 [ptr g] rfl rfl hR.out (by intro u hu; simp at hu; subst hu; rfl) (by omega) hbase ?_; intro A2 c2 w2 O2 G2 hh2; replace hh2 := Lib.hid hh2))
    | fail)
  all_goals
    go_ret
    have hp : ptrs (l.take n) ++ ptr g :: ptrs (l.drop n) = ptrs l ++ [ptr g] := by
      rw [List.take_of_length_le (by rw [← hn.out]; exact Nat.le_refl _), List.drop_of_length_le (by rw [← hn.out]; exact Nat.le_refl _)]; rfl
    obtain ⟨b2, hA2⟩ : ∃ b2, A2 = some ⟨b2, 0, none⟩ := by
      rcases O2.2 with ⟨h, _⟩ | ⟨g', cap, cur, h, _⟩
      · injection h with _ h; omega
      · injection h with h; exact ⟨g', h⟩
    subst hA2
    refine ⟨some b2, c2, by rw [← hn.out]; rfl, by rw [← hn.out, hp]; exact O2, Off.of_row G2, ?_⟩
    rcases hh2.out with h | h
    · injection h with h; have h' : b2 = b := h; exact .inl (by rw [h'])
    · injection h with h; have h' : b2 = w.heap.size := h; exact .inr ⟨b2, rfl, by omega⟩

set_option maxHeartbeats 4000000 in
set_option maxRecDepth 100000 in
theorem insert_grow (base : Nat) (b n c i vb g : Nat) (l : List T) (w : World) (hn : n = l.length) (hb : n ≤ 100000) (hi : i < n) (hroom : c < n + 1) (hbase : base ≤ w.heap.size) (hO : w.ownsRow base 55 1 (.slice (some ⟨b, 0, none⟩) n c) n (ptrs l))
    (hv : w.heap[vb]? = some (.cells #[ptr g] 55 (0, 0))) :
    Calls Tryd.prog 35 #[.slice (some ⟨b, 0, none⟩) n c, .int .i64 i, .slice (some ⟨vb, 0, none⟩) 1 1] w (InsPost base w (some b) l i g) := by
  have hnc : n ≤ c ∧ c ≤ 9223372036854775807 := by
    obtain ⟨A', c', e, _, _, h1, h2⟩ := Rd.of_own hO
    injection e with _ _ e; subst e; exact ⟨h1, h2⟩
  obtain ⟨hnc, hc63⟩ := hnc
  have hcn : c = n := by omega
  subst hcn
  obtain ⟨i0, hi0, hz0, hzs, hzb⟩ := info_parts info55
  have hsz : (Tryd.prog.info? 55).map (·.size) = some 1 := by rw [hi0]; simp [hzs]
  have hpl : (ptrs l).length = c := by rw [ptrs_len, hn]
  have hbw : b < w.heap.size := (hO.lt b rfl).2
  have hvw : vb < w.heap.size := lt_of_heap hv
  have hcellp : ∀ j v, (ptrs l)[j]? = some v → w.cell? ⟨b, j, none⟩ = some v := fun j v hj => by
    have := hO.cells (g := b) rfl j v hj
    rwa [Addr.add_lit, Nat.zero_add] at this
  have hold : (Builtin.firstCells i0.size i (.slice (some ⟨b, 0, none⟩) i c)).run Tryd.prog w.drew = .ok ((ptrs l).take i).toArray w.drew := by
    rw [hzs]
    exact run_firstCells_some w.drew 1 i ⟨b, 0, none⟩ i c ((ptrs l).take i) (by rw [List.length_take]; omega) (fun j v hj => by
      rw [Addr.add_lit, Nat.zero_add]
      rw [List.getElem?_take] at hj
      split at hj
      · exact hcellp j v hj
      · cases hj)
  have hkk : (c : Int) + 1 - (i : Int) = ((c + 1 - i : Nat) : Int) := by omega
  have hik : i + (c + 1 - i) = c + 1 := by omega
  obtain ⟨G, hG⟩ : ∃ G, G = grownCap w (c + 1) c 55 := ⟨_, rfl⟩
  have hrz0 := fun ty => Lib.run_append_grow_zeros w 53 3 ty 55 i0 _ .i64 .i64 Tryd.underlying53 Tryd.underlying3 hi0 hz0 (some ⟨b, 0, none⟩) i c ((ptrs l).take i) hold (c + 1 - i) (by omega) (by omega) (by omega) (by omega) (by rw [hzb]; omega) (by rw [hzb, hik]; exact growslice_fits (by omega) (by omega))
  rw [hik] at hrz0
  rw [← hG] at hrz0
  obtain ⟨ROW, hROW⟩ : ∃ ROW : Array Value, ROW = ((ptrs l).take i).toArray ++ Builtin.zeroCells (Value.pointer none).cells (c + 1 - i) ++ Builtin.zeroCells (Value.pointer none).cells (G - (c + 1)) := ⟨_, rfl⟩
  rw [← hROW] at hrz0
  have hrz : ∀ ty, (Builtin.append_ #[53, 3] ty #[.slice (some ⟨b, 0, none⟩) i c, .int .i64 ((c : Int) + 1 - (i : Int))]).run Tryd.prog w = .ok (.slice (some ⟨w.heap.size, 0, none⟩) (c + 1) G) (w.drew.alloc (.cells ROW 55)) := fun ty => by rw [hkk]; exact hrz0 ty
  have hGn : c + 1 ≤ G := by rw [hG]; exact grownCap_ge w _ _ _
  have hG63 : G ≤ 9223372036854775807 := by
    have := grownCap_le_maxLen w (c + 1) c 55 (by unfold maxLen; omega)
    rw [← hG] at this; exact this
  have hRl : ROW.size = G := by
    rw [hROW]
    simp [Builtin.zeroCells, Value.cells, ptrs_len]
    omega
  have hRt : ROW.toList.take i = (ptrs l).take i := by
    rw [hROW]
    simp only [Array.toList_append, List.append_assoc]
    rw [List.take_append_of_le_length (by simp [ptrs_len]; omega)]
    rw [List.take_of_length_le (by simp [ptrs_len]; omega)]
  obtain ⟨W1, hW1⟩ : ∃ W1, W1 = w.drew.alloc (.cells ROW 55) := ⟨_, rfl⟩
  rw [← hW1] at hrz
  have hh1 : W1.heap[w.heap.size]? = some (.cells ROW.toList.toArray 55 (0, 0)) := by rw [hW1]; simpa using heap_alloc_new w.drew (.cells ROW 55)
  have g1 : w.grownBy W1 none := by rw [hW1]; exact (g_drew (World.grownBy.refl w none)).trans (World.grownBy_alloc w.drew _ none)
  have hN : ∀ j, j < c + 1 → (W1.cell? ⟨w.heap.size, j, none⟩).isSome = true := fun j hj => by
    unfold World.cell?; rw [hh1]; simp; omega
  have hNf : ∀ j, W1.frozen? ⟨w.heap.size, j, none⟩ = false := fun j => by unfold World.frozen?; rw [hh1]; simp
  have hbN : b ≠ w.heap.size := by omega
  have hdl : ((ptrs l).drop i).length = c - i := by rw [List.length_drop, hpl]
  have hcpA : ∀ (W : World), (∀ x, W.cell? x = W1.cell? x) → (∀ x, W.frozen? x = W1.frozen? x) → ∀ ty dc, (Builtin.copy_ #[53, 53] ty #[.slice (some ⟨w.heap.size, i, none⟩) (c + 1 - i) dc, .slice (some ⟨vb, 0, none⟩) 1 1]).run Tryd.prog W = .ok (goInt [ptr g].length) (W.setCells w.heap.size i [ptr g]) := fun W hWc hWf ty dc =>
    run_copy_cells W _ _ ty 55 w.heap.size i (c + 1 - i) dc ⟨vb, 0, none⟩ 1 1 [ptr g] Tryd.underlying53 hsz (by simp only [List.length_singleton, Nat.min_def]; split <;> omega)
      (fun j v hj => by
        rw [Addr.add_lit, hWc]
        rcases j with _ | j
        · have hvv : w.cell? ⟨vb, 0, none⟩ = some (ptr g) := by unfold World.cell?; rw [hv]; rfl
          simp at hj; subst hj
          exact g1.cell hvv (by simp)
        · simp at hj)
      (fun j hj => by rw [hWc]; simp at hj; exact hN _ (by omega)) (fun j hj => by rw [hWf]; exact hNf _) (fun v hv => by simp at hv; subst hv; rfl)
  obtain ⟨W2, hW2⟩ : ∃ W2, W2 = W1.setCells w.heap.size i [ptr g] := ⟨_, rfl⟩
  have hcpB : ∀ (W : World), (∀ x, W.cell? x = W2.cell? x) → (∀ x, W.frozen? x = W2.frozen? x) → ∀ ty dc sc, (Builtin.copy_ #[53, 53] ty #[.slice (some ⟨w.heap.size, i + 1, none⟩) (c - i) dc, .slice (some ⟨b, i, none⟩) (c - i) sc]).run Tryd.prog W = .ok (goInt ((ptrs l).drop i).length) (W.setCells w.heap.size (i + 1) ((ptrs l).drop i)) := fun W hWc hWf ty dc sc =>
    run_copy_cells W _ _ ty 55 w.heap.size (i + 1) (c - i) dc ⟨b, i, none⟩ (c - i) sc ((ptrs l).drop i) Tryd.underlying53 hsz (by rw [hdl]; simp)
      (fun j v hj => by
        rw [Addr.add_lit, hWc, hW2, World.cell?_setCells_out _ _ _ _ _ (fun h _ => absurd h hbN)]
        exact g1.cell (hcellp (i + j) v (by rwa [List.getElem?_drop] at hj)) (by simp))
      (fun j hj => by rw [hWc, hW2]; exact isSome_setCells _ _ _ _ (fun t ht => hN _ (by simp at ht; omega)) _ (hN _ (by omega)))
      (fun j hj => by rw [hWf, hW2, World.frozen?_setCells]; exact hNf _) (fun v hv => ptrs_one l v (List.mem_of_mem_drop hv))
  have hz2 : ¬ ((i : Int) = (c : Int)) := by omega
  have hin : i ≤ c := by omega
  have hw1 : IntKind.i64.wrap ((i : Int) + 1) = (i : Int) + 1 := by rw [IntKind.wrap_i64]; omega
  have hw2 : IntKind.i64.wrap ((c : Int) + 1) = (c : Int) + 1 := by rw [IntKind.wrap_i64]; omega
  have hb1 : (0 : Int) ≤ (i : Int) + 1 := by omega
  have htn : ((i : Int) + 1).toNat = i + 1 := by omega
  have hb3 : (i : Int) ≤ (c : Int) + 1 := by omega
  have hGi : ¬ (G = i) := by omega
  have hGim : ¬ (G = i + 1) := by omega
  have hci : ¬ (c = i) := by omega
  have hib : (i : Int) + 1 ≤ (c : Int) + 1 := by omega
  replace hW2 := Lib.hid hW2; replace hW1 := Lib.hid hW1; replace hO := Lib.hid hO; replace hv := Lib.hid hv; replace hn := Lib.hid hn; replace hcellp := Lib.hid hcellp; replace hROW := Lib.hid hROW; replace hh1 := Lib.hid hh1; replace hRl := Lib.hid hRl; replace hRt := Lib.hid hRt; replace g1 := Lib.hid g1; replace hG := Lib.hid hG
  replace hN := Lib.hid hN; replace hNf := Lib.hid hNf; replace hold := Lib.hid hold
  clear hrz0 hkk hik
  go_enter Tryd.func35, Tryd.ntmps35
  go_wp2_with (first
    | (at_builtin; go_must (refine Lib.wpList_append_run _ rfl _ _ _ _ rfl _ _ rfl rfl _ _ (hrz _) ?_))
    | (at_builtin; go_must (refine wpList_copy_runI _ rfl _ _ 53 53 rfl _ _ rfl rfl (hcpA _ (fun _ => rfl) (fun _ => rfl) _ _) ?_))
    | fail)
  rw [← hW2.out]
  go_still_tail 8, (by kernel_rfl)
  change wpList _ _ _ _ _ W2.drew
  have hcpC := hcpB W2.drew (fun _ => rfl) (fun _ => rfl)
  clear hcpB hcpA
  go_wp2_with fail
  go_ret
  have hRl2 : ROW.toList.length = G := by simpa using hRl.out
  have h2 := heap_setCells [ptr g] i W1 ROW.toList hh1.out (by rw [hRl2]; simp only [List.length_singleton]; omega)
  rw [← hW2.out] at h2
  obtain ⟨L2, hL2⟩ : ∃ L2, L2 = ROW.toList.take i ++ [ptr g] ++ ROW.toList.drop (i + [ptr g].length) := ⟨_, rfl⟩
  rw [← hL2] at h2
  have a1 : (ROW.toList.take i ++ [ptr g]).length = i + 1 := by rw [List.length_append, List.length_take, hRl2]; simp only [List.length_singleton]; omega
  have hl2 : L2.length = G := by
    rw [hL2, List.length_append, a1, List.length_drop, hRl2]; simp only [List.length_singleton]; omega
  have h3 := heap_setCells ((ptrs l).drop i) (i + 1) W2.drew L2 h2 (by rw [hdl]; omega)
  have htk : L2.take (i + 1) = (ptrs l).take i ++ [ptr g] := by
    rw [hL2, List.take_append_of_le_length (by omega), List.take_of_length_le (by omega), hRt.out]
  refine ⟨some w.heap.size, G, by rw [← hn.out]; rfl, ⟨by have := hn.out; simp [ptrs_len]; omega, .inr ⟨w.heap.size, G, _, by rw [← hn.out]; rfl, hbase, h3, by have := hn.out; omega, hG63, ?_, ?_⟩⟩, ?_, .inr ⟨_, rfl, Nat.le_refl _⟩⟩
  · have a2 : (L2.take (i + 1)).length = i + 1 := by rw [List.length_take]; omega
    have a3 : (L2.drop (i + 1 + ((ptrs l).drop i).length)).length = G - (c + 1) := by rw [List.length_drop, hdl]; omega
    rw [List.size_toArray, List.length_append, List.length_append, a2, a3, hdl]; omega
  · rw [htk, Nat.mul_one, ← hn.out]
    have a4 : ((ptrs l).take i ++ [ptr g] ++ (ptrs l).drop i).length = c + 1 := by simp only [List.length_append, List.length_take, hdl, hpl, List.length_singleton]; omega
    show List.take (c + 1) _ = _
    rw [List.take_append_of_le_length (by omega), List.take_of_length_le (by omega)]
    simp [ptrs, List.map_take, List.map_drop]
  · have o1 : Off [w.heap.size] w W2 := by
      rw [hW2.out]
      exact (Off.of_grown (S := [w.heap.size]) g1.out).trans (Off.setCells _ _ _) (by simp)
    have o2 : Off [w.heap.size] w (W2.drew.setCells w.heap.size (i + 1) ((ptrs l).drop i)) := (o1.trans (Off.drew (S := []) W2) (by simp)).trans (Off.setCells _ _ _) (by simp)
    exact o2.sub (by simp)
end Go.Proofs.YtcklmkjlbpjojaaDoor
