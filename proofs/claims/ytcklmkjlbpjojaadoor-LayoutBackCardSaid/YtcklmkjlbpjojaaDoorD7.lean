/- Layout: Delete of one kid. -/
import Derived.Test.YtcklmkjlbpjojaaDoorD3
namespace Go.Proofs.YtcklmkjlbpjojaaDoor
open Go.RowKit Go.Lib
set_option linter.unusedSimpArgs false
set_option linter.unusedVariables false

theorem zero55 : ∀ w, (zeroValue 55).run Tryd.prog w = .ok (.pointer none) w := fun w => by
  obtain ⟨i0, hi0, h0, h1, h2⟩ := info_parts info55
  simp [zeroValue, typeInfo, hi0, h0]

set_option maxHeartbeats 4000000 in
set_option maxRecDepth 100000 in
theorem delete_any (base : Nat) (b n c i : Nat) (l : List T) (w : World) (hn : n = l.length) (hi : i < n) (hO : w.ownsRow base 55 1 (.slice (some ⟨b, 0, none⟩) n c) n (ptrs l)) :
    Calls Tryd.prog 38 #[.slice (some ⟨b, 0, none⟩) n c, .int .i64 i, .int .i64 ((i : Int) + 1)] w fun e w' => e = .returned (.slice (some ⟨b, 0, none⟩) (n - 1) c) ∧
      w'.ownsRow base 55 1 (.slice (some ⟨b, 0, none⟩) (n - 1) c) (n - 1) (ptrs (l.take i ++ l.drop (i + 1))) ∧ Off [b] w w' := by
  obtain ⟨cur, hbase, hh, hnc, hcm, hcs, htk⟩ : ∃ cur : Array Value, base ≤ b ∧ w.heap[b]? = some (.cells cur 55 (0, 0)) ∧ n ≤ c ∧ c ≤ maxLen ∧ cur.size = c ∧ cur.toList.take n = ptrs l := by
    rcases hO.2 with ⟨h, _⟩ | ⟨g', cap, cur, h, h1, h2, h3, h4, h5, h6⟩
    · cases h
    · injection h with h7 _ h8
      injection h7 with h7; injection h7 with h7
      subst h7; subst h8
      exact ⟨cur, h1, h2, h3, h4, by omega, by simpa using h6⟩
  have hc63 : c ≤ 9223372036854775807 := hcm
  have hpl : (ptrs l).length = n := by rw [ptrs_len, hn]
  have hdl : ((ptrs l).drop (i + 1)).length = n - (i + 1) := by rw [List.length_drop, hpl]
  have hz2 : ¬ ((i : Int) = (i : Int) + 1) := by omega
  have hb1 : (0 : Int) ≤ (i : Int) + 1 := by omega
  have hb2 : (i : Int) + 1 ≤ (n : Int) := by omega
  have hb3 : (i : Int) ≤ (i : Int) + 1 := by omega
  have hb5 : (i : Int) + 1 ≤ (c : Int) := by omega
  have htn : ((i : Int) + 1).toNat = i + 1 := by omega
  have hic : i ≤ c := by omega
  replace hh := Lib.hid hh; replace hO := Lib.hid hO; replace htk := Lib.hid htk; replace hcs := Lib.hid hcs; replace hn := Lib.hid hn
  have hcell : ∀ j, j < c → ∃ v, w.cell? ⟨b, j, none⟩ = some v := fun j hj => by
    refine ⟨cur[j]'(by have := hcs.out; omega), ?_⟩
    unfold World.cell?; rw [hh.out]; simp
  have hcellp : ∀ j v, (ptrs l)[j]? = some v → w.cell? ⟨b, j, none⟩ = some v := fun j v hj => by
    have := hO.out.cells (g := b) rfl j v hj
    rwa [Addr.add_lit, Nat.zero_add] at this
  have hfz : ∀ j, w.frozen? ⟨b, j, none⟩ = false := fun j => by unfold World.frozen?; rw [hh.out]; simp
  obtain ⟨A, hA, hsrc⟩ : ∃ A : Addr, (if c = i + 1 then some (⟨b, 0, none⟩ : Addr) else some ⟨b, i + 1, none⟩) = some A ∧ ∀ t u, ((ptrs l).drop (i + 1))[t]? = some u → w.drew.cell? (A.add t) = some u := by
    by_cases h : c = i + 1
    · refine ⟨⟨b, 0, none⟩, by simp [h], fun t u hu => ?_⟩
      have := (List.getElem?_eq_some_iff.1 hu).1
      rw [hdl] at this; omega
    · refine ⟨⟨b, i + 1, none⟩, by simp [h], fun t u hu => ?_⟩
      rw [Addr.add_lit]
      exact hcellp _ _ (by rwa [List.getElem?_drop] at hu)
  have hS : Src Tryd.prog 1 53 (.slice (some A) (n - (i + 1)) (c - (i + 1))) (n - (i + 1)) ((ptrs l).drop (i + 1)) w.drew :=
    Src.ofSlice w.drew Tryd.underlying53 A _ _ _ (by rw [hdl]; omega) hsrc (fun u hu => ptrs_one l u (List.mem_of_mem_drop hu))
  obtain ⟨W1, hW1⟩ : ∃ W1, W1 = w.drew.setCells b (0 + i) ((ptrs l).drop (i + 1)) := ⟨_, rfl⟩
  have hsp1 : ∀ k, k < c → (W1.cell? ⟨b, k, none⟩).isSome = true := fun k hk => by
    rw [hW1]
    exact isSome_setCells b _ _ _ (fun j hj => by rw [hdl] at hj; obtain ⟨v, hv⟩ := hcell (0 + i + j) (by omega); show (w.cell? _).isSome = true; rw [hv]; rfl) _ (by obtain ⟨v, hv⟩ := hcell k hk; show (w.cell? _).isSome = true; rw [hv]; rfl)
  have hcl : ∀ ty, (Builtin.clear_ #[53] ty #[.slice (some ⟨b, i + (n - (i + 1)), none⟩) (n - (i + (n - (i + 1)))) (c - (i + (n - (i + 1))))]).run Tryd.prog W1 = .ok (.tuple #[]) (W1.setCells b (i + (n - (i + 1))) (List.replicate (n - (i + (n - (i + 1)))) (.pointer none))) := fun ty =>
    run_clear_slice W1 53 55 ty (.pointer none) Tryd.underlying53 zero55 rfl rfl b (i + (n - (i + 1))) _ _ (by omega) (fun j hj => hsp1 _ (by omega)) (fun j hj => by rw [hW1, World.frozen?_setCells]; exact hfz _)
  have hW := Lib.hid hW1
  replace hsp1 := Lib.hid hsp1
  replace hcell := Lib.hid hcell; replace hcellp := Lib.hid hcellp; replace hsrc := Lib.hid hsrc; replace hS := Lib.hid hS; replace hfz := Lib.hid hfz
  clear hW1
  go_enter Tryd.func38, Tryd.ntmps38
  go_wp2_with fail
  go_still_tail 6, (by kernel_rfl)
  change wpList _ _ _ _ _ w.drew
  go_wp2_with (first
    | (at_builtin; go_must (refine wpList_append_room1 _ rfl _ _ 53 53 rfl 55 _ _ Tryd.underlying53 info55 b 0 i c rfl _ rfl (n - (i + 1)) ((ptrs l).drop (i + 1)) hS.out (by omega) (fun j hj => by rw [hdl] at hj; obtain ⟨v, hv⟩ := hcell.out (0 + i + j) (by omega); show (w.cell? _).isSome = true; rw [hv]; rfl) (fun j hj => hfz.out _) ?_; rw [← hW.out]))
    | fail)
  go_ret
  have e1 : i + (n - (i + 1)) = n - 1 := by omega
  have h1 : (w.drew).heap[b]? = some (.cells cur.toList.toArray 55 (0, 0)) := by show w.heap[b]? = _; simpa using hh.out
  have hcl2 : cur.toList.length = c := by simpa using hcs.out
  have h2 := heap_setCells ((ptrs l).drop (i + 1)) (0 + i) w.drew cur.toList h1 (by rw [hdl]; omega)
  rw [← hW.out] at h2
  obtain ⟨L2, hL2⟩ : ∃ L2, L2 = cur.toList.take (0 + i) ++ (ptrs l).drop (i + 1) ++ cur.toList.drop (0 + i + ((ptrs l).drop (i + 1)).length) := ⟨_, rfl⟩
  have a1 : (cur.toList.take (0 + i) ++ (ptrs l).drop (i + 1)).length = n - 1 := by rw [List.length_append, List.length_take, hdl]; omega
  have hl2 : L2.length = c := by rw [hL2, List.length_append, a1, List.length_drop, hdl]; omega
  rw [← hL2] at h2
  have h3 := heap_setCells (List.replicate (n - (i + (n - (i + 1)))) (Value.pointer none)) (i + (n - (i + 1))) W1 L2 h2 (by rw [List.length_replicate]; omega)
  refine ⟨by rw [← e1]; rfl, ⟨by have := hn.out; simp [ptrs]; omega, .inr ⟨b, c, _, rfl, hbase, h3, by omega, hcm, ?_, ?_⟩⟩, ?_⟩
  · have a2 : (L2.take (i + (n - (i + 1)))).length = i + (n - (i + 1)) := by rw [List.length_take]; omega
    rw [List.size_toArray, List.length_append, List.length_append, a2, List.length_replicate, List.length_drop]; omega
  · show List.take ((n - 1) * 1) _ = _
    rw [Nat.mul_one]
    have a2 : (L2.take (i + (n - (i + 1)))).length = n - 1 := by rw [List.length_take]; omega
    rw [List.append_assoc, List.take_append_of_le_length (by omega), List.take_of_length_le (by omega), e1, hL2, List.take_append_of_le_length (by omega), List.take_of_length_le (by omega)]
    have e3 : cur.toList.take (0 + i) = (ptrs l).take i := by rw [← htk.out, List.take_take, Nat.min_eq_left (by omega), Nat.zero_add]
    rw [e3]
    simp [ptrs, List.map_take, List.map_drop]
  · have o1 : Off [b] w W1 := by
      rw [hW.out]
      exact (Off.drew (S := [b]) w).trans (Off.setCells _ _ _) (by simp)
    exact o1.trans (Off.setCells _ _ W1) (by simp)
end Go.Proofs.YtcklmkjlbpjojaaDoor
