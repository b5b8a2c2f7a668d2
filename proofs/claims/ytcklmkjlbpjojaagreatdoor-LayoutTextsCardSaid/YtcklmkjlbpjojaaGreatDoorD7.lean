/- Layout: splits of the two ways by turns. No walk. Layout: least of a leaf; grow. Layout: Delete of one kid. -/
import Derived.Test.YtcklmkjlbpjojaaGreatDoorM1
import Derived.Test.YtcklmkjlbpjojaaGreatDoorE2c
import Derived.Test.YtcklmkjlbpjojaaGreatDoorF0
import Derived.Deep.DeepCutAuto
import Derived.Deep.CutBlock
import Derived.Test.YtcklmkjlbpjojaaGreatDoorD3
namespace Go.Proofs.YtcklmkjlbpjojaaGreatDoor
open Go.RowKit
set_option linter.unusedSimpArgs false
set_option linter.unusedVariables false

theorem TP.atn {w : World} {up : Option Nat} {t : T} (h : TP w up t) : At w up t.n t.ks := by cases t; exact h.at_
theorem bl_apart {n : Nd} {ks : List T} (h : (T.mk n ks).bl.Nodup) : n.g ∉ blL ks ∧ (∀ b, n.A = some b → b ∉ blL ks ∧ b ≠ n.g) ∧ (blL ks).Nodup := by
  rw [T.bl_mk] at h
  obtain ⟨h1, h2⟩ := List.nodup_cons.1 h
  obtain ⟨h3, h4, h5⟩ := List.nodup_append.1 h2
  exact ⟨fun hm => h1 (by simp [hm]), fun b hb => ⟨fun hm => h5 b (by simp [hb]) b hm rfl, fun e => h1 (by subst e; simp [hb])⟩, h4⟩
/-- A split's kids are leaves, or splits of the other way. -/
inductive E.alt : E → Prop
  | mk {p a b way : Int} {ks : List E} (h : ∀ k ∈ ks, k.ks = [] ∨ k.way ≠ way) (hk : ∀ k ∈ ks, k.alt) : E.alt (.mk p a b way ks)
theorem er_ks (t : T) : t.er.ks = erL t.ks := by cases t; rw [T.er_mk]; rfl
theorem er_ks_nil (t : T) : t.er.ks = [] ↔ t.ks = [] := by rw [er_ks, erL_map, List.map_eq_nil_iff]
theorem alt_T {n : Nd} {ks : List T} : (T.mk n ks).er.alt ↔ (∀ k ∈ ks, k.ks = [] ∨ k.n.way ≠ n.way) ∧ ∀ k ∈ ks, k.er.alt := by
  rw [T.er_mk, erL_map]
  constructor
  · intro h
    cases h with
    | mk h1 h2 =>
      refine ⟨fun k hk => ?_, fun k hk => h2 _ (List.mem_map_of_mem hk)⟩
      have := h1 _ (List.mem_map_of_mem hk)
      rwa [er_ks_nil, T.er_way] at this
  · rintro ⟨h1, h2⟩
    refine .mk (fun k hk => ?_) fun k hk => ?_
    · obtain ⟨s, hs, rfl⟩ := List.mem_map.1 hk
      rw [er_ks_nil, T.er_way]; exact h1 s hs
    · obtain ⟨s, hs, rfl⟩ := List.mem_map.1 hk
      exact h2 s hs
theorem alt_leaf (n : Nd) : (T.mk n []).er.alt := alt_T.2 ⟨by simp, by simp⟩
theorem alt_plug : ∀ (c : List Fr) (t t' : T), (plug c t).er.alt → t.er.alt ∧ (∀ f d, c = f :: d → t.ks = [] ∨ t.n.way ≠ f.n.way) ∧ (t'.er.alt → (∀ f d, c = f :: d → t'.ks = [] ∨ t'.n.way ≠ f.n.way) → (plug c t').er.alt)
  | [], t, t', h => ⟨h, (fun f d e => by cases e), fun h1 _ => h1⟩
  | f :: c, t, t', h => by
    obtain ⟨h1, h2, h3⟩ := alt_plug c (.mk f.n (f.L ++ t :: f.R)) (.mk f.n (f.L ++ t' :: f.R)) h
    obtain ⟨h4, h5⟩ := alt_T.1 h1
    refine ⟨h5 t (by simp), fun g d e => by injection e with e1 e2; subst e1; exact h4 t (by simp), fun h6 h7 => h3 ?_ ?_⟩
    · refine alt_T.2 ⟨fun k hk => ?_, fun k hk => ?_⟩
      · simp only [List.mem_append, List.mem_cons] at hk
        rcases hk with h | rfl | h
        · exact h4 k (by simp [h])
        · exact h7 f c rfl
        · exact h4 k (by simp [h])
      · simp only [List.mem_append, List.mem_cons] at hk
        rcases hk with h | rfl | h
        · exact h5 k (by simp [h])
        · exact h6
        · exact h5 k (by simp [h])
    · intro g d e
      rcases h2 g d e with h | h
      · exact absurd h (by simp [T.ks])
      · exact .inr h

end Go.Proofs.YtcklmkjlbpjojaaGreatDoor
namespace Go.Proofs.YtcklmkjlbpjojaaGreatDoor
open Go.RowKit
set_option linter.unusedSimpArgs false
set_option linter.unusedVariables false

set_option maxHeartbeats 4000000 in
set_option maxRecDepth 100000 in
theorem least_leaf (up : Option Nat) (n : Nd) (way : Int) (w : World) (h : At w up n []) : Calls Tryz.prog 67 #[ptr n.g, .int .i64 way] w fun e w' => e = .returned (.int .i64 1) ∧ w' = w := by
  have c6 := h.c6
  have c5 := h.c5
  replace c6 : w.cell? ⟨n.g, 6, none⟩ = some (.slice (adr n.A) 0 n.c) := c6
  obtain ⟨AA, hAA⟩ : ∃ AA, AA = adr n.A := ⟨_, rfl⟩
  rw [← hAA] at c6
  replace hAA := Lib.hid hAA; replace h := Lib.hid h
  unfold ptr
  go_enter Tryz.func67, Tryz.ntmps67
  go_wp2_with fail
  go_loopw [5, 6, 21] (fun sv mv iv wr => sv = .int .i64 (-1) ∧ mv = .int .i64 1 ∧ iv = .int .i64 0 ∧ wr = w) (fun _ _ iv _ => 0)
  case atStart => exact ⟨rfl, rfl, rfl, rfl⟩
  case round =>
    obtain ⟨rfl, rfl, rfl, rfl⟩ := hrel
    go_wp2_with fail
    all_goals
      go_ret
      exact ⟨rfl, rfl⟩

/-- A node's size, more of it. -/
def Nd.add (n : Nd) (way z : Int) : Nd := if way = 0 then { n with a := wr64 (n.a + z) } else { n with b := wr64 (n.b + z) }
set_option maxHeartbeats 4000000 in
set_option maxRecDepth 100000 in
theorem grow_leaf (up : Option Nat) (n : Nd) (way z : Int) (w : World) (h : At w up n []) (hw : way = 0 ∨ way = 1) (hA : n.A ≠ some n.g) (hz : -9223372036854775808 < z ∧ z ≤ 9223372036854775807) : Calls Tryz.prog 68 #[ptr n.g, .int .i64 way, .int .i64 z] w fun e w' => e = .returned (.tuple #[]) ∧ At w' up (n.add way z) [] ∧ Off [n.g] w w' := by
  have c6 := h.c6
  replace c6 : w.cell? ⟨n.g, 6, none⟩ = some (.slice (adr n.A) 0 n.c) := c6
  have c3 := h.c3; have c4 := h.c4
  have f3 := h.free 3; have f4 := h.free 4
  obtain ⟨AA, hAA⟩ : ∃ AA, AA = adr n.A := ⟨_, rfl⟩
  rw [← hAA] at c6
  have hend0 : ∀ w', w' = (w.setCell ⟨n.g, 3, none⟩ (.int .i64 (wr64 (n.a + z)))) → At w' up (n.add 0 z) [] ∧ Off [n.g] w w' := by
    rintro w' rfl
    have o : Off [n.g] w (w.setCell ⟨n.g, 3, none⟩ (.int .i64 (wr64 (n.a + z)))) := Off.set w ⟨n.g, 3, none⟩ _
    refine ⟨h.upd rfl rfl rfl rfl o ?_ hA, o⟩
    have := heap_set (j := 3) h.h (.int .i64 (wr64 (n.a + z)))
    exact this
  have hend1 : ∀ w', w' = (w.setCell ⟨n.g, 4, none⟩ (.int .i64 (wr64 (n.b + z)))) → At w' up (n.add 1 z) [] ∧ Off [n.g] w w' := by
    rintro w' rfl
    have o : Off [n.g] w (w.setCell ⟨n.g, 4, none⟩ (.int .i64 (wr64 (n.b + z)))) := Off.set w ⟨n.g, 4, none⟩ _
    refine ⟨h.upd rfl rfl rfl rfl o ?_ hA, o⟩
    have := heap_set (j := 4) h.h (.int .i64 (wr64 (n.b + z)))
    exact this
  replace hAA := Lib.hid hAA; replace h := Lib.hid h; replace hend0 := Lib.hid hend0; replace hend1 := Lib.hid hend1; replace hA := Lib.hid hA
  unfold ptr
  rcases hw with rfl | rfl
  · go_enter Tryz.func68, Tryz.ntmps68
    go_upto_region 0 with fail
    go_still_tail 11, (by kernel_rfl)
    change wpList _ _ _ _ _ w.drew
    go_wp2_with fail
    obtain ⟨W, hW⟩ : ∃ W, W = (w.setCell ⟨n.g, 3, none⟩ (.int .i64 (wr64 (n.a + z)))).drew := ⟨_, rfl⟩
    go_loopw [6] (fun iv wr => iv = .int .i64 (-1) ∧ wr = W) (fun iv _ => 0)
    case atStart => exact ⟨rfl, hW.symm⟩
    case round =>
      obtain ⟨rfl, rfl⟩ := hrel
      go_wp2_with fail
      go_end0
      obtain ⟨h1, h2⟩ := hend0.out _ rfl
      exact ⟨rfl, h1.same (fun _ _ => rfl), ⟨h2.os, h2.tape, h2.output, h2.size, h2.block⟩⟩
  · go_enter Tryz.func68, Tryz.ntmps68
    go_upto_region 0 with fail
    go_still_tail 11, (by kernel_rfl)
    change wpList _ _ _ _ _ w.drew
    go_wp2_with fail
    obtain ⟨W, hW⟩ : ∃ W, W = (w.setCell ⟨n.g, 4, none⟩ (.int .i64 (wr64 (n.b + z)))).drew := ⟨_, rfl⟩
    go_loopw [6] (fun iv wr => iv = .int .i64 (-1) ∧ wr = W) (fun iv _ => 0)
    case atStart => exact ⟨rfl, hW.symm⟩
    case round =>
      obtain ⟨rfl, rfl⟩ := hrel
      go_wp2_with fail
      go_end0
      obtain ⟨h1, h2⟩ := hend1.out _ rfl
      exact ⟨rfl, h1.same (fun _ _ => rfl), ⟨h2.os, h2.tape, h2.output, h2.size, h2.block⟩⟩
end Go.Proofs.YtcklmkjlbpjojaaGreatDoor
namespace Go.Proofs.YtcklmkjlbpjojaaGreatDoor
open Go.RowKit Go.Lib
set_option linter.unusedSimpArgs false
set_option linter.unusedVariables false

theorem zero55 : ∀ w, (zeroValue 58).run Tryz.prog w = .ok (.pointer none) w := fun w => by
  obtain ⟨i0, hi0, h0, h1, h2⟩ := info_parts info55
  simp [zeroValue, typeInfo, hi0, h0]

set_option maxHeartbeats 4000000 in
set_option maxRecDepth 100000 in
theorem delete_any (base : Nat) (b n c i : Nat) (l : List T) (w : World) (hn : n = l.length) (hi : i < n) (hO : w.ownsRow base 58 1 (.slice (some ⟨b, 0, none⟩) n c) n (ptrs l)) :
    Calls Tryz.prog 69 #[.slice (some ⟨b, 0, none⟩) n c, .int .i64 i, .int .i64 ((i : Int) + 1)] w fun e w' => e = .returned (.slice (some ⟨b, 0, none⟩) (n - 1) c) ∧
      w'.ownsRow base 58 1 (.slice (some ⟨b, 0, none⟩) (n - 1) c) (n - 1) (ptrs (l.take i ++ l.drop (i + 1))) ∧ Off [b] w w' := by
  obtain ⟨cur, hbase, hh, hnc, hcm, hcs, htk⟩ : ∃ cur : Array Value, base ≤ b ∧ w.heap[b]? = some (.cells cur 58 (0, 0)) ∧ n ≤ c ∧ c ≤ maxLen ∧ cur.size = c ∧ cur.toList.take n = ptrs l := by
    rcases hO.2 with ⟨h, _⟩ | ⟨g', cap, cur, h, h1, h2, h3, h4, h5, h6⟩
    · cases h
    · injection h with h7 _ h8
      injection h7 with h7; injection h7 with h7
      subst h7; subst h8
      exact ⟨cur, h1, h2, h3, h4, by omega, by simpa using h6⟩
  have hc63 : c ≤ 9223372036854775807 := hcm
  have hpl : (ptrs l).length = n := by rw [ptrs_len, hn]
  have hdl : ((ptrs l).drop (i + 1)).length = n - (i + 1) := by rw [List.length_drop, hpl]
  have hz2 : ¬ ((i : Int) = (i : Int) + 1) := by omega
  have hb1 : (0 : Int) ≤ (i : Int) + 1 := by omega
  have hb2 : (i : Int) + 1 ≤ (n : Int) := by omega
  have hb3 : (i : Int) ≤ (i : Int) + 1 := by omega
  have hb5 : (i : Int) + 1 ≤ (c : Int) := by omega
  have htn : ((i : Int) + 1).toNat = i + 1 := by omega
  have hic : i ≤ c := by omega
  replace hh := Lib.hid hh; replace hO := Lib.hid hO; replace htk := Lib.hid htk; replace hcs := Lib.hid hcs; replace hn := Lib.hid hn
  have hcell : ∀ j, j < c → ∃ v, w.cell? ⟨b, j, none⟩ = some v := fun j hj => by
    refine ⟨cur[j]'(by have := hcs.out; omega), ?_⟩
    unfold World.cell?; rw [hh.out]; simp
  have hcellp : ∀ j v, (ptrs l)[j]? = some v → w.cell? ⟨b, j, none⟩ = some v := fun j v hj => by
    have := hO.out.cells (g := b) rfl j v hj
    rwa [Addr.add_lit, Nat.zero_add] at this
  have hfz : ∀ j, w.frozen? ⟨b, j, none⟩ = false := fun j => by unfold World.frozen?; rw [hh.out]; simp
  obtain ⟨A, hA, hsrc⟩ : ∃ A : Addr, (if c = i + 1 then some (⟨b, 0, none⟩ : Addr) else some ⟨b, i + 1, none⟩) = some A ∧ ∀ t u, ((ptrs l).drop (i + 1))[t]? = some u → w.drew.cell? (A.add t) = some u := by
    by_cases h : c = i + 1
    · refine ⟨⟨b, 0, none⟩, by simp [h], fun t u hu => ?_⟩
      have := (List.getElem?_eq_some_iff.1 hu).1
      rw [hdl] at this; omega
    · refine ⟨⟨b, i + 1, none⟩, by simp [h], fun t u hu => ?_⟩
      rw [Addr.add_lit]
      exact hcellp _ _ (by rwa [List.getElem?_drop] at hu)
  have hS : Src Tryz.prog 1 62 (.slice (some A) (n - (i + 1)) (c - (i + 1))) (n - (i + 1)) ((ptrs l).drop (i + 1)) w.drew :=
    Src.ofSlice w.drew Tryz.underlying62 A _ _ _ (by rw [hdl]; omega) hsrc (fun u hu => ptrs_one l u (List.mem_of_mem_drop hu))
  obtain ⟨W1, hW1⟩ : ∃ W1, W1 = w.drew.setCells b (0 + i) ((ptrs l).drop (i + 1)) := ⟨_, rfl⟩
  have hsp1 : ∀ k, k < c → (W1.cell? ⟨b, k, none⟩).isSome = true := fun k hk => by
    rw [hW1]
    exact isSome_setCells b _ _ _ (fun j hj => by rw [hdl] at hj; obtain ⟨v, hv⟩ := hcell (0 + i + j) (by omega); show (w.cell? _).isSome = true; rw [hv]; rfl) _ (by obtain ⟨v, hv⟩ := hcell k hk; show (w.cell? _).isSome = true; rw [hv]; rfl)
  have hcl : ∀ ty, (Builtin.clear_ #[62] ty #[.slice (some ⟨b, i + (n - (i + 1)), none⟩) (n - (i + (n - (i + 1)))) (c - (i + (n - (i + 1))))]).run Tryz.prog W1 = .ok (.tuple #[]) (W1.setCells b (i + (n - (i + 1))) (List.replicate (n - (i + (n - (i + 1)))) (.pointer none))) := fun ty =>
    run_clear_slice W1 62 58 ty (.pointer none) Tryz.underlying62 zero55 rfl rfl b (i + (n - (i + 1))) _ _ (by omega) (fun j hj => hsp1 _ (by omega)) (fun j hj => by rw [hW1, World.frozen?_setCells]; exact hfz _)
  have hW := Lib.hid hW1
  replace hsp1 := Lib.hid hsp1
  replace hcell := Lib.hid hcell; replace hcellp := Lib.hid hcellp; replace hsrc := Lib.hid hsrc; replace hS := Lib.hid hS; replace hfz := Lib.hid hfz
  clear hW1
  go_enter Tryz.func69, Tryz.ntmps69
  go_wp2_with fail
  go_still_tail 6, (by kernel_rfl)
  change wpList _ _ _ _ _ w.drew
  go_wp2_with (first
    | (at_builtin; go_must (refine wpList_append_room1 _ rfl _ _ 62 62 rfl 58 _ _ Tryz.underlying62 info55 b 0 i c rfl _ rfl (n - (i + 1)) ((ptrs l).drop (i + 1)) hS.out (by omega) (fun j hj => by rw [hdl] at hj; obtain ⟨v, hv⟩ := hcell.out (0 + i + j) (by omega); show (w.cell? _).isSome = true; rw [hv]; rfl) (fun j hj => hfz.out _) ?_; rw [← hW.out]))
    | fail)
  go_ret
  have e1 : i + (n - (i + 1)) = n - 1 := by omega
  have h1 : (w.drew).heap[b]? = some (.cells cur.toList.toArray 58 (0, 0)) := by show w.heap[b]? = _; simpa using hh.out
  have hcl2 : cur.toList.length = c := by simpa using hcs.out
  have h2 := heap_setCells ((ptrs l).drop (i + 1)) (0 + i) w.drew cur.toList h1 (by rw [hdl]; omega)
  rw [← hW.out] at h2
  obtain ⟨L2, hL2⟩ : ∃ L2, L2 = cur.toList.take (0 + i) ++ (ptrs l).drop (i + 1) ++ cur.toList.drop (0 + i + ((ptrs l).drop (i + 1)).length) := ⟨_, rfl⟩
  have a1 : (cur.toList.take (0 + i) ++ (ptrs l).drop (i + 1)).length = n - 1 := by rw [List.length_append, List.length_take, hdl]; omega
  have hl2 : L2.length = c := by rw [hL2, List.length_append, a1, List.length_drop, hdl]; omega
  rw [← hL2] at h2
  have h3 := heap_setCells (List.replicate (n - (i + (n - (i + 1)))) (Value.pointer none)) (i + (n - (i + 1))) W1 L2 h2 (by rw [List.length_replicate]; omega)
  refine ⟨by rw [← e1]; rfl, ⟨by have := hn.out; simp [ptrs]; omega, .inr ⟨b, c, _, rfl, hbase, h3, by omega, hcm, ?_, ?_⟩⟩, ?_⟩
  · have a2 : (L2.take (i + (n - (i + 1)))).length = i + (n - (i + 1)) := by rw [List.length_take]; omega
    rw [List.size_toArray, List.length_append, List.length_append, a2, List.length_replicate, List.length_drop]; omega
  · show List.take ((n - 1) * 1) _ = _
    rw [Nat.mul_one]
    have a2 : (L2.take (i + (n - (i + 1)))).length = n - 1 := by rw [List.length_take]; omega
    rw [List.append_assoc, List.take_append_of_le_length (by omega), List.take_of_length_le (by omega), e1, hL2, List.take_append_of_le_length (by omega), List.take_of_length_le (by omega)]
    have e3 : cur.toList.take (0 + i) = (ptrs l).take i := by rw [← htk.out, List.take_take, Nat.min_eq_left (by omega), Nat.zero_add]
    rw [e3]
    simp [ptrs, List.map_take, List.map_drop]
  · have o1 : Off [b] w W1 := by
      rw [hW.out]
      exact (Off.drew (S := [b]) w).trans (Off.setCells _ _ _) (by simp)
    exact o1.trans (Off.setCells _ _ W1) (by simp)
end Go.Proofs.YtcklmkjlbpjojaaGreatDoor
