/- Layout: Delete of one kid out of a row that may share its block. Layout: split (a new node of some kids), of trees whose rows may share a block. Layout: what evenly does in memory. No walk. -/
import Derived.Test.YtcklmkjlbpjojaaDoorXA
import Derived.Test.YtcklmkjlbpjojaaDoorG4
import Derived.Test.YtcklmkjlbpjojaaDoorXN
import Derived.Test.YtcklmkjlbpjojaaDoorM3
namespace Go.Proofs.YtcklmkjlbpjojaaDoor.X
open Go.RowKit Go.Lib
set_option linter.unusedSimpArgs false
set_option linter.unusedVariables false
variable {G : Gh}

/-- A row was turned within its own cells. -/
structure RowOff (w w' : World) (B o c : Nat) (cur cur' : List Value) : Prop where
  len : cur'.length = cur.length
  out : ∀ j, j < o ∨ o + c ≤ j → cur'[j]? = cur[j]?
  h : w'.heap[B]? = some (.cells cur'.toArray 55 (0, 0))
  g : w.grownBy w' (some B)
theorem RowOff.off {w w' : World} {B o c n b : Nat} {xs cur cur' : List Value} (h : RowOff w w' B o c cur cur') (hP : PRow w B o c n xs cur) (hm : G.m ≤ w.heap.size) (hc : 0 < c) (hκ : ∀ j, j < c → G.κ B (o + j) = b) : Off G [b] w w' := by
  refine ⟨h.g.os, h.g.tape, h.g.output, h.g.size, fun k hk hn => h.g.block k hk ?_, fun k d e hk => ?_, hm⟩
  · intro e
    injection e with e
    subst e
    exact hn (o + 0) (by rw [hκ 0 hc]; simp)
  · by_cases e1 : k = B
    · subst e1
      rw [hP.h] at hk
      injection hk with hk; injection hk with hk1 hk2
      subst hk1; subst hk2
      refine ⟨cur'.toArray, h.h, by simp [h.len], fun o' ho => ?_⟩
      have := h.out o' (by
        rcases Nat.lt_or_ge o' o with h1 | h1
        · exact .inl h1
        · rcases Nat.lt_or_ge o' (o + c) with h2 | h2
          · refine absurd ?_ ho
            have := hκ (o' - o) (by omega)
            rw [show o + (o' - o) = o' by omega] at this
            simp [this]
          · exact .inr h2)
      simpa using this
    · exact ⟨d, (h.g.block k (lt_of_heap hk) (by intro e; injection e with e; exact e1 e)).trans hk, rfl, fun _ _ => rfl⟩
theorem grownBy_setCells {w : World} {b : Nat} : ∀ (vs : List Value) (o : Nat) (w : World), w.grownBy (w.setCells b o vs) (some b)
  | [], o, w => World.grownBy.refl _ _
  | v :: vs, o, w => by
    rw [World.setCells]
    have h1 : w.grownBy (w.setCell ⟨b, o, none⟩ v) (some b) := ⟨rfl, rfl, rfl, by simp, fun k hk hn => by
      rw [Below.heap_setCell _ _ _ _ (by exact fun e => hn (by rw [e]))]⟩
    exact h1.trans (grownBy_setCells (w := w) vs (o + 1) _)

set_option maxHeartbeats 4000000 in
set_option maxRecDepth 100000 in
theorem delete_any (B o n c i : Nat) (l : List T) (cur : List Value) (w : World) (hn : n = l.length) (hi : i < n) (hP : PRow w B o c n (ptrs l) cur) :
    Calls Tryd.prog 38 #[.slice (some ⟨B, o, none⟩) n c, .int .i64 i, .int .i64 ((i : Int) + 1)] w fun e w' => e = .returned (.slice (some ⟨B, o, none⟩) (n - 1) c) ∧
      ∃ cur', PRow w' B o c (n - 1) (ptrs (l.take i ++ l.drop (i + 1))) cur' ∧ RowOff w w' B o c cur cur' := by
  have hh := hP.h
  have hnc := hP.nc
  have hc63 := hP.cm
  have hoc := hP.oc
  have htk := hP.xs
  have hpl : (ptrs l).length = n := by rw [ptrs_len, hn]
  have hdl : ((ptrs l).drop (i + 1)).length = n - (i + 1) := by rw [List.length_drop, hpl]
  have hz2 : ¬ ((i : Int) = (i : Int) + 1) := by omega
  have hb1 : (0 : Int) ≤ (i : Int) + 1 := by omega
  have hb2 : (i : Int) + 1 ≤ (n : Int) := by omega
  have hb3 : (i : Int) ≤ (i : Int) + 1 := by omega
  have hb5 : (i : Int) + 1 ≤ (c : Int) := by omega
  have htn : ((i : Int) + 1).toNat = i + 1 := by omega
  have hic : i ≤ c := by omega
  replace hh := Lib.hid hh; replace hP := Lib.hid hP; replace htk := Lib.hid htk; replace hn := Lib.hid hn; replace hoc := Lib.hid hoc
  have hcell : ∀ j, j < c → ∃ v, w.cell? ⟨B, o + j, none⟩ = some v := fun j hj => hP.out.some hj
  have hcellp : ∀ j v, (ptrs l)[j]? = some v → w.cell? ⟨B, o + j, none⟩ = some v := fun j v hj => hP.out.cell hj
  have hfz : ∀ j, w.frozen? ⟨B, j, none⟩ = false := fun j => hP.out.free j
  obtain ⟨A, hA, hsrc⟩ : ∃ A : Addr, (if c = i + 1 then some (⟨B, o, none⟩ : Addr) else some ⟨B, o + (i + 1), none⟩) = some A ∧ ∀ t u, ((ptrs l).drop (i + 1))[t]? = some u → w.drew.cell? (A.add t) = some u := by
    by_cases h : c = i + 1
    · refine ⟨⟨B, o, none⟩, by simp [h], fun t u hu => ?_⟩
      have := (List.getElem?_eq_some_iff.1 hu).1
      rw [hdl] at this; omega
    · refine ⟨⟨B, o + (i + 1), none⟩, by simp [h], fun t u hu => ?_⟩
      rw [Addr.add_lit, Nat.add_assoc]
      exact hcellp _ _ (by rwa [List.getElem?_drop] at hu)
  have hS : Src Tryd.prog 1 53 (.slice (some A) (n - (i + 1)) (c - (i + 1))) (n - (i + 1)) ((ptrs l).drop (i + 1)) w.drew :=
    Src.ofSlice w.drew Tryd.underlying53 A _ _ _ (by rw [hdl]; omega) hsrc (fun u hu => ptrs_one l u (List.mem_of_mem_drop hu))
  obtain ⟨W1, hW1⟩ : ∃ W1, W1 = w.drew.setCells B (o + i) ((ptrs l).drop (i + 1)) := ⟨_, rfl⟩
  have hsp1 : ∀ k, k < c → (W1.cell? ⟨B, o + k, none⟩).isSome = true := fun k hk => by
    rw [hW1]
    exact isSome_setCells B _ _ _ (fun j hj => by rw [hdl] at hj; obtain ⟨v, hv⟩ := hcell (i + j) (by omega); show (w.cell? _).isSome = true; rw [Nat.add_assoc, hv]; rfl) _ (by obtain ⟨v, hv⟩ := hcell k hk; show (w.cell? _).isSome = true; rw [hv]; rfl)
  have hcl : ∀ ty, (Builtin.clear_ #[53] ty #[.slice (some ⟨B, o + (i + (n - (i + 1))), none⟩) (n - (i + (n - (i + 1)))) (c - (i + (n - (i + 1))))]).run Tryd.prog W1 = .ok (.tuple #[]) (W1.setCells B (o + (i + (n - (i + 1)))) (List.replicate (n - (i + (n - (i + 1)))) (.pointer none))) := fun ty =>
    run_clear_slice W1 53 55 ty (.pointer none) Tryd.underlying53 zero55 rfl rfl B (o + (i + (n - (i + 1)))) _ _ (by omega) (fun j hj => by rw [Nat.add_assoc]; exact hsp1 _ (by omega)) (fun j hj => by rw [hW1, World.frozen?_setCells]; exact hfz _)
  have hW := Lib.hid hW1
  replace hsp1 := Lib.hid hsp1
  replace hcell := Lib.hid hcell; replace hcellp := Lib.hid hcellp; replace hsrc := Lib.hid hsrc; replace hS := Lib.hid hS; replace hfz := Lib.hid hfz
  clear hW1
  go_enter Tryd.func38, Tryd.ntmps38
  go_wp2_with fail
  go_still_tail 6, (by kernel_rfl)
  change wpList _ _ _ _ _ w.drew
  go_wp2_with (first
    | (at_builtin; go_must (refine wpList_append_room1 _ rfl _ _ 53 53 rfl 55 _ _ Tryd.underlying53 info55 B o i c rfl _ rfl (n - (i + 1)) ((ptrs l).drop (i + 1)) hS.out (by omega) (fun j hj => by rw [hdl] at hj; obtain ⟨v, hv⟩ := hcell.out (i + j) (by omega); show (w.cell? _).isSome = true; rw [Nat.add_assoc, hv]; rfl) (fun j hj => hfz.out _) ?_; rw [← hW.out]))
    | fail)
  go_ret
  have hoc' := hoc.out
  have e1 : i + (n - (i + 1)) = n - 1 := by omega
  have h1 : (w.drew).heap[B]? = some (.cells cur.toArray 55 (0, 0)) := hh.out
  have h2 := heap_setCells ((ptrs l).drop (i + 1)) (o + i) w.drew cur h1 (by rw [hdl]; omega)
  rw [← hW.out] at h2
  obtain ⟨L2, hL2⟩ : ∃ L2, L2 = cur.take (o + i) ++ (ptrs l).drop (i + 1) ++ cur.drop (o + i + ((ptrs l).drop (i + 1)).length) := ⟨_, rfl⟩
  have a1 : (cur.take (o + i) ++ (ptrs l).drop (i + 1)).length = o + (n - 1) := by rw [List.length_append, List.length_take, hdl]; omega
  have hl2 : L2.length = cur.length := by rw [hL2, List.length_append, a1, List.length_drop, hdl]; omega
  rw [← hL2] at h2
  have hrep : n - (i + (n - (i + 1))) = 1 := by omega
  rw [hrep, e1]
  have h3 := heap_setCells (List.replicate 1 (Value.pointer none)) (o + (n - 1)) W1 L2 h2 (by rw [List.length_replicate]; omega)
  obtain ⟨L3, hL3⟩ : ∃ L3, L3 = L2.take (o + (n - 1)) ++ List.replicate 1 (Value.pointer none) ++ L2.drop (o + (n - 1) + (List.replicate 1 (Value.pointer none)).length) := ⟨_, rfl⟩
  rw [← hL3] at h3
  have a2 : L2.take (o + (n - 1)) = cur.take (o + i) ++ (ptrs l).drop (i + 1) := by rw [hL2, List.take_append_of_le_length (by omega), List.take_of_length_le (by omega)]
  have hl3 : L3.length = cur.length := by
    rw [hL3]; simp only [List.length_append, List.length_take, List.length_replicate, List.length_drop]; omega
  have hg : w.grownBy (W1.setCells B (o + (n - 1)) (List.replicate 1 (Value.pointer none))) (some B) := by
    rw [hW.out]
    have g0 : w.grownBy w.drew (some B) := ⟨rfl, rfl, rfl, Nat.le_refl _, fun _ _ _ => rfl⟩
    exact (g0.trans (grownBy_setCells (w := w) _ _ _)).trans (grownBy_setCells (w := w) _ _ _)
  refine ⟨rfl, L3, ⟨h3, by omega, hc63, by omega, ?_⟩, ⟨hl3, fun j hj => ?_, h3, hg⟩⟩
  · have e3 : L3.drop o = (ptrs l).take i ++ (ptrs l).drop (i + 1) ++ (List.replicate 1 (Value.pointer none) ++ L2.drop (o + (n - 1) + (List.replicate 1 (Value.pointer none)).length)) := by
      rw [hL3, a2]
      have e4 : (cur.take (o + i)).drop o = (ptrs l).take i := by
        rw [List.drop_take, Nat.add_sub_cancel_left, ← htk.out, List.take_take, Nat.min_eq_left (by omega)]
      rw [List.append_assoc, List.append_assoc, List.drop_append_of_le_length (by rw [List.length_take]; omega), e4, List.append_assoc]
    rw [e3]
    have e5 : ((ptrs l).take i ++ (ptrs l).drop (i + 1)).length = n - 1 := by rw [List.length_append, List.length_take, hdl, hpl]; omega
    rw [List.take_append_of_le_length (by omega), List.take_of_length_le (by omega)]
    simp [ptrs, List.map_take, List.map_drop]
  · rw [hL3]
    have hl0 : (cur.take (o + i)).length = o + i := by rw [List.length_take]; omega
    rcases hj with hj | hj
    · rw [a2, List.append_assoc, List.append_assoc, List.getElem?_append_left (by omega), List.getElem?_take, if_pos (by omega)]
    · rw [List.getElem?_append_right (by simp only [List.length_append, List.length_take, List.length_replicate]; omega), List.getElem?_drop, hL2,
        List.getElem?_append_right (by simp only [List.length_append, List.length_take, List.length_replicate]; omega), List.getElem?_drop]
      congr 1
      simp only [List.length_append, List.length_take, List.length_replicate, hdl]
      omega
end Go.Proofs.YtcklmkjlbpjojaaDoor.X
namespace Go.Proofs.YtcklmkjlbpjojaaDoor.X
open Go.RowKit
set_option linter.unusedSimpArgs false
set_option linter.unusedVariables false
variable {G : Gh}

theorem RowAt.prow {w : World} {A : Option Nat} {b B o c n : Nat} {xs : List Value} (h : RowAt G w A c n xs) (hA : A = some b) (hα : G.α b = (B, o)) (hl : 0 < n) : ∃ cur, b < w.heap.size ∧ 0 < c ∧ PRow w B o c n xs cur ∧ ∀ j, j < c → G.κ B (o + j) = b := by
  rcases h.2 with ⟨_, _, h1⟩ | ⟨b', cur, h1, h2, h3, h4, h5⟩
  · omega
  · rw [hA] at h1; injection h1 with h1; subst h1
    rw [hα] at h4 h5
    exact ⟨cur, h2, by have := h4.nc; omega, h4, h5⟩
theorem RowAt.off {w w' : World} {A : Option Nat} {c n : Nat} {xs : List Value} {S : List Nat} (h : RowAt G w A c n xs) (ho : Off G S w w') (hn : ∀ b, A = some b → b ∉ S) : RowAt G w' A c n xs := h.same ho.size fun b hb => ho.kp (hn b hb)
theorem g_in {t : T} {ks : List T} (h : t ∈ ks) : t.g ∈ blL ks := mem_blL.2 ⟨t, h, t.g_mem⟩
/-- A loop over kids: those ahead hang below g. -/
structure SpJ (G : Gh) (w : World) (g : Nat) (ks : List T) (j : Nat) (wr : World) : Prop where
  l : TPs G wr (some g) (ks.take j)
  r : ∀ k ∈ ks.drop j, ∃ up, TP G wr up k
  o : Off G (ks.map T.g) w wr
theorem SpJ.step {w wr : World} {g : Nat} {ks : List T} {j : Nat} {k : T} (h : SpJ G w g ks j wr) (nd : (blL ks).Nodup) (hk : ks[j]? = some k) : SpJ G w g ks (j + 1) (wr.setCell ⟨k.g, 5 + 2, none⟩ (ptr g)) := by
  have hm := List.mem_of_getElem? hk
  have d := nd
  rw [split_at hk] at d
  obtain ⟨e1, e2, e3⟩ := kid_apart d
  obtain ⟨up, hT⟩ := h.r k (by rw [drop_at hk]; simp)
  obtain ⟨h1, o1⟩ := hT.reup (up' := some g) e1
  replace h1 : TP G (wr.setCell ⟨k.g, 5 + 2, none⟩ (ptr g)) (some g) k := h1
  replace o1 : Off G [k.g] wr (wr.setCell ⟨k.g, 5 + 2, none⟩ (ptr g)) := o1
  refine ⟨?_, fun k' hk' => ?_, h.o.trans o1 fun b hb => .inl ?_⟩
  · rw [take_succ' hk, TPs_app, TPs, TPs]
    refine ⟨h.l.off o1 fun b hb hb' => ?_, h1, trivial⟩
    rw [List.mem_singleton] at hb'
    exact e2 k.g k.g_mem (hb' ▸ hb)
  · obtain ⟨up', hT'⟩ := h.r k' (by rw [drop_at hk]; simp [hk'])
    refine ⟨up', hT'.off o1 fun b hb hb' => ?_⟩
    rw [List.mem_singleton] at hb'
    exact e3 k.g k.g_mem (hb' ▸ mem_blL.2 ⟨k', hk', hb⟩)
  · rw [List.mem_singleton] at hb
    rw [hb]; exact List.mem_map_of_mem hm

set_option maxHeartbeats 1000000 in
set_option maxRecDepth 100000 in
theorem split_any (way a b : Int) (id B o c n : Nat) (ks : List T) (w : World) (hR : RowAt G w (some id) c n (ptrs ks)) (hα : G.α id = (B, o)) (hn : n = ks.length) (hl : 1 ≤ n ∧ n ≤ 100000)
    (hK : ∀ k ∈ ks, ∃ up, TP G w up k) (nd : (id :: blL ks).Nodup) (hm : G.m ≤ w.heap.size) :
    Calls Tryd.prog 32 #[.int .i64 way, .agg #[.int .i64 a, .int .i64 b], .slice (some ⟨B, o, none⟩) n c] w fun e w' => ∃ g, w.heap.size ≤ g ∧ e = .returned (ptr g) ∧
      TP G w' none (.mk ⟨g, some id, c, 0, 0, 0, a, b, way⟩ ks) ∧ Off G (ks.map T.g) w w' := by
  obtain ⟨nd1, nd2⟩ := List.nodup_cons.1 nd
  obtain ⟨gn, hgn⟩ : ∃ gn, gn = w.heap.size + 1 := ⟨_, rfl⟩
  obtain ⟨W, hW⟩ : ∃ W, W = (w.alloc (.cells #[.int .i64 a, .int .i64 b] 56)).alloc (.cells #[.int .i64 0, .int .i64 0, .int .i64 0, .int .i64 a, .int .i64 b, .int .i64 way, .slice (some ⟨B, o, none⟩) n c, .pointer none] 58) := ⟨_, rfl⟩
  have g1 : w.grownBy W none := by rw [hW]; exact (World.grownBy_alloc w _ none).trans (World.grownBy_alloc _ _ none)
  have hs : W.heap[gn]? = some (.cells #[.int .i64 0, .int .i64 0, .int .i64 0, .int .i64 a, .int .i64 b, .int .i64 way, .slice (some ⟨B, o, none⟩) n c, .pointer none] 58 (0, 0)) := by
    rw [hW, hgn]
    have := heap_alloc_new (w.alloc (.cells #[.int .i64 a, .int .i64 b] 56)) (.cells #[.int .i64 0, .int .i64 0, .int .i64 0, .int .i64 a, .int .i64 b, .int .i64 way, .slice (some ⟨B, o, none⟩) n c, .pointer none] 58)
    have e : (w.alloc (.cells #[.int .i64 a, .int .i64 b] 56)).heap.size = w.heap.size + 1 := by simp
    rw [e] at this
    exact this
  have oW : Off G (ks.map T.g) w W := Off.of_grown hm g1
  have hRW := hR.off (S := []) (Off.of_grown hm g1) (by simp)
  obtain ⟨cur, hid, hc0, hP, hκ⟩ := hRW.prow rfl hα (by omega)
  have hklt : ∀ k ∈ ks, k.g < w.heap.size := fun k hk => by
    obtain ⟨up, h⟩ := hK k hk
    exact h.lt _ _ _ k.g_mem
  have hgk : gn ∉ ks.map T.g := fun h => by
    obtain ⟨k, hk, e⟩ := List.mem_map.1 h
    have := hklt k hk; omega
  have hidk : id ∉ ks.map T.g := fun h => by
    obtain ⟨k, hk, e⟩ := List.mem_map.1 h
    exact nd1 (e ▸ g_in hk)
  have qg : G.wh gn := G.fresh (by omega)
  have hI0 : SpJ G w gn ks 0 W := ⟨by rw [List.take_zero, TPs]; trivial, fun k hk => by
    obtain ⟨up, h⟩ := hK k (by simpa using hk)
    exact ⟨up, h.grown g1⟩, oW⟩
  have hfin : ∀ W', SpJ G w gn ks ks.length W' → Off G (ks.map T.g) W W' → TP G W' none (.mk ⟨gn, some id, c, 0, 0, 0, a, b, way⟩ ks) := fun W' h ho => by
    have hl := h.l
    rw [List.take_length] at hl
    refine .mk ⟨?_, qg, ?_, h.o.m'⟩ hl
    · rw [ho.wh qg (lt_of_heap hs) hgk, hs]
      have : row G ⟨gn, some id, c, 0, 0, 0, a, b, way⟩ ks.length = .slice (some ⟨B, o, none⟩) n c := by unfold row adr; simp [hα, hn]
      rw [this]; rfl
    · rw [← hn]; exact hRW.off ho (by intro b' hb'; injection hb' with hb'; rw [← hb']; exact hidk)
  have hPc : ∀ W', Off G (ks.map T.g) W W' → ∀ j v, (ptrs ks)[j]? = some v → W'.cell? ⟨B, o + j, none⟩ = some v := fun W' ho j v hj => by
    obtain ⟨cur', _, _, hP', _⟩ := (hRW.off ho (by intro b' hb'; injection hb' with hb'; rw [← hb']; exact hidk)).prow rfl hα (by omega)
    exact hP'.cell hj
  replace hfin := Lib.hid hfin; replace hs := Lib.hid hs; replace hI0 := Lib.hid hI0; replace hR := Lib.hid hR; replace hRW := Lib.hid hRW; replace hα := Lib.hid hα; replace hn := Lib.hid hn; replace hK := Lib.hid hK; replace nd := Lib.hid nd; replace nd1 := Lib.hid nd1; replace nd2 := Lib.hid nd2; replace oW := Lib.hid oW; replace hP := Lib.hid hP; replace hκ := Lib.hid hκ; replace hklt := Lib.hid hklt; replace hgk := Lib.hid hgk; replace hidk := Lib.hid hidk; replace qg := Lib.hid qg; replace g1 := Lib.hid g1; replace hPc := Lib.hid hPc
  have hWh := Lib.hid hW
  have hgnh := Lib.hid hgn
  go_enter Tryd.func32, Tryd.ntmps32
  go_upto_region 2 with fail
  rw [← hWh.out, ← hgnh.out]
  clear hW hgn
  go_wp2_with fail
  go_loopw [17] (fun iv wr => ∃ j : Nat, j ≤ n ∧ iv = .int .i64 j ∧ Hid (SpJ G w gn ks j wr ∧ Off G (ks.map T.g) W wr)) (fun iv _ => n - (intOf iv).toNat)
  case atStart => exact ⟨0, Nat.zero_le _, rfl, Lib.hid ⟨hI0.out, Off.refl _ _ oW.out.m'⟩⟩
  case round =>
    obtain ⟨j, hj, rfl, hI⟩ := hrel
    by_cases hlt : j < n
    · obtain ⟨k, hk⟩ : ∃ k, ks[j]? = some k := ⟨ks[j]'(by rw [← hn.out]; exact hlt), List.getElem?_eq_getElem _⟩
      have hc := hPc.out wr hI.out.2 j (ptr k.g) (by simp [ptrs, hk])
      obtain ⟨up, hT⟩ := hI.out.1.r k (by rw [drop_at hk]; simp)
      have k7 : wr.cell? ⟨k.g, 7, none⟩ = some (uptr up) := hT.atn.c7
      have k7f : wr.frozen? ⟨k.g, 7, none⟩ = false := hT.atn.free 7
      have hst := hI.out.1.step nd2.out hk
      have o7 : Off G (ks.map T.g) W (wr.setCell ⟨k.g, 7, none⟩ (ptr gn)) := hI.out.2.trans (Off.setw hT.m hT.atn.q 7 _) (fun b hb => .inl (by simp at hb; rw [hb]; exact List.mem_map_of_mem (List.mem_of_getElem? hk)))
      replace hT := Lib.hid hT; replace hk := Lib.hid hk; replace hst := Lib.hid hst; replace o7 := Lib.hid o7
      unfold ptr at hc
      go_wp2_with fail
      exact ⟨⟨j + 1, by omega, by go_num, Lib.hid ⟨hst.out, o7.out⟩⟩, by simp [intOf]; omega⟩
    · obtain rfl : j = n := by omega
      go_wp2_with fail
      go_ret
      have h := hI.out
      rw [hn.out] at h
      exact ⟨gn, by rw [hgnh.out]; omega, rfl, hfin.out _ h.1 h.2, h.1.o⟩
end Go.Proofs.YtcklmkjlbpjojaaDoor.X
namespace Go.Proofs.YtcklmkjlbpjojaaDoor.X
open Go.RowKit
set_option linter.unusedSimpArgs false
set_option linter.unusedVariables false
variable {G : Gh}

mutual
/-- A tree whose nodes lie in memory, whatever hangs them up. -/
def LT (G : Gh) (w : World) : T → Prop
  | .mk n ks => (∃ up, At G w up n ks) ∧ LTs G w ks
def LTs (G : Gh) (w : World) : List T → Prop
  | [] => True
  | k :: ks => LT G w k ∧ LTs G w ks
end
theorem LTs_iff {w : World} : ∀ {ks : List T}, LTs G w ks ↔ ∀ k ∈ ks, LT G w k
  | [] => by simp [LTs]
  | k :: ks => by rw [LTs, LTs_iff]; simp
theorem LT_mk {w : World} {n : Nd} {ks : List T} : LT G w (.mk n ks) ↔ (∃ up, At G w up n ks) ∧ ∀ k ∈ ks, LT G w k := by rw [LT, LTs_iff]
theorem LT.of_tp {w : World} : ∀ (t : T) (up : Option Nat), TP G w up t → LT G w t := by
  intro t
  induction t using T.ind with
  | h n ks ih => exact fun up h => LT_mk.2 ⟨⟨up, h.at_⟩, fun k hk => ih k hk _ (TPs_iff.1 h.kids k hk)⟩
theorem LT.lt {w : World} : ∀ (t : T), LT G w t → ∀ b ∈ t.bl, b < w.heap.size := by
  intro t
  induction t using T.ind with
  | h n ks ih =>
    intro h b hb
    obtain ⟨⟨up, hA⟩, hk⟩ := LT_mk.1 h
    rw [T.bl_mk] at hb
    simp only [List.mem_cons, List.mem_append] at hb
    rcases hb with rfl | hb | hb
    · exact hA.lt _ (by simp)
    · exact hA.lt _ (by simp [Option.mem_toList.1 hb])
    · obtain ⟨k, hk', hb⟩ := mem_blL.1 hb
      exact ih k hk' (hk k hk') b hb
theorem LT.off {w w' : World} {S : List Nat} : ∀ (t : T), LT G w t → Off G S w w' → (∀ b ∈ t.bl, b ∉ S) → LT G w' t := by
  intro t
  induction t using T.ind with
  | h n ks ih =>
    intro h ho hs
    obtain ⟨⟨up, hA⟩, hk⟩ := LT_mk.1 h
    rw [T.bl_mk] at hs
    refine LT_mk.2 ⟨⟨up, hA.off ho fun b hb => hs b ?_⟩, fun k hk' => ih k hk' (hk k hk') ho fun b hb => hs b ?_⟩
    · rcases List.mem_cons.1 hb with rfl | hb
      · simp
      · simp [Option.mem_toList.1 hb]
    · simp only [List.mem_cons, List.mem_append]
      exact .inr (.inr (mem_blL.2 ⟨k, hk', hb⟩))
theorem LT.m {w : World} {t : T} (h : LT G w t) : G.m ≤ w.heap.size := by
  cases t; obtain ⟨⟨up, hA⟩, _⟩ := LT_mk.1 h; exact hA.m
theorem LT.grown {w w' : World} {t : T} (h : LT G w t) (g : w.grownBy w' none) : LT G w' t := h.off (S := []) t (Off.of_grown h.m g) (by simp)
inductive Sm : T → Prop
  | mk {n : Nd} {ks : List T} (h : ks.length ≤ 1000) (hk : ∀ k ∈ ks, Sm k) : Sm (.mk n ks)
def Bd (z : Int) : Prop := -2000 ≤ z ∧ z ≤ 2000

/-- What evenly hands back. -/
def EvenP (G : Gh) (w : World) (S : List Nat) (e' : E) (e : Ending) (w' : World) : Prop :=
  ∃ (t' : T) (up : Option Nat), e = .returned (ptr t'.g) ∧ TP G w' up t' ∧ t'.er = e' ∧ Off G S w w' ∧ t'.bl.Nodup ∧ ∀ x ∈ t'.bl, x ∈ S ∨ w.heap.size ≤ x
theorem EvenP.later {w w1 w' : World} {S S' : List Nat} {e' : E} {e : Ending} (h : EvenP G w1 S e' e w') (o : Off G S' w w1) (hs : ∀ b ∈ S, b ∈ S' ∨ w.heap.size ≤ b) : EvenP G w S' e' e w' := by
  obtain ⟨t', up, h1, h2, h3, h4, h5, h6⟩ := h
  refine ⟨t', up, h1, h2, h3, o.trans h4 hs, h5, fun x hx => ?_⟩
  rcases h6 x hx with h | h
  · exact hs x h
  · exact .inr (Nat.le_trans o.size h)

theorem RowAt.set {w : World} {id B o c n j : Nat} {xs : List Value} (h : RowAt G w (some id) c n xs) (hα : G.α id = (B, o)) (hj : j < n) (v : Value) (hm : G.m ≤ w.heap.size) :
    RowAt G (w.setCell ⟨B, o + j, none⟩ v) (some id) c n (xs.set j v) ∧ Off G [id] w (w.setCell ⟨B, o + j, none⟩ v) := by
  obtain ⟨cur, h1, h2, h3, h4⟩ := h.prow rfl hα (by omega)
  have hnc := h3.nc
  have o1 : Off G [id] w (w.setCell ⟨B, o + j, none⟩ v) := by
    have := Off.set (G := G) hm ⟨B, o + j, none⟩ v
    rwa [show G.κ (⟨B, o + j, none⟩ : Addr).block (⟨B, o + j, none⟩ : Addr).off = id from h4 j (by omega)] at this
  refine ⟨⟨by rw [List.length_set]; exact h.1, .inr ⟨id, cur.set (o + j) v, rfl, Nat.lt_of_lt_of_le h1 o1.size, by rw [hα]; exact ⟨_, h4 0 h2⟩, ?_, by rw [hα]; exact h4⟩⟩, o1⟩
  rw [hα]
  refine ⟨?_, h3.nc, h3.cm, by rw [List.length_set]; exact h3.oc, ?_⟩
  · have := heap_set (j := o + j) h3.h v
    rw [List.setIfInBounds_toArray] at this
    exact this
  · rw [List.drop_set, if_neg (by omega), Nat.add_sub_cancel_left, List.take_set, h3.xs]

/-- Where the loop over l stands. -/
structure EvI (G : Gh) (w : World) (id c n : Nat) (way a b : Int) (ks : List T) (j : Nat) (wr : World) : Prop where
  ex : ∃ ks' : List T, ks'.length = j ∧ RowAt G wr (some id) c n (ptrs (ks' ++ ks.drop j)) ∧ (∀ k ∈ ks', ∃ up, TP G wr up k) ∧ erL ks' = evenL way a b n 0 (erL (ks.take j)) ∧ (id :: blL (ks' ++ ks.drop j)).Nodup ∧ ∀ x ∈ blL ks', x ∈ blL ks ∨ w.heap.size ≤ x
  r : ∀ k ∈ ks.drop j, LT G wr k
  o : Off G (id :: blL ks) w wr
  sb : wr.heap[w.heap.size]? = some (.cells #[.int .i64 a, .int .i64 b] 56 (0, 0))
theorem EvI.step {w wr W3 W4 : World} {id B o c n j : Nat} {way a b : Int} {ks : List T} {k t' : T} {up : Option Nat} (h : EvI G w id c n way a b ks j wr) (hk : ks[j]? = some k) (hα : G.α id = (B, o)) (hn : n = ks.length)
    (hlt : ∀ x ∈ id :: blL ks, x < w.heap.size) (nd : (id :: blL ks).Nodup) (g3 : wr.grownBy W3 none) (hT : TP G W4 up t') (he : t'.er = k.er.even (ownA way a n j) (ownB way b n j)) (o4 : Off G k.bl W3 W4) (nd4 : t'.bl.Nodup)
    (hb : ∀ x ∈ t'.bl, x ∈ k.bl ∨ W3.heap.size ≤ x) : EvI G w id c n way a b ks (j + 1) (W4.setCell ⟨B, o + j, none⟩ (ptr t'.g)) := by
  obtain ⟨ks', e1, e2, e3, e4, e5, e6⟩ := h.ex
  have hm := List.mem_of_getElem? hk
  have hjn : j < n := by rw [hn]; exact (List.getElem?_eq_some_iff.1 hk).1
  have hkb : ∀ x ∈ k.bl, x ∈ blL ks := fun x hx => mem_blL.2 ⟨k, hm, hx⟩
  obtain ⟨nd1, nd2⟩ := List.nodup_cons.1 nd
  have hidk : id ∉ k.bl := fun hx => nd1 (hkb _ hx)
  have hm3 : G.m ≤ wr.heap.size := h.o.m'
  have og : Off G [] wr W3 := Off.of_grown hm3 g3
  have hws := h.o.size
  have hg3 := g3.size
  have h3s := o4.size
  have hidt : id ∉ t'.bl := fun hx => by
    rcases hb _ hx with h1 | h1
    · exact hidk h1
    · have := hlt id (by simp); omega
  have hR4 := (e2.off og (by simp)).off o4 (by intro b' hb'; injection hb' with hb'; rw [← hb']; exact hidk)
  obtain ⟨hR5, o5⟩ := hR4.set hα hjn (ptr t'.g) o4.m'
  have hd := drop_at hk
  rw [hd] at e5
  obtain ⟨q1, q2⟩ := List.nodup_cons.1 e5
  rw [blL_app, blL_cons] at q1 q2
  obtain ⟨q3, q4, q5⟩ := List.nodup_append.1 q2
  obtain ⟨q6, q7, q8⟩ := List.nodup_append.1 q4
  have hrl : ∀ x ∈ blL (ks.drop (j + 1)), x < w.heap.size := fun x hx => hlt x (by
    have : x ∈ blL ks := by
      rw [← List.take_append_drop (j + 1) ks, blL_app]; simp [hx]
    simp [this])
  have hkl : ∀ x ∈ blL ks', x < wr.heap.size := fun x hx => by
    obtain ⟨k', hk', hx⟩ := mem_blL.1 hx
    obtain ⟨up', hT'⟩ := e3 k' hk'
    exact hT'.lt _ _ _ hx
  refine ⟨⟨ks' ++ [t'], by simp [e1], ?_, ?_, ?_, ?_, ?_⟩, fun k' hk' => ?_, ?_, ?_⟩
  · have : (ptrs (ks' ++ ks.drop j)).set j (ptr t'.g) = ptrs (ks' ++ [t'] ++ ks.drop (j + 1)) := by
      rw [hd]
      unfold ptrs
      rw [List.map_append, List.set_append_right _ _ (by simp [e1])]
      simp [e1]
    rw [this] at hR5
    exact hR5
  · intro k' hk'
    rcases List.mem_append.1 hk' with h1 | h1
    · obtain ⟨up', hT'⟩ := e3 k' h1
      have hk'b : ∀ x ∈ k'.bl, x ∈ blL ks' := fun x hx => mem_blL.2 ⟨k', h1, hx⟩
      refine ⟨up', ((hT'.off og (by simp)).off o4 fun x hx hx2 => ?_).off o5 fun x hx hx2 => ?_⟩
      · exact q5 x (hk'b x hx) x (by simp [hx2]) rfl
      · rw [List.mem_singleton] at hx2
        subst hx2
        exact q1 (by simp [hk'b _ hx])
    · rw [List.mem_singleton] at h1
      subst h1
      exact ⟨up, hT.off o5 fun x hx hx2 => by rw [List.mem_singleton] at hx2; subst hx2; exact hidt hx⟩
  · have happ : ∀ l r : List T, erL (l ++ r) = erL l ++ erL r := fun l r => by rw [erL_map, erL_map, erL_map, List.map_append]
    have hl : (erL (ks.take j)).length = j := by rw [erL_len, List.length_take]; omega
    rw [take_succ' hk, happ, happ, e4, evenL_app, hl, erL_cons, erL_nil, erL_cons, erL_nil, evenL_cons, evenL_nil, he, Nat.zero_add]
  · refine List.nodup_cons.2 ⟨?_, ?_⟩
    · rw [blL_app, blL_app, blL_cons, blL_nil]
      simp only [List.append_nil, List.mem_append, not_or]
      exact ⟨⟨fun hx => q1 (by simp [hx]), hidt⟩, fun hx => q1 (by simp [hx])⟩
    · rw [blL_app, blL_app, blL_cons, blL_nil, List.append_nil]
      refine List.nodup_append.2 ⟨List.nodup_append.2 ⟨q3, nd4, ?_⟩, q7, ?_⟩
      · rintro x hx y hy rfl
        rcases hb x hy with h1 | h1
        · exact q5 x hx x (by simp [h1]) rfl
        · have := hkl x hx; omega
      · rintro x hx y hy rfl
        rcases List.mem_append.1 hx with hx | hx
        · exact q5 x hx x (by simp [hy]) rfl
        · rcases hb x hx with h1 | h1
          · exact q8 x h1 x hy rfl
          · have := hrl x hy; omega
  · intro x hx
    rw [blL_app, blL_cons, blL_nil, List.append_nil] at hx
    rcases List.mem_append.1 hx with h1 | h1
    · exact e6 x h1
    · rcases hb x h1 with h2 | h2
      · exact .inl (hkb x h2)
      · exact .inr (by omega)
  · have hL := h.r k' (by rw [hd]; simp [hk'])
    have hk'b : ∀ x ∈ k'.bl, x ∈ blL (ks.drop (j + 1)) := fun x hx => mem_blL.2 ⟨k', hk', hx⟩
    refine ((hL.off _ og (by simp)).off _ o4 fun x hx hx2 => ?_).off _ o5 fun x hx hx2 => ?_
    · exact q8 x hx2 x (hk'b x hx) rfl
    · rw [List.mem_singleton] at hx2
      subst hx2
      exact q1 (by simp [hk'b _ hx])
  · exact ((h.o.trans og (by simp)).trans o4 (fun x hx => .inl (by simp [hkb x hx]))).trans o5 (by simp)
  · have f1 := lt_of_heap h.sb
    have q : G.wh w.heap.size := G.fresh h.o.m
    have s1 := (g3.block _ f1 (by simp)).trans h.sb
    have s2 := (o4.wh q (lt_of_heap s1) (fun hx => by have := hlt _ (show w.heap.size ∈ id :: blL ks by simp [hkb _ hx]); omega)).trans s1
    exact (o5.wh q (lt_of_heap s2) (fun hx => by rw [List.mem_singleton] at hx; have := hlt id (by simp); omega)).trans s2
end Go.Proofs.YtcklmkjlbpjojaaDoor.X
