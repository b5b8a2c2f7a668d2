/- Layout: evenly. -/
import Derived.Test.YtcklmkjlbpjojaaDoorXP
import Derived.IntWalk
namespace Go.Proofs.YtcklmkjlbpjojaaDoor.X
open Go.RowKit
set_option linter.unusedSimpArgs false
set_option linter.unusedVariables false
variable {G : Gh}

theorem Frm.inv {p a b way : Int} {ks : List E} (h : Frm (.mk p a b way ks)) : (ks = [] ∧ way = 0 ∧ 1 ≤ p ∧ p ≤ 999) ∨ ((way = 0 ∨ way = 1) ∧ 2 ≤ ks.length ∧ ∀ k ∈ ks, Frm k) := by
  cases h with
  | leaf h => exact .inl ⟨rfl, rfl, h⟩
  | node h1 h2 h3 => exact .inr ⟨h1, h2, h3⟩
theorem grown_set {w W : World} {b i : Nat} {v : Value} (g : w.grownBy W none) (hb : w.heap.size ≤ b) : w.grownBy (W.setCell ⟨b, i, none⟩ v) none := ⟨g.os, g.tape, g.output, by simpa using g.size, fun k hk hn => by
  rw [Below.heap_setCell _ _ _ _ (by show k ≠ b; omega)]; exact g.block k hk hn⟩
theorem new_at {W1 W2 : World} {o : Obj} (h : W2.heap.size = W1.heap.size) : (W2.alloc o).heap[W1.heap.size]? = some o := by rw [← h]; exact heap_alloc_new W2 o
/-- What evenly does with one. -/
def Even1 (k : T) : Prop := ∀ (G : Gh) (way a b : Int) (rB ro rc : Nat) (w : World), LT G w k → k.bl.Nodup → (∀ w', Off G k.bl w w' → w'.cell? ⟨rB, ro, none⟩ = some (ptr k.g)) → 1 ≤ rc → rc ≤ 9223372036854775807 → Bd a → Bd b → G.m ≤ w.heap.size →
    Calls Tryd.prog 44 #[.int .i64 way, .agg #[.int .i64 a, .int .i64 b], .slice (some ⟨rB, ro, none⟩) 1 rc] w (EvenP G w k.bl (k.er.even a b))

set_option maxHeartbeats 1000000 in
set_option maxRecDepth 100000 in
theorem evenN_w0 (a b : Int) (id B o c n : Nat) (ks : List T) (w : World) (hR : RowAt G w (some id) c n (ptrs ks)) (hα : G.α id = (B, o)) (hn : n = ks.length) (hl : 2 ≤ n ∧ n ≤ 1000)
    (hK : ∀ k ∈ ks, LT G w k) (nd : (id :: blL ks).Nodup) (hm : G.m ≤ w.heap.size) (hE : ∀ k ∈ ks, Even1 k) (ha : Bd a) (hb : Bd b) :
    Calls Tryd.prog 44 #[.int .i64 0, .agg #[.int .i64 a, .int .i64 b], .slice (some ⟨B, o, none⟩) n c] w (EvenP G w (id :: blL ks) (.mk 0 a b 0 (evenL 0 a b n 0 (erL ks)))) := by
  have hlt : ∀ x ∈ id :: blL ks, x < w.heap.size := fun x hx => by
    rcases List.mem_cons.1 hx with rfl | hx
    · obtain ⟨_, h, _⟩ := hR.prow rfl hα (by omega); exact h
    · obtain ⟨k, hk, hx⟩ := mem_blL.1 hx
      exact (hK k hk).lt _ x hx
  obtain ⟨nd1, nd2⟩ := List.nodup_cons.1 nd
  obtain ⟨sb, hsb⟩ : ∃ sb, sb = w.heap.size := ⟨_, rfl⟩
  obtain ⟨W0, hW0⟩ : ∃ W0, W0 = w.alloc (.cells #[.int .i64 a, .int .i64 b] 56) := ⟨_, rfl⟩
  have g0 : w.grownBy W0 none := by rw [hW0]; exact World.grownBy_alloc w _ none
  have hI0 : EvI G w id c n 0 a b ks 0 W0 := by
    have og : Off G (id :: blL ks) w W0 := Off.of_grown hm g0
    refine ⟨⟨[], rfl, ?_, by simp, by rw [List.take_zero, erL_nil, evenL_nil], by simpa using nd, by simp [blL_nil]⟩, fun k hk => (hK k (by simpa using hk)).grown g0, og, by rw [hW0]; exact heap_alloc_new w _⟩
    simpa using hR.off (S := []) (Off.of_grown hm g0) (by simp)
  have hsz : ∀ j wr, EvI G w id c n 0 a b ks j wr → wr.cell? ⟨sb, 0, none⟩ = some (.int .i64 a) ∧ wr.cell? ⟨sb, 1, none⟩ = some (.int .i64 b) ∧ sb < wr.heap.size := fun j wr h => by
    have := h.sb
    rw [← hsb] at this
    exact ⟨by rw [cell_of_heap this]; rfl, by rw [cell_of_heap this]; rfl, lt_of_heap this⟩
  obtain ⟨s0, s1, s2⟩ := hsz 0 W0 hI0
  have hn1 : ((n : Int) == 1) = false := beq_eq_false_iff_ne.2 (by omega)
  obtain ⟨al, hal⟩ : ∃ al, al = a - ((n : Int) - 1) := ⟨_, rfl⟩
  have z1 : IntKind.i64.wrap ((n : Int) - 1) = (n : Int) - 1 := IntWalk.i64_in _ (by omega)
  have z2 : IntKind.i64.wrap (a - ((n : Int) - 1)) = al := by rw [hal]; unfold Bd at ha hb; exact IntWalk.i64_in _ (by omega)
  have hn0 : ¬ ((n : Int) = 0) := by omega
  have hbd := fun i => own_bd (z := a) (n := n) hl.1 hl.2 ha i
  have z3 : IntKind.i64.wrap (al.tdiv n) = al.tdiv n := by rw [hal]; exact IntWalk.i64_in _ (by have := (hbd 0).2.2; omega)
  have z4 : IntKind.i64.wrap (al.tdiv n + 1) = al.tdiv n + 1 := by rw [hal]; exact IntWalk.i64_in _ (by have := (hbd 0).2.2; omega)
  have hown : ∀ i : Nat, own a n i = al.tdiv n + if (i : Int) < al.tmod n then 1 else 0 := fun i => by rw [hal]; rfl
  have hap : al.tdiv n ≤ 9223372036854775807 ∧ -9223372036854775808 ≤ al.tdiv n := by have := (hbd 0).2.2; rw [← hal] at this; omega
  have hend : ∀ wr, EvI G w id c n 0 a b ks n wr → ∃ ks' : List T, ks'.length = n ∧ Hid (RowAt G wr (some id) c n (ptrs ks') ∧ (∀ k ∈ ks', ∃ up, TP G wr up k) ∧ erL ks' = evenL 0 a b n 0 (erL ks) ∧ (id :: blL ks').Nodup ∧ (∀ x ∈ blL ks', x ∈ blL ks ∨ w.heap.size ≤ x) ∧ Off G (id :: blL ks) w wr) := fun wr h => by
    obtain ⟨ks', e1, e2, e3, e4, e5, e6⟩ := h.ex
    rw [hn] at e2 e4 e5
    rw [List.drop_length, List.append_nil] at e2 e5
    rw [List.take_length] at e4
    exact ⟨ks', e1, Lib.hid ⟨by rw [hn]; exact e2, e3, by rw [hn]; exact e4, e5, e6, h.o⟩⟩
  have hPc : ∀ j wr k, EvI G w id c n 0 a b ks j wr → ks[j]? = some k → wr.cell? ⟨B, o + j, none⟩ = some (ptr k.g) ∧ wr.frozen? ⟨B, o + j, none⟩ = false ∧ B < wr.heap.size := fun j wr k h hk => by
    obtain ⟨ks', e1, e2, e3, e4, e5, e6⟩ := h.ex
    obtain ⟨cur', _, _, hP', _⟩ := e2.prow rfl hα (by omega)
    refine ⟨hP'.cell ?_, hP'.free _, lt_of_heap hP'.h⟩
    rw [drop_at hk]
    unfold ptrs
    rw [List.map_append, List.getElem?_append_right (by simp [e1])]
    simp [e1]
  have hPd : ∀ j wr, EvI G w id c n 0 a b ks j wr → j < n → ∀ W3 W4 k, wr.grownBy W3 none → ks[j]? = some k → Off G k.bl W3 W4 → (∃ v, W4.cell? ⟨B, o + j, none⟩ = some v) ∧ W4.frozen? ⟨B, o + j, none⟩ = false := fun j wr h hj W3 W4 k g3 hk o4 => by
    obtain ⟨ks', e1, e2, e3, e4, e5, e6⟩ := h.ex
    have hidk : id ∉ k.bl := fun hx => nd1 (mem_blL.2 ⟨k, List.mem_of_getElem? hk, hx⟩)
    have hR4 := (e2.off (S := []) (Off.of_grown h.o.m' g3) (by simp)).off o4 (by intro b' hb'; injection hb' with hb'; rw [← hb']; exact hidk)
    obtain ⟨cur', _, _, hP', _⟩ := hR4.prow rfl hα (by omega)
    exact ⟨hP'.some (by have := hP'.nc; omega), hP'.free _⟩
  replace hR := Lib.hid hR; replace hα := Lib.hid hα; replace hn := Lib.hid hn; replace hK := Lib.hid hK; replace nd := Lib.hid nd; replace nd1 := Lib.hid nd1; replace nd2 := Lib.hid nd2; replace hE := Lib.hid hE; replace hlt := Lib.hid hlt; replace hI0 := Lib.hid hI0; replace g0 := Lib.hid g0; replace hbd := Lib.hid hbd; replace hown := Lib.hid hown; replace hend := Lib.hid hend; replace hPc := Lib.hid hPc; replace hPd := Lib.hid hPd; replace ha := Lib.hid ha; replace hb := Lib.hid hb; replace hsz := Lib.hid hsz
  have hW0h := Lib.hid hW0; have hsbh := Lib.hid hsb; replace hal := Lib.hid hal
  clear hW0 hsb
  go_enter Tryd.func44, Tryd.ntmps44
  go_upto_region 1 with fail
  rw [← hW0h.out, ← hsbh.out]
  go_wp2_with fail
  go_loopw [54] (fun iv wr => ∃ j : Nat, j ≤ n ∧ iv = .int .i64 j ∧ Hid (EvI G w id c n 0 a b ks j wr)) (fun iv _ => n - (intOf iv).toNat)
  case atStart => exact ⟨0, Nat.zero_le _, rfl, hI0⟩
  case round =>
    obtain ⟨j, hj, rfl, hI⟩ := hrel
    by_cases hlt2 : j < n
    · obtain ⟨k, hk⟩ : ∃ k, ks[j]? = some k := ⟨ks[j]'(by rw [← hn.out]; exact hlt2), List.getElem?_eq_getElem _⟩
      obtain ⟨pc, pf, pB⟩ := hPc.out j wr k hI.out hk
      obtain ⟨r0, r1, r2⟩ := hsz.out j wr hI.out
      have hjd := hown.out j
      have hmem := List.mem_of_getElem? hk
      have hLk : LT G wr k := hI.out.r k (by rw [drop_at hk]; simp)
      have hkN : k.bl.Nodup := by
        have := nd2.out
        rw [split_at hk] at this
        exact (kid_apart this).1
      have hbdj := hbd.out j
      have hm3 : G.m ≤ wr.heap.size := hI.out.o.m'
      obtain ⟨ow, how⟩ : ∃ ow, ow = own a n j := ⟨_, rfl⟩
      rw [← how] at hjd
      rw [← how] at hbdj
      have CE := fun W3 (g3 : wr.grownBy W3 none) (rb : Nat) (hrb : wr.heap.size ≤ rb) (hc : W3.heap[rb]? = some (.cells #[ptr k.g] 55 (0, 0))) =>
        hE.out k hmem G 0 ow b rb 0 1 W3 (hLk.grown g3) hkN
          (fun w' o' => by
            have q : G.wh rb := G.fresh (Nat.le_trans hm3 hrb)
            have := (o'.wh q (lt_of_heap hc) (fun hx => by have := hLk.lt _ _ hx; omega)).trans hc
            rw [cell_of_heap this]; rfl)
          (by omega) (by omega) (by unfold Bd; have := hbdj; omega) hb.out (Nat.le_trans hm3 g3.size)
      have hst := fun W3 W4 t' up => hI.out.step (W3 := W3) (W4 := W4) (t' := t') (up := up) hk hα.out hn.out hlt.out nd.out
      have hpd := fun W3 W4 => hPd.out j wr hI.out hlt2 W3 W4 k
      have hownA : ownA 0 a n j = ow ∧ ownB 0 b n j = b := by rw [how]; exact ⟨rfl, rfl⟩
      replace CE := Lib.hid CE; replace hst := Lib.hid hst; replace hpd := Lib.hid hpd; replace hk := Lib.hid hk; replace hLk := Lib.hid hLk; replace hkN := Lib.hid hkN; replace hownA := Lib.hid hownA; replace how := Lib.hid how; replace hbdj := Lib.hid hbdj
      unfold ptr at pc
      go_upto_region 11 with fail
      obtain ⟨ob, hob⟩ : ∃ ob, ob = wr.heap.size := ⟨_, rfl⟩
      obtain ⟨W1, hW1⟩ : ∃ W1, W1 = wr.alloc (.cells #[.int .i64 a, .int .i64 b] 56) := ⟨_, rfl⟩
      have b1 : W1.heap[ob]? = some (.cells #[.int .i64 a, .int .i64 b] 56 (0, 0)) := by rw [hW1, hob]; exact heap_alloc_new wr _
      have g1 : wr.grownBy W1 none := by rw [hW1]; exact World.grownBy_alloc _ _ _
      rw [← hW1, ← hob]
      have v0 : W1.cell? ⟨ob, 0, none⟩ = some (.int .i64 a) := by rw [cell_of_heap b1]; rfl
      have v1 : W1.cell? ⟨ob, 1, none⟩ = some (.int .i64 b) := by rw [cell_of_heap b1]; rfl
      have vf0 := free_of_heap b1 0
      have vf1 := free_of_heap b1 1
      have vs := lt_of_heap b1
      replace hW1 := Lib.hid hW1; replace hob := Lib.hid hob; replace b1 := Lib.hid b1; replace g1 := Lib.hid g1
      rcases Int.lt_or_le (al.tmod n) (j + 1) with hjr | hjr
      · have hjr2 : ¬ ((j : Int) < al.tmod n) := by omega
        obtain rfl : ow = al.tdiv n := by rw [hjd, if_neg hjr2, Int.add_zero]
        clear hjd hjr
        obtain ⟨W3, hW3⟩ : ∃ W3, W3 = (W1.setCell ⟨ob, 0, none⟩ (.int .i64 (al.tdiv n))).alloc (.cells #[.pointer (some ⟨k.g, 0, none⟩)] 55) := ⟨_, rfl⟩
        have g3 : wr.grownBy W3 none := by rw [hW3]; exact (grown_set g1.out (by rw [hob.out]; exact Nat.le_refl _)).trans (World.grownBy_alloc _ _ _)
        have c3 : W3.heap[W1.heap.size]? = some (.cells #[ptr k.g] 55 (0, 0)) := by rw [hW3]; exact new_at (by simp)
        have CF := CE.out W3 g3 W1.heap.size g1.out.size c3
        have hpd2 := hpd.out W3
        have hst2 := hst.out W3
        replace g3 := Lib.hid g3; replace c3 := Lib.hid c3; replace CF := Lib.hid CF; replace hpd2 := Lib.hid hpd2; replace hst2 := Lib.hid hst2
        have hW3h := Lib.hid hW3
        clear hW3 hst hpd CE
        go_wp2_with fail
        rw [← hW3h.out]
        refine CF.out.mono ?_
        rintro e W4 ⟨t', up, rfl, hT4, he4, o4, nd4, hb4⟩
        obtain ⟨⟨v4, c4⟩, f4⟩ := hpd2.out W4 g3.out hk.out o4
        have hnew := hst2.out W4 t' up g3.out hT4 (by rw [hownA.out.1, hownA.out.2]; exact he4) o4 nd4 hb4
        replace hT4 := Lib.hid hT4; replace he4 := Lib.hid he4; replace o4 := Lib.hid o4; replace nd4 := Lib.hid nd4; replace hb4 := Lib.hid hb4; replace hnew := Lib.hid hnew
        clear CF
        unfold ptr
        go_wp2_with fail
        exact ⟨⟨j + 1, by omega, by go_num, hnew⟩, by simp [intOf]; omega⟩
      · have hjr2 : (j : Int) < al.tmod n := by omega
        obtain rfl : ow = al.tdiv n + 1 := by rw [hjd, if_pos hjr2]
        clear hjd hjr
        obtain ⟨W3, hW3⟩ : ∃ W3, W3 = ((W1.setCell ⟨ob, 0, none⟩ (.int .i64 (al.tdiv n))).setCell ⟨ob, 0, none⟩ (.int .i64 (al.tdiv n + 1))).alloc (.cells #[.pointer (some ⟨k.g, 0, none⟩)] 55) := ⟨_, rfl⟩
        have g3 : wr.grownBy W3 none := by rw [hW3]; exact (grown_set (grown_set g1.out (by rw [hob.out]; exact Nat.le_refl _)) (by rw [hob.out]; exact Nat.le_refl _)).trans (World.grownBy_alloc _ _ _)
        have c3 : W3.heap[W1.heap.size]? = some (.cells #[ptr k.g] 55 (0, 0)) := by rw [hW3]; exact new_at (by simp)
        have CF := CE.out W3 g3 W1.heap.size g1.out.size c3
        have hpd2 := hpd.out W3
        have hst2 := hst.out W3
        replace g3 := Lib.hid g3; replace c3 := Lib.hid c3; replace CF := Lib.hid CF; replace hpd2 := Lib.hid hpd2; replace hst2 := Lib.hid hst2
        have hW3h := Lib.hid hW3
        clear hW3 hst hpd CE
        go_wp2_with fail
        rw [← hW3h.out]
        refine CF.out.mono ?_
        rintro e W4 ⟨t', up, rfl, hT4, he4, o4, nd4, hb4⟩
        obtain ⟨⟨v4, c4⟩, f4⟩ := hpd2.out W4 g3.out hk.out o4
        have hnew := hst2.out W4 t' up g3.out hT4 (by rw [hownA.out.1, hownA.out.2]; exact he4) o4 nd4 hb4
        replace hT4 := Lib.hid hT4; replace he4 := Lib.hid he4; replace o4 := Lib.hid o4; replace nd4 := Lib.hid nd4; replace hb4 := Lib.hid hb4; replace hnew := Lib.hid hnew
        clear CF
        unfold ptr
        go_wp2_with fail
        exact ⟨⟨j + 1, by omega, by go_num, hnew⟩, by simp [intOf]; omega⟩
    · obtain rfl : j = n := by omega
      obtain ⟨ks', hl', hF⟩ := hend.out wr hI.out
      obtain ⟨f1, f2, f3, f4, f5, f6⟩ := hF.out
      obtain ⟨r0, r1, r2⟩ := hsz.out j wr hI.out
      have CS := split_any 0 a b id B o c j ks' wr f1 hα.out hl'.symm (by omega) f2 f4 f6.m'
      replace CS := Lib.hid CS; replace hF := Lib.hid hF; replace hl' := Lib.hid hl'; replace f1 := Lib.hid f1; replace f2 := Lib.hid f2; replace f3 := Lib.hid f3; replace f4 := Lib.hid f4; replace f5 := Lib.hid f5; replace f6 := Lib.hid f6
      go_wp2_with fail
      refine CS.out.mono ?_
      rintro e w5 ⟨g, hg, rfl, hT5, o5⟩
      replace hT5 := Lib.hid hT5; replace o5 := Lib.hid o5
      unfold ptr
      go_wp2_with fail
      go_ret
      have hkg : ∀ x ∈ ks'.map T.g, x ∈ blL ks' := fun x hx => by
        obtain ⟨k, hk, rfl⟩ := List.mem_map.1 hx; exact g_in hk
      have hw5 := f6.out.size
      refine ⟨_, none, rfl, hT5.out, ?_, f6.out.trans o5.out (fun x hx => ?_), ?_, fun x hx => ?_⟩
      · rw [T.er_mk, f3.out]
      · rcases f5.out x (hkg x hx) with h | h
        · exact .inl (by simp [h])
        · exact .inr h
      · rw [T.bl_mk]
        refine List.nodup_cons.2 ⟨?_, by simpa using f4.out⟩
        simp only [Option.toList_some, List.singleton_append, List.mem_cons, not_or]
        refine ⟨fun e => by have := hlt.out id (by simp); omega, fun hx => ?_⟩
        obtain ⟨k', hk', hx⟩ := mem_blL.1 hx
        obtain ⟨up', hT'⟩ := f2.out k' hk'
        have := hT'.lt _ _ _ hx; omega
      · rw [T.bl_mk] at hx
        simp only [Option.toList_some, List.singleton_append, List.mem_cons] at hx
        rcases hx with rfl | rfl | hx
        · exact .inr (by omega)
        · exact .inl (by simp)
        · rcases f5.out x hx with h | h
          · exact .inl (by simp [h])
          · exact .inr h

set_option maxHeartbeats 1000000 in
set_option maxRecDepth 100000 in
theorem evenN_w1 (a b : Int) (id B o c n : Nat) (ks : List T) (w : World) (hR : RowAt G w (some id) c n (ptrs ks)) (hα : G.α id = (B, o)) (hn : n = ks.length) (hl : 2 ≤ n ∧ n ≤ 1000)
    (hK : ∀ k ∈ ks, LT G w k) (nd : (id :: blL ks).Nodup) (hm : G.m ≤ w.heap.size) (hE : ∀ k ∈ ks, Even1 k) (ha : Bd a) (hb : Bd b) :
    Calls Tryd.prog 44 #[.int .i64 1, .agg #[.int .i64 a, .int .i64 b], .slice (some ⟨B, o, none⟩) n c] w (EvenP G w (id :: blL ks) (.mk 0 a b 1 (evenL 1 a b n 0 (erL ks)))) := by
  have hlt : ∀ x ∈ id :: blL ks, x < w.heap.size := fun x hx => by
    rcases List.mem_cons.1 hx with rfl | hx
    · obtain ⟨_, h, _⟩ := hR.prow rfl hα (by omega); exact h
    · obtain ⟨k, hk, hx⟩ := mem_blL.1 hx
      exact (hK k hk).lt _ x hx
  obtain ⟨nd1, nd2⟩ := List.nodup_cons.1 nd
  obtain ⟨sb, hsb⟩ : ∃ sb, sb = w.heap.size := ⟨_, rfl⟩
  obtain ⟨W0, hW0⟩ : ∃ W0, W0 = w.alloc (.cells #[.int .i64 a, .int .i64 b] 56) := ⟨_, rfl⟩
  have g0 : w.grownBy W0 none := by rw [hW0]; exact World.grownBy_alloc w _ none
  have hI0 : EvI G w id c n 1 a b ks 0 W0 := by
    have og : Off G (id :: blL ks) w W0 := Off.of_grown hm g0
    refine ⟨⟨[], rfl, ?_, by simp, by rw [List.take_zero, erL_nil, evenL_nil], by simpa using nd, by simp [blL_nil]⟩, fun k hk => (hK k (by simpa using hk)).grown g0, og, by rw [hW0]; exact heap_alloc_new w _⟩
    simpa using hR.off (S := []) (Off.of_grown hm g0) (by simp)
  have hsz : ∀ j wr, EvI G w id c n 1 a b ks j wr → wr.cell? ⟨sb, 0, none⟩ = some (.int .i64 a) ∧ wr.cell? ⟨sb, 1, none⟩ = some (.int .i64 b) ∧ sb < wr.heap.size := fun j wr h => by
    have := h.sb
    rw [← hsb] at this
    exact ⟨by rw [cell_of_heap this]; rfl, by rw [cell_of_heap this]; rfl, lt_of_heap this⟩
  obtain ⟨s0, s1, s2⟩ := hsz 0 W0 hI0
  have hn1 : ((n : Int) == 1) = false := beq_eq_false_iff_ne.2 (by omega)
  obtain ⟨al, hal⟩ : ∃ al, al = b - ((n : Int) - 1) := ⟨_, rfl⟩
  have z1 : IntKind.i64.wrap ((n : Int) - 1) = (n : Int) - 1 := IntWalk.i64_in _ (by omega)
  have z2 : IntKind.i64.wrap (b - ((n : Int) - 1)) = al := by rw [hal]; unfold Bd at ha hb; exact IntWalk.i64_in _ (by omega)
  have hn0 : ¬ ((n : Int) = 0) := by omega
  have hbd := fun i => own_bd (z := b) (n := n) hl.1 hl.2 hb i
  have z3 : IntKind.i64.wrap (al.tdiv n) = al.tdiv n := by rw [hal]; exact IntWalk.i64_in _ (by have := (hbd 0).2.2; omega)
  have z4 : IntKind.i64.wrap (al.tdiv n + 1) = al.tdiv n + 1 := by rw [hal]; exact IntWalk.i64_in _ (by have := (hbd 0).2.2; omega)
  have hown : ∀ i : Nat, own b n i = al.tdiv n + if (i : Int) < al.tmod n then 1 else 0 := fun i => by rw [hal]; rfl
  have hap : al.tdiv n ≤ 9223372036854775807 ∧ -9223372036854775808 ≤ al.tdiv n := by have := (hbd 0).2.2; rw [← hal] at this; omega
  have hend : ∀ wr, EvI G w id c n 1 a b ks n wr → ∃ ks' : List T, ks'.length = n ∧ Hid (RowAt G wr (some id) c n (ptrs ks') ∧ (∀ k ∈ ks', ∃ up, TP G wr up k) ∧ erL ks' = evenL 1 a b n 0 (erL ks) ∧ (id :: blL ks').Nodup ∧ (∀ x ∈ blL ks', x ∈ blL ks ∨ w.heap.size ≤ x) ∧ Off G (id :: blL ks) w wr) := fun wr h => by
    obtain ⟨ks', e1, e2, e3, e4, e5, e6⟩ := h.ex
    rw [hn] at e2 e4 e5
    rw [List.drop_length, List.append_nil] at e2 e5
    rw [List.take_length] at e4
    exact ⟨ks', e1, Lib.hid ⟨by rw [hn]; exact e2, e3, by rw [hn]; exact e4, e5, e6, h.o⟩⟩
  have hPc : ∀ j wr k, EvI G w id c n 1 a b ks j wr → ks[j]? = some k → wr.cell? ⟨B, o + j, none⟩ = some (ptr k.g) ∧ wr.frozen? ⟨B, o + j, none⟩ = false ∧ B < wr.heap.size := fun j wr k h hk => by
    obtain ⟨ks', e1, e2, e3, e4, e5, e6⟩ := h.ex
    obtain ⟨cur', _, _, hP', _⟩ := e2.prow rfl hα (by omega)
    refine ⟨hP'.cell ?_, hP'.free _, lt_of_heap hP'.h⟩
    rw [drop_at hk]
    unfold ptrs
    rw [List.map_append, List.getElem?_append_right (by simp [e1])]
    simp [e1]
  have hPd : ∀ j wr, EvI G w id c n 1 a b ks j wr → j < n → ∀ W3 W4 k, wr.grownBy W3 none → ks[j]? = some k → Off G k.bl W3 W4 → (∃ v, W4.cell? ⟨B, o + j, none⟩ = some v) ∧ W4.frozen? ⟨B, o + j, none⟩ = false := fun j wr h hj W3 W4 k g3 hk o4 => by
    obtain ⟨ks', e1, e2, e3, e4, e5, e6⟩ := h.ex
    have hidk : id ∉ k.bl := fun hx => nd1 (mem_blL.2 ⟨k, List.mem_of_getElem? hk, hx⟩)
    have hR4 := (e2.off (S := []) (Off.of_grown h.o.m' g3) (by simp)).off o4 (by intro b' hb'; injection hb' with hb'; rw [← hb']; exact hidk)
    obtain ⟨cur', _, _, hP', _⟩ := hR4.prow rfl hα (by omega)
    exact ⟨hP'.some (by have := hP'.nc; omega), hP'.free _⟩
  replace hR := Lib.hid hR; replace hα := Lib.hid hα; replace hn := Lib.hid hn; replace hK := Lib.hid hK; replace nd := Lib.hid nd; replace nd1 := Lib.hid nd1; replace nd2 := Lib.hid nd2; replace hE := Lib.hid hE; replace hlt := Lib.hid hlt; replace hI0 := Lib.hid hI0; replace g0 := Lib.hid g0; replace hbd := Lib.hid hbd; replace hown := Lib.hid hown; replace hend := Lib.hid hend; replace hPc := Lib.hid hPc; replace hPd := Lib.hid hPd; replace ha := Lib.hid ha; replace hb := Lib.hid hb; replace hsz := Lib.hid hsz
  have hW0h := Lib.hid hW0; have hsbh := Lib.hid hsb; replace hal := Lib.hid hal
  clear hW0 hsb
  go_enter Tryd.func44, Tryd.ntmps44
  go_upto_region 1 with fail
  rw [← hW0h.out, ← hsbh.out]
  go_wp2_with fail
  go_loopw [54] (fun iv wr => ∃ j : Nat, j ≤ n ∧ iv = .int .i64 j ∧ Hid (EvI G w id c n 1 a b ks j wr)) (fun iv _ => n - (intOf iv).toNat)
  case atStart => exact ⟨0, Nat.zero_le _, rfl, hI0⟩
  case round =>
    obtain ⟨j, hj, rfl, hI⟩ := hrel
    by_cases hlt2 : j < n
    · obtain ⟨k, hk⟩ : ∃ k, ks[j]? = some k := ⟨ks[j]'(by rw [← hn.out]; exact hlt2), List.getElem?_eq_getElem _⟩
      obtain ⟨pc, pf, pB⟩ := hPc.out j wr k hI.out hk
      obtain ⟨r0, r1, r2⟩ := hsz.out j wr hI.out
      have hjd := hown.out j
      have hmem := List.mem_of_getElem? hk
      have hLk : LT G wr k := hI.out.r k (by rw [drop_at hk]; simp)
      have hkN : k.bl.Nodup := by
        have := nd2.out
        rw [split_at hk] at this
        exact (kid_apart this).1
      have hbdj := hbd.out j
      have hm3 : G.m ≤ wr.heap.size := hI.out.o.m'
      obtain ⟨ow, how⟩ : ∃ ow, ow = own b n j := ⟨_, rfl⟩
      rw [← how] at hjd
      rw [← how] at hbdj
      have CE := fun W3 (g3 : wr.grownBy W3 none) (rb : Nat) (hrb : wr.heap.size ≤ rb) (hc : W3.heap[rb]? = some (.cells #[ptr k.g] 55 (0, 0))) =>
        hE.out k hmem G 1 a ow rb 0 1 W3 (hLk.grown g3) hkN
          (fun w' o' => by
            have q : G.wh rb := G.fresh (Nat.le_trans hm3 hrb)
            have := (o'.wh q (lt_of_heap hc) (fun hx => by have := hLk.lt _ _ hx; omega)).trans hc
            rw [cell_of_heap this]; rfl)
          (by omega) (by omega) ha.out (by unfold Bd; have := hbdj; omega) (Nat.le_trans hm3 g3.size)
      have hst := fun W3 W4 t' up => hI.out.step (W3 := W3) (W4 := W4) (t' := t') (up := up) hk hα.out hn.out hlt.out nd.out
      have hpd := fun W3 W4 => hPd.out j wr hI.out hlt2 W3 W4 k
      have hownA : ownA 1 a n j = a ∧ ownB 1 b n j = ow := by rw [how]; exact ⟨rfl, rfl⟩
      replace CE := Lib.hid CE; replace hst := Lib.hid hst; replace hpd := Lib.hid hpd; replace hk := Lib.hid hk; replace hLk := Lib.hid hLk; replace hkN := Lib.hid hkN; replace hownA := Lib.hid hownA; replace how := Lib.hid how; replace hbdj := Lib.hid hbdj
      unfold ptr at pc
      go_upto_region 11 with fail
      obtain ⟨ob, hob⟩ : ∃ ob, ob = wr.heap.size := ⟨_, rfl⟩
      obtain ⟨W1, hW1⟩ : ∃ W1, W1 = wr.alloc (.cells #[.int .i64 a, .int .i64 b] 56) := ⟨_, rfl⟩
      have b1 : W1.heap[ob]? = some (.cells #[.int .i64 a, .int .i64 b] 56 (0, 0)) := by rw [hW1, hob]; exact heap_alloc_new wr _
      have g1 : wr.grownBy W1 none := by rw [hW1]; exact World.grownBy_alloc _ _ _
      rw [← hW1, ← hob]
      have v0 : W1.cell? ⟨ob, 0, none⟩ = some (.int .i64 a) := by rw [cell_of_heap b1]; rfl
      have v1 : W1.cell? ⟨ob, 1, none⟩ = some (.int .i64 b) := by rw [cell_of_heap b1]; rfl
      have vf0 := free_of_heap b1 0
      have vf1 := free_of_heap b1 1
      have vs := lt_of_heap b1
      replace hW1 := Lib.hid hW1; replace hob := Lib.hid hob; replace b1 := Lib.hid b1; replace g1 := Lib.hid g1
      rcases Int.lt_or_le (al.tmod n) (j + 1) with hjr | hjr
      · have hjr2 : ¬ ((j : Int) < al.tmod n) := by omega
        obtain rfl : ow = al.tdiv n := by rw [hjd, if_neg hjr2, Int.add_zero]
        clear hjd hjr
        obtain ⟨W3, hW3⟩ : ∃ W3, W3 = (W1.setCell ⟨ob, 1, none⟩ (.int .i64 (al.tdiv n))).alloc (.cells #[.pointer (some ⟨k.g, 0, none⟩)] 55) := ⟨_, rfl⟩
        have g3 : wr.grownBy W3 none := by rw [hW3]; exact (grown_set g1.out (by rw [hob.out]; exact Nat.le_refl _)).trans (World.grownBy_alloc _ _ _)
        have c3 : W3.heap[W1.heap.size]? = some (.cells #[ptr k.g] 55 (0, 0)) := by rw [hW3]; exact new_at (by simp)
        have CF := CE.out W3 g3 W1.heap.size g1.out.size c3
        have hpd2 := hpd.out W3
        have hst2 := hst.out W3
        replace g3 := Lib.hid g3; replace c3 := Lib.hid c3; replace CF := Lib.hid CF; replace hpd2 := Lib.hid hpd2; replace hst2 := Lib.hid hst2
        have hW3h := Lib.hid hW3
        clear hW3 hst hpd CE
        go_wp2_with fail
        rw [← hW3h.out]
        refine CF.out.mono ?_
        rintro e W4 ⟨t', up, rfl, hT4, he4, o4, nd4, hb4⟩
        obtain ⟨⟨v4, c4⟩, f4⟩ := hpd2.out W4 g3.out hk.out o4
        have hnew := hst2.out W4 t' up g3.out hT4 (by rw [hownA.out.1, hownA.out.2]; exact he4) o4 nd4 hb4
        replace hT4 := Lib.hid hT4; replace he4 := Lib.hid he4; replace o4 := Lib.hid o4; replace nd4 := Lib.hid nd4; replace hb4 := Lib.hid hb4; replace hnew := Lib.hid hnew
        clear CF
        unfold ptr
        go_wp2_with fail
        exact ⟨⟨j + 1, by omega, by go_num, hnew⟩, by simp [intOf]; omega⟩
      · have hjr2 : (j : Int) < al.tmod n := by omega
        obtain rfl : ow = al.tdiv n + 1 := by rw [hjd, if_pos hjr2]
        clear hjd hjr
        obtain ⟨W3, hW3⟩ : ∃ W3, W3 = ((W1.setCell ⟨ob, 1, none⟩ (.int .i64 (al.tdiv n))).setCell ⟨ob, 1, none⟩ (.int .i64 (al.tdiv n + 1))).alloc (.cells #[.pointer (some ⟨k.g, 0, none⟩)] 55) := ⟨_, rfl⟩
        have g3 : wr.grownBy W3 none := by rw [hW3]; exact (grown_set (grown_set g1.out (by rw [hob.out]; exact Nat.le_refl _)) (by rw [hob.out]; exact Nat.le_refl _)).trans (World.grownBy_alloc _ _ _)
        have c3 : W3.heap[W1.heap.size]? = some (.cells #[ptr k.g] 55 (0, 0)) := by rw [hW3]; exact new_at (by simp)
        have CF := CE.out W3 g3 W1.heap.size g1.out.size c3
        have hpd2 := hpd.out W3
        have hst2 := hst.out W3
        replace g3 := Lib.hid g3; replace c3 := Lib.hid c3; replace CF := Lib.hid CF; replace hpd2 := Lib.hid hpd2; replace hst2 := Lib.hid hst2
        have hW3h := Lib.hid hW3
        clear hW3 hst hpd CE
        go_wp2_with fail
        rw [← hW3h.out]
        refine CF.out.mono ?_
        rintro e W4 ⟨t', up, rfl, hT4, he4, o4, nd4, hb4⟩
        obtain ⟨⟨v4, c4⟩, f4⟩ := hpd2.out W4 g3.out hk.out o4
        have hnew := hst2.out W4 t' up g3.out hT4 (by rw [hownA.out.1, hownA.out.2]; exact he4) o4 nd4 hb4
        replace hT4 := Lib.hid hT4; replace he4 := Lib.hid he4; replace o4 := Lib.hid o4; replace nd4 := Lib.hid nd4; replace hb4 := Lib.hid hb4; replace hnew := Lib.hid hnew
        clear CF
        unfold ptr
        go_wp2_with fail
        exact ⟨⟨j + 1, by omega, by go_num, hnew⟩, by simp [intOf]; omega⟩
    · obtain rfl : j = n := by omega
      obtain ⟨ks', hl', hF⟩ := hend.out wr hI.out
      obtain ⟨f1, f2, f3, f4, f5, f6⟩ := hF.out
      obtain ⟨r0, r1, r2⟩ := hsz.out j wr hI.out
      have CS := split_any 1 a b id B o c j ks' wr f1 hα.out hl'.symm (by omega) f2 f4 f6.m'
      replace CS := Lib.hid CS; replace hF := Lib.hid hF; replace hl' := Lib.hid hl'; replace f1 := Lib.hid f1; replace f2 := Lib.hid f2; replace f3 := Lib.hid f3; replace f4 := Lib.hid f4; replace f5 := Lib.hid f5; replace f6 := Lib.hid f6
      go_wp2_with fail
      refine CS.out.mono ?_
      rintro e w5 ⟨g, hg, rfl, hT5, o5⟩
      replace hT5 := Lib.hid hT5; replace o5 := Lib.hid o5
      unfold ptr
      go_wp2_with fail
      go_ret
      have hkg : ∀ x ∈ ks'.map T.g, x ∈ blL ks' := fun x hx => by
        obtain ⟨k, hk, rfl⟩ := List.mem_map.1 hx; exact g_in hk
      have hw5 := f6.out.size
      refine ⟨_, none, rfl, hT5.out, ?_, f6.out.trans o5.out (fun x hx => ?_), ?_, fun x hx => ?_⟩
      · rw [T.er_mk, f3.out]
      · rcases f5.out x (hkg x hx) with h | h
        · exact .inl (by simp [h])
        · exact .inr h
      · rw [T.bl_mk]
        refine List.nodup_cons.2 ⟨?_, by simpa using f4.out⟩
        simp only [Option.toList_some, List.singleton_append, List.mem_cons, not_or]
        refine ⟨fun e => by have := hlt.out id (by simp); omega, fun hx => ?_⟩
        obtain ⟨k', hk', hx⟩ := mem_blL.1 hx
        obtain ⟨up', hT'⟩ := f2.out k' hk'
        have := hT'.lt _ _ _ hx; omega
      · rw [T.bl_mk] at hx
        simp only [Option.toList_some, List.singleton_append, List.mem_cons] at hx
        rcases hx with rfl | rfl | hx
        · exact .inr (by omega)
        · exact .inl (by simp)
        · rcases f5.out x hx with h | h
          · exact .inl (by simp [h])
          · exact .inr h

theorem evenN_any {way : Int} (hw : way = 0 ∨ way = 1) (a b : Int) (id B o c n : Nat) (ks : List T) (w : World) (hR : RowAt G w (some id) c n (ptrs ks)) (hα : G.α id = (B, o)) (hn : n = ks.length) (hl : 2 ≤ n ∧ n ≤ 1000)
    (hK : ∀ k ∈ ks, LT G w k) (nd : (id :: blL ks).Nodup) (hm : G.m ≤ w.heap.size) (hE : ∀ k ∈ ks, Even1 k) (ha : Bd a) (hb : Bd b) :
    Calls Tryd.prog 44 #[.int .i64 way, .agg #[.int .i64 a, .int .i64 b], .slice (some ⟨B, o, none⟩) n c] w (EvenP G w (id :: blL ks) (.mk 0 a b way (evenL way a b n 0 (erL ks)))) := by
  rcases hw with rfl | rfl
  · exact evenN_w0 a b id B o c n ks w hR hα hn hl hK nd hm hE ha hb
  · exact evenN_w1 a b id B o c n ks w hR hα hn hl hK nd hm hE ha hb

set_option maxHeartbeats 1000000 in
set_option maxRecDepth 100000 in
theorem even1_any (t : T) : Frm t.er → Sm t → Even1 t := by
  induction t using T.ind with
  | h n ks ih =>
    intro hF hS G way a b rB ro rc w hL nd hc hrc1 hrc2 ha hb hm
    obtain ⟨⟨up, hA⟩, hk⟩ := LT_mk.1 hL
    have hlt := hL.lt
    rw [T.bl_mk] at nd
    obtain ⟨nd1, nd2⟩ := List.nodup_cons.1 nd
    have hAg : n.A ≠ some n.g := fun e => nd1 (by rw [e]; simp)
    have hgk : n.g ∉ blL ks := fun h => nd1 (by simp [h])
    obtain ⟨sb, hsb⟩ : ∃ sb, sb = w.heap.size := ⟨_, rfl⟩
    obtain ⟨W0, hW0⟩ : ∃ W0, W0 = w.alloc (.cells #[.int .i64 a, .int .i64 b] 56) := ⟨_, rfl⟩
    have g0 : w.grownBy W0 none := by rw [hW0]; exact World.grownBy_alloc w _ none
    have b0 : W0.heap[sb]? = some (.cells #[.int .i64 a, .int .i64 b] 56 (0, 0)) := by rw [hW0, hsb]; exact heap_alloc_new w _
    have s0 : W0.cell? ⟨sb, 0, none⟩ = some (.int .i64 a) := by rw [cell_of_heap b0]; rfl
    have s1 : W0.cell? ⟨sb, 1, none⟩ = some (.int .i64 b) := by rw [cell_of_heap b0]; rfl
    have sl := lt_of_heap b0
    have og : Off G (T.mk n ks).bl w W0 := Off.of_grown hm g0
    have hA0 : At G W0 up n ks := hA.off (S := []) (Off.of_grown hm g0) (by simp)
    have rc0 : W0.cell? ⟨rB, ro, none⟩ = some (ptr n.g) := hc W0 og
    have x3 := hA0.c3; have x4 := hA0.c4
    have f3 := hA0.free 3; have f4 := hA0.free 4
    obtain ⟨W2, hW2⟩ : ∃ W2, W2 = ((W0.setCell ⟨n.g, 3, none⟩ (.int .i64 a)).setCell ⟨n.g, 4, none⟩ (.int .i64 b)).drew := ⟨_, rfl⟩
    have o2 : Off G [n.g] W0 W2 := by
      rw [hW2]
      have q1 : Off G [n.g] W0 _ := Off.setw hA0.m hA0.q 3 (.int .i64 a)
      have q2 := q1.trans (Off.setw q1.m' hA0.q 4 (.int .i64 b)) (by simp)
      exact q2.trans (Off.drew (S := []) q2.m') (by simp)
    have o02 : Off G (T.mk n ks).bl w W2 := og.trans o2 (by intro b hb; rw [List.mem_singleton] at hb; rw [hb, T.bl_mk]; simp)
    have hA2 : At G W2 up { n with a := a, b := b } ks := by
      refine hA0.upd rfl rfl rfl rfl o2 ?_ hAg
      rw [hW2]
      exact heap_set (heap_set (w := W0) hA0.h _) _
    have rc2 : W2.cell? ⟨rB, ro, none⟩ = some (ptr n.g) := hc W2 o02
    have hsn : sb ≠ n.g := by have := hlt n.g (by rw [T.bl_mk]; simp); omega
    have b2 : W2.heap[sb]? = some (.cells #[.int .i64 a, .int .i64 b] 56 (0, 0)) := (o2.wh (G.fresh (by omega)) sl (by simpa using hsn)).trans b0
    have t0 : W2.cell? ⟨sb, 0, none⟩ = some (.int .i64 a) := by rw [cell_of_heap b2]; rfl
    have t1 : W2.cell? ⟨sb, 1, none⟩ = some (.int .i64 b) := by rw [cell_of_heap b2]; rfl
    have y6 := hA2.c6
    have y5 : W2.cell? ⟨n.g, 5, none⟩ = some (.int .i64 n.way) := hA2.c5
    replace y6 : W2.cell? ⟨n.g, 6, none⟩ = some (.slice (adr G n.A) ks.length n.c) := y6
    obtain ⟨AA, hAA⟩ : ∃ AA, AA = adr G n.A := ⟨_, rfl⟩
    obtain ⟨len, hlen⟩ : ∃ len, len = ks.length := ⟨_, rfl⟩
    rw [← hAA, ← hlen] at y6
    have hrci : (1 : Int) ≤ (rc : Int) := by omega
    rcases Nat.eq_zero_or_pos len with hl0 | hlp
    · have hks : ks = [] := List.eq_nil_of_length_eq_zero (by rw [← hlen]; exact hl0)
      subst hl0
      subst hks
      have hfin : EvenP G w (T.mk n []).bl ((T.mk n []).er.even a b) (.returned (ptr n.g)) W2 := by
        refine ⟨.mk { n with a := a, b := b } [], up, rfl, .mk hA2 (by rw [TPs]; trivial), ?_, o02, ?_, fun x hx => .inl hx⟩
        · rw [T.er_mk, T.er_mk, erL_nil, even_mk]; rfl
        · rw [T.bl_mk]; exact nd
      replace hfin := Lib.hid hfin; replace hA := Lib.hid hA; replace hA0 := Lib.hid hA0; replace hA2 := Lib.hid hA2; replace hL := Lib.hid hL; replace hk := Lib.hid hk; replace ih := Lib.hid ih; replace hc := Lib.hid hc; replace o2 := Lib.hid o2; replace o02 := Lib.hid o02; replace og := Lib.hid og; replace g0 := Lib.hid g0; replace b0 := Lib.hid b0; replace b2 := Lib.hid b2; replace nd := Lib.hid nd; replace nd1 := Lib.hid nd1; replace nd2 := Lib.hid nd2; replace hAA := Lib.hid hAA; replace hlen := Lib.hid hlen; replace hAg := Lib.hid hAg; replace hlt := Lib.hid hlt; replace hF := Lib.hid hF; replace hS := Lib.hid hS; replace hgk := Lib.hid hgk
      have hW0h := Lib.hid hW0; have hsbh := Lib.hid hsb; have hW2h := Lib.hid hW2
      clear hW0 hsb hW2 ha hb
      unfold ptr at *
      go_enter Tryd.func44, Tryd.ntmps44
      go_upto_region 1 with fail
      rw [← hW0h.out, ← hsbh.out]
      go_upto_region 2 with fail
      go_still_tail 6, (by kernel_rfl)
      change wpList _ _ _ _ _ W0.drew
      go_upto_region 3 with fail
      rw [← hW2h.out]
      clear s0 s1 x3 x4 f3 f4 rc0
      go_wp2_with fail
      go_ret
      exact hfin.out
    · have hF' := hF
      rw [T.er_mk] at hF'
      obtain ⟨hw, hl2, hkF⟩ : (n.way = 0 ∨ n.way = 1) ∧ 2 ≤ ks.length ∧ ∀ k ∈ ks, Frm k.er := by
        have hne : erL ks ≠ [] := fun e => by have := erL_len ks; rw [e] at this; simp at this; omega
        rcases hF'.inv with ⟨h, _⟩ | ⟨h1, h2, h3⟩
        · exact absurd h hne
        · rw [erL_len] at h2
          exact ⟨h1, h2, fun k hk => h3 _ (by rw [erL_map]; exact List.mem_map_of_mem hk)⟩
      obtain ⟨hS1, hS2⟩ : ks.length ≤ 1000 ∧ ∀ k ∈ ks, Sm k := by cases hS with | mk h1 h2 => exact ⟨h1, h2⟩
      obtain ⟨k0, hk0⟩ : ∃ k0, ks[0]? = some k0 := ⟨ks[0]'(by omega), List.getElem?_eq_getElem _⟩
      obtain ⟨id, B, o, cur, hid, hα, hAd, hP, hκ, _⟩ := hA2.kid hk0
      replace hid : n.A = some id := hid
      have hAe : AA = some ⟨B, o, none⟩ := by rw [hAA]; exact hAd
      subst hAe
      have hndr : (id :: blL ks).Nodup := by
        have := nd2
        rw [hid] at this
        simpa using this
      have hRk : RowAt G W2 (some id) n.c len (ptrs ks) := by have := hA2.r; rw [show ({ n with a := a, b := b } : Nd).A = some id from hid, ← hlen] at this; exact this
      have hmW : G.m ≤ W2.drew.heap.size := o2.m'
      have CN := evenN_any hw a b id B o n.c len ks W2.drew (hRk.same (Nat.le_refl _) fun b _ => Kp.of_heap (fun _ _ => rfl) b) hα hlen (by omega) (fun k hk' => ((hk k hk').grown g0).off _ (o2.trans (Off.drew (S := []) o2.m') (by simp)) fun x hx hx2 => by
        rw [List.mem_singleton] at hx2; subst hx2; exact hgk (mem_blL.2 ⟨k, hk', hx⟩)) hndr hmW (fun k hk' => ih k hk' (hkF k hk') (hS2 k hk')) ha hb
      have hfin : ∀ e w', EvenP G W2.drew (id :: blL ks) (.mk 0 a b n.way (evenL n.way a b len 0 (erL ks))) e w' → EvenP G w (T.mk n ks).bl ((T.mk n ks).er.even a b) e w' := fun e w' h => by
        rw [T.er_mk, even_mk, if_neg (by rw [erL_len]; omega), erL_len, ← hlen]
        refine h.later (o02.trans (Off.drew (S := []) o2.m') (by simp)) fun x hx => .inl ?_
        rw [T.bl_mk, hid]
        simp only [Option.toList_some, List.singleton_append]
        exact List.mem_cons_of_mem _ hx
      have hgt : (0 : Int) < (len : Int) := by omega
      replace hfin := Lib.hid hfin; replace hA := Lib.hid hA; replace hA0 := Lib.hid hA0; replace hA2 := Lib.hid hA2; replace hL := Lib.hid hL; replace hk := Lib.hid hk; replace ih := Lib.hid ih; replace hc := Lib.hid hc; replace o2 := Lib.hid o2; replace o02 := Lib.hid o02; replace og := Lib.hid og; replace g0 := Lib.hid g0; replace b0 := Lib.hid b0; replace b2 := Lib.hid b2; replace nd := Lib.hid nd; replace nd1 := Lib.hid nd1; replace nd2 := Lib.hid nd2; replace hAA := Lib.hid hAA; replace hlen := Lib.hid hlen; replace hAg := Lib.hid hAg; replace hlt := Lib.hid hlt; replace hF := Lib.hid hF; replace hS := Lib.hid hS; replace hgk := Lib.hid hgk
      replace hF' := Lib.hid hF'; replace hw := Lib.hid hw; replace hkF := Lib.hid hkF; replace hS2 := Lib.hid hS2; replace hk0 := Lib.hid hk0; replace hid := Lib.hid hid; replace hα := Lib.hid hα; replace hAd := Lib.hid hAd; replace hP := Lib.hid hP; replace hκ := Lib.hid hκ; replace hndr := Lib.hid hndr; replace hRk := Lib.hid hRk; replace CN := Lib.hid CN
      have hW0h := Lib.hid hW0; have hsbh := Lib.hid hsb; have hW2h := Lib.hid hW2
      clear hW0 hsb hW2 ha hb
      unfold ptr at *
      go_enter Tryd.func44, Tryd.ntmps44
      go_upto_region 1 with fail
      rw [← hW0h.out, ← hsbh.out]
      go_upto_region 2 with fail
      go_still_tail 6, (by kernel_rfl)
      change wpList _ _ _ _ _ W0.drew
      go_upto_region 3 with fail
      rw [← hW2h.out]
      clear s0 s1 x3 x4 f3 f4 rc0
      go_upto_region 4 with fail
      go_still_tail 13, (by kernel_rfl)
      change wpList _ _ _ _ _ W2.drew
      go_wp2_with fail
      refine CN.out.mono ?_
      intro e w5 h5
      have h6 := hfin.out e w5 h5
      obtain ⟨t', up', rfl, h7⟩ := h5
      replace h6 := Lib.hid h6; replace h7 := Lib.hid h7
      unfold ptr at h6 ⊢
      go_wp2_with fail
      go_ret
      exact h6.out
end Go.Proofs.YtcklmkjlbpjojaaDoor.X
