/- Layout: Split's success, first part: up to the pane's split. -/
import Derived.Test.YtcklmkjlbpjojaaDoorE2c
import Derived.Test.YtcklmkjlbpjojaaDoorK
namespace Go.Proofs.YtcklmkjlbpjojaaDoor
open Go.RowKit
set_option linter.unusedSimpArgs false
set_option linter.unusedVariables false

set_option maxHeartbeats 4000000 in
set_option maxRecDepth 100000 in
theorem split_ok_true (base tr : Nat) (c : List Fr) (l : T) (pane other size : Int) (before : Bool) (w : World) (hT : Tr base w tr (plug c l)) (hbase : base ≤ w.heap.size) (hl : (plug c l).leaves.length < 32)
    (hf : (plug c l).find pane = some l) (hlk : l.ks = []) (ho : 1 ≤ other) (hof : (plug c l).find other = none) (hs0 : 0 ≤ size) (hs1 : size ≤ l.n.a - 2) (hz0 : 3 ≤ l.n.a) (hz1 : l.n.a ≤ 1000) (hw01 : (plug c l).w01) :
    Calls Tryd.prog 12 #[ptr tr, .int .i64 pane, .int .i64 other, .bool true, .int .i64 size, .bool before] w (SplitS base tr w c l 0 other (l.n.a - ((if size = 0 then (l.n.a - 1) / 2 else size) + 1)) l.n.b (if size = 0 then (l.n.a - 1) / 2 else size) l.n.b before) := by
  have CL := Lib.hid (leaf_any base tr (plug c l) pane w hT (by omega))
  have CW : Hid (∀ W, Calls Tryd.prog 30 #[.bool true] W fun e w' => e = .returned (.int .i64 0) ∧ W = w') := Lib.hid (fun W => wayOf_any true W)
  have CH := Lib.hid (fun W (hg : w.grownBy W none) => has_any base tr (plug c l) other W (hT.grown hg) (by omega))
  have CA := Lib.hid (fun W (hg : w.grownBy W none) => all_any base tr (plug c l) W (hT.grown hg) (by omega))
  rw [hf] at CL
  rw [hof] at CH
  simp only [Option.map_some, uptr] at CL
  simp only [Option.isSome_none] at CH
  obtain ⟨len, hln⟩ : ∃ len, len = (plug c l).leaves.length := ⟨_, rfl⟩
  rw [← hln] at CA hl
  have hpt := (TP_plug c l).1 hT.p
  have hlA : At w (upOf c) l.n [] := by
    have h1 := hpt.2
    cases l with | mk n ks => cases hlk; exact h1.at_
  have hbase0 := hbase
  obtain ⟨sz, hsz⟩ : ∃ sz, sz = (if size = 0 then (l.n.a - 1) / 2 else size) := ⟨_, rfl⟩
  rw [← hsz]
  have hsz0 : 1 ≤ sz ∧ sz ≤ l.n.a - 2 := by rw [hsz]; split <;> omega
  have qz := hlA.c3
  have qb := hlA.c4
  have q0 := hlA.c0
  have q7 := hlA.c7
  rw [show l.n.g = l.g from rfl] at qz qb q0 q7
  obtain ⟨z, hz⟩ : ∃ z, z = l.n.a := ⟨_, rfl⟩
  rw [← hz] at qz hs1 hz0 hz1 hsz hsz0 ⊢
  have hl32 : ¬ (32 : Int) ≤ len := by omega
  have ho1 : ¬ other < 1 := by omega
  have hsn : ¬ size < 0 := by omega
  have hz3 : ¬ z < 3 := by omega
  have hw2 : IntKind.i64.wrap (z - 2) = z - 2 := by rw [IntKind.wrap_i64]; omega
  have hsz2 : ¬ z - 2 < size := by omega
  replace hT := Lib.hid hT; replace hf := Lib.hid hf; replace hof := Lib.hid hof; replace hln := Lib.hid hln; replace hpt := Lib.hid hpt; replace hlA := Lib.hid hlA; replace hsz := Lib.hid hsz; replace hz := Lib.hid hz; replace hlk := Lib.hid hlk; replace hw01 := Lib.hid hw01
  unfold ptr at *
  go_enter Tryd.func12, Tryd.ntmps12
  go_wp2_with fail
  refine CL.out.mono ?_
  rintro e w1 ⟨rfl, G1⟩
  replace G1 := Lib.hid G1
  go_wp2_with fail
  refine (CW.out _).mono ?_
  rintro e w2 ⟨rfl, rfl⟩
  go_wp2_with fail
  refine (CH.out _ G1.out).mono ?_
  rintro e w3 ⟨rfl, G2⟩
  have G12 := G1.out.trans G2
  replace G2 := Lib.hid G2; replace G12 := Lib.hid G12
  go_wp2_with fail
  refine (CA.out _ G12.out).mono ?_
  rintro e w4 ⟨A4, c4, rfl, O4, G3⟩
  have G := G12.out.trans G3
  replace qz := G.cell qz (by simp); replace qb := G.cell qb (by simp); replace q0 := G.cell q0 (by simp); replace q7 := G.cell q7 (by simp)
  clear G1 G2 G12 G3 O4 CL CW CH CA
  replace G := Lib.hid G
  go_upto_if 64 with fail
  go_cut [4] (fun sv wx => sv = .int .i64 sz ∧ wx = w4)
  case first =>
    by_cases h0 : size = 0
    · have hsz3 := hsz.out
      rw [if_pos h0] at hsz3
      have hd : (z - 1).tdiv 2 = sz := by rw [Int.tdiv_eq_ediv_of_nonneg (by omega)]; exact hsz3.symm
      have h0b : (size == 0) = true := by simp [h0]
      replace h0 := Lib.hid h0
      replace hsz3 := Lib.hid hsz3
      go_wp2_with fail
      go_meet
      exact ⟨by first | rw [hd] | (rw [hsz3.out]) , rfl⟩
    · have hsz3 := hsz.out
      rw [if_neg h0] at hsz3
      have h0b : (size == 0) = false := by simp [h0]
      replace hsz3 := Lib.hid hsz3
      go_wp2_with fail
      go_meet
      exact ⟨by rw [hsz3.out], rfl⟩
  case rest =>
    obtain ⟨rfl, rfl⟩ := hcut
    go_upto_region 15 with fail
    have hgt := hT.out.grown G.out
    obtain ⟨W5, hW5⟩ : ∃ W5, W5 = wc.alloc (.cells #[.int .i64 other, .int .i64 0, .int .i64 0, .int .i64 sz, .int .i64 l.n.b, .int .i64 0, .slice none 0 0, .pointer none] 58) := ⟨_, rfl⟩
    have g5 : wc.grownBy W5 none := by rw [hW5]; exact World.grownBy_alloc wc _ none
    have hn5 : W5.heap[wc.heap.size]? = some (.cells (nodeC other 0 0 sz l.n.b 0 (.slice none 0 0) (.pointer none)) 58 (0, 0)) := by rw [hW5]; exact heap_alloc_new wc _
    have hT5 := hgt.grown g5
    have G5 := G.out.trans g5
    have hwc := G.out.size
    rw [← hW5]
    obtain ⟨gn, hgn⟩ : ∃ gn, gn = wc.heap.size := ⟨_, rfl⟩
    rw [← hgn] at hn5 hwc ⊢
    replace qz := g5.cell qz (by simp); replace qb := g5.cell qb (by simp); replace q0 := g5.cell q0 (by simp); replace q7 := g5.cell q7 (by simp)
    have hgnb : ∀ b ∈ (plug c l).bl, b ≠ gn := fun b hb => by have := hgt.p.lt _ _ b hb; omega
    have hgntr : tr ≠ gn := by have := hgt.lt; omega
    have hs5 : gn < W5.heap.size := lt_of_heap hn5
    clear hW5
    replace g5 := Lib.hid g5; replace hn5 := Lib.hid hn5; replace hT5 := Lib.hid hT5; replace G5 := Lib.hid G5; replace hgt := Lib.hid hgt; replace hgnb := Lib.hid hgnb; replace hgn := Lib.hid hgn
    obtain ⟨nb, hnb⟩ : ∃ nb : Bool, nb = (match c with | [] => true | f :: _ => !decide (f.n.way = 0)) := ⟨_, rfl⟩
    have q5 : ∀ f d, c = f :: d → W5.cell? ⟨f.n.g, 5, none⟩ = some (.int .i64 f.n.way) := by
      rintro f d rfl
      exact (((TP_plug (f :: d) l).1 hT5.out.p).1.1).c5
    go_cut [101] (fun v wx => v = .bool nb ∧ wx = W5)
    case first =>
      rcases c with _ | ⟨f, c⟩
      · have q7' : W5.cell? ⟨l.g, 7, none⟩ = some (.pointer none) := q7
        simp only at hnb
        subst hnb
        clear q7
        go_wp2_with fail
        go_meet
        exact ⟨rfl, rfl⟩
      · have q7' : W5.cell? ⟨l.g, 7, none⟩ = some (.pointer (some ⟨f.n.g, 0, none⟩)) := q7
        have q5' := q5 f c rfl
        simp only at hnb
        clear q7 q5
        by_cases hw : f.n.way = 0
        · rw [hw] at q5'
          have : nb = false := by rw [hnb]; simp [hw]
          subst this
          replace hnb := Lib.hid hnb; replace hw := Lib.hid hw
          go_wp2_with fail
          go_meet
          exact ⟨rfl, rfl⟩
        · have : nb = true := by rw [hnb]; simp [hw]
          subst this
          have hwb : (f.n.way == 0) = false := by simp [hw]
          have hwb2 : (f.n.way != 0) = true := by simp [hw]
          replace hnb := Lib.hid hnb
          go_wp2_with fail
          go_meet
          exact ⟨by first | rfl | simp [hw], rfl⟩
    case rest =>
      obtain ⟨rfl, hwx⟩ := hcut
      replace hwx := hwx.symm
      subst hwx
      replace q5 := Lib.hid q5
      go_upto_if 101 with fail
      go_cut [13, 16, 17] (fun v13 v16 v17 wx => ∃ (f : Fr) (c0 : List Fr) (l1 : T), v13 = .pointer (some ⟨l1.g, 0, none⟩) ∧ Hid (MidS base tr w c l 0 gn (nodeC other 0 0 sz l.n.b 0 (.slice none 0 0) (.pointer none)) wx f c0 l1))
      case first =>
        rcases c with _ | ⟨f, c⟩
        · simp only at hnb
          subst hnb
          have q7' : W5.cell? ⟨l.g, 7, none⟩ = some (.pointer none) := q7
          clear q7
          go_upto_region 16 with fail
          go_still_tail 9, (by kernel_rfl)
          change wpList _ _ _ _ _ W5.drew
          go_upto_region 17 with fail
          obtain ⟨W6, hW6⟩ : ∃ W6, W6 = (W5.alloc (.cells #[.int .i64 l.n.p, .int .i64 0, .int .i64 0, .int .i64 z, .int .i64 l.n.b, .int .i64 0, .slice none 0 0, .pointer none] 58)).drew := ⟨_, rfl⟩
          have g6 : W5.grownBy W6 none := by rw [hW6]; exact (World.grownBy_alloc W5 _ none).trans (g_drew (World.grownBy.refl _ none))
          have hi6 : W6.heap[W5.heap.size]? = some (.cells (nodeC l.n.p 0 0 z l.n.b 0 (.slice none 0 0) (.pointer none)) 58 (0, 0)) := by rw [hW6]; exact heap_alloc_new W5 _
          rw [← hW6]
          obtain ⟨gi, hgi⟩ : ∃ gi, gi = W5.heap.size := ⟨_, rfl⟩
          rw [← hgi] at hi6 ⊢
          have hi6lt := lt_of_heap hi6
          clear hW6
          have hgile : W5.heap.size ≤ gi := by omega
          replace hgi := Lib.hid hgi
          have g7 := World.grownBy_alloc W6 (.cells #[ptr gi] 55) none
          have CS := Lib.hid (split1_any 0 z l.n.b W6.heap.size gi l.n.p 0 0 z l.n.b 0 (.slice none 0 0) (.pointer none) (W6.alloc (.cells #[ptr gi] 55)) (heap_alloc_new W6 _) ((g7.block gi hi6lt (by simp)).trans hi6) (by omega))
          replace q7' := g6.cell q7' (by simp); replace qz := g6.cell qz (by simp); replace qb := g6.cell qb (by simp)
          have hT7 := (hT5.out.grown g6).grown g7
          have hn7 := (g7.block gn (by have := g6.size; omega) (by simp)).trans ((g6.block gn hs5 (by simp)).trans hn5.out)
          have q77 := g7.cell q7' (by simp)
          have hA7 : (W6.alloc (.cells #[ptr gi] 55)).heap[W6.heap.size]? = some (.cells #[ptr gi] 55 (0, 0)) := heap_alloc_new W6 _
          have g57 := (G5.out.trans g6).trans g7
          have hs67 : W6.heap.size < (W6.alloc (.cells #[ptr gi] 55)).heap.size := by simp
          have hs56 := g6.size
          replace g6 := Lib.hid g6; replace g7 := Lib.hid g7; replace hT7 := Lib.hid hT7; replace hn7 := Lib.hid hn7; replace hA7 := Lib.hid hA7; replace g57 := Lib.hid g57; replace q77 := Lib.hid q77; replace hi6 := Lib.hid hi6
          unfold ptr at CS
          go_wp2_with fail
          refine CS.out.mono ?_
          rintro e w8 ⟨s, hs1, rfl, hs2, hi8, o8⟩
          change (W6.alloc (.cells #[ptr gi] 55)).heap.size ≤ s at hs1
          change Off [gi] (W6.alloc (.cells #[ptr gi] 55)) w8 at o8
          have hlt7 := hT7.out.lt
          have hlg : l.g < W6.heap.size := Nat.lt_of_lt_of_le (hT5.out.p.lt _ _ l.g l.g_mem) hs56
          have hlgi : l.g ≠ gi := by have := hT5.out.p.lt _ _ l.g l.g_mem; omega
          have htgi : tr ≠ gi := by have := hT5.out.lt; omega
          have h8n := (o8.block gn (by omega) (by simp; omega)).trans hn7.out
          have h8t := (o8.block tr hlt7 (by simpa using htgi)).trans hT7.out.h
          have h8A := (o8.block W6.heap.size hs67 (by simp; omega)).trans hA7.out
          have h8l : w8.cell? ⟨l.g, 7, none⟩ = some (.pointer none) := by
            rw [World.cell?_of_block (o8.block l.g (by omega) (by simpa using hlgi))]; exact q77.out
          have h8s7 : w8.cell? ⟨s, 7, none⟩ = some (.pointer none) := by rw [cell_of_heap hs2]; rfl
          have h8sf := free_of_heap hs2 7
          have h8t0 : w8.cell? ⟨tr, 0, none⟩ = some (ptr l.g) := by rw [cell_of_heap h8t]; rfl
          have h8tf := free_of_heap h8t 0
          have hsl : l.g ≠ s := by omega
          have hstr : s ≠ tr := by omega
          have CPt := put_root tr l.g s _ _ w8 h8l hsl h8s7 h8sf h8t0 h8tf hstr
          have hsgi : s ≠ gi := by omega
          have hsA : s ≠ W6.heap.size := by omega
          have hAgi : W6.heap.size ≠ gi := by omega
          have hsgn : s ≠ gn := by omega
          have hgngi : gn ≠ gi := by omega
          -- the world behind put, and behind the store
          have hw9 : ∀ w9, w9 = (w8.setCell ⟨s, 7, none⟩ (.pointer none)).setCell ⟨tr, 0, none⟩ (ptr s) → w9.heap[gi]? = some (.cells (nodeC l.n.p 0 0 z l.n.b 0 (.slice none 0 0) (ptr s)) 58 (0, 0)) ∧
              MidS base tr w [] l 0 gn (nodeC other 0 0 sz l.n.b 0 (.slice none 0 0) (.pointer none)) (w9.setCell ⟨gi, 7, none⟩ (ptr s)) ⟨⟨s, some W6.heap.size, 1, 0, 0, 0, z, l.n.b, 0⟩, [], []⟩ [] (.mk ⟨gi, none, 0, l.n.p, 0, 0, z, l.n.b, 0⟩ []) := by
            rintro w9 rfl
            have ra : ∀ (a : Addr) (v : Value) (W : World) (k : Nat), k ≠ a.block → (W.setCell a v).heap[k]? = W.heap[k]? := fun a v W k hk => Below.heap_setCell _ _ _ _ hk
            have e1 : ((w8.setCell ⟨s, 7, none⟩ (.pointer none)).setCell ⟨tr, 0, none⟩ (ptr s)).heap[gi]? = some (.cells (nodeC l.n.p 0 0 z l.n.b 0 (.slice none 0 0) (ptr s)) 58 (0, 0)) := by
              rw [ra _ _ _ _ (fun e => htgi e.symm), ra _ _ _ _ (fun e => hsgi e.symm)]; exact hi8
            refine ⟨e1, ?_⟩
            have e2 : (((w8.setCell ⟨s, 7, none⟩ (.pointer none)).setCell ⟨tr, 0, none⟩ (ptr s)).setCell ⟨gi, 7, none⟩ (ptr s)).heap[gi]? = some (.cells (nodeC l.n.p 0 0 z l.n.b 0 (.slice none 0 0) (ptr s)) 58 (0, 0)) := by
              rw [heap_set e1]; rfl
            have e3 : (((w8.setCell ⟨s, 7, none⟩ (.pointer none)).setCell ⟨tr, 0, none⟩ (ptr s)).setCell ⟨gi, 7, none⟩ (ptr s)).heap[s]? = some (.cells (nodeC 0 0 0 z l.n.b 0 (.slice (some ⟨W6.heap.size, 0, none⟩) 1 1) (.pointer none)) 58 (0, 0)) := by
              rw [ra _ _ _ _ hsgi, ra _ _ _ _ hstr, heap_set hs2]; rfl
            have e4 : (((w8.setCell ⟨s, 7, none⟩ (.pointer none)).setCell ⟨tr, 0, none⟩ (ptr s)).setCell ⟨gi, 7, none⟩ (ptr s)).heap[tr]? = some (.cells #[ptr s] 60 (0, 0)) := by
              have h1 : (w8.setCell ⟨s, 7, none⟩ (.pointer none)).heap[tr]? = some (.cells #[ptr (plug [] l).g] 60 (0, 0)) := by rw [ra _ _ _ _ (fun e => hstr e.symm)]; exact h8t
              rw [ra _ _ _ _ htgi, heap_set h1]; rfl
            have hAtr : W6.heap.size ≠ tr := by have := hT5.out.lt; omega
            have e5 : (((w8.setCell ⟨s, 7, none⟩ (.pointer none)).setCell ⟨tr, 0, none⟩ (ptr s)).setCell ⟨gi, 7, none⟩ (ptr s)).heap[W6.heap.size]? = some (.cells #[ptr gi] 55 (0, 0)) := by
              rw [ra _ _ _ _ hAgi, ra _ _ _ _ hAtr, ra _ _ _ _ (fun e => hsA e.symm)]; exact h8A
            have e6 : (((w8.setCell ⟨s, 7, none⟩ (.pointer none)).setCell ⟨tr, 0, none⟩ (ptr s)).setCell ⟨gi, 7, none⟩ (ptr s)).heap[gn]? = some (.cells (nodeC other 0 0 sz l.n.b 0 (.slice none 0 0) (.pointer none)) 58 (0, 0)) := by
              rw [ra _ _ _ _ hgngi, ra _ _ _ _ (fun e => hgntr e.symm), ra _ _ _ _ (fun e => hsgn e.symm)]; exact h8n
            have hsw : w.heap.size ≤ W5.heap.size := G5.out.size
            have hTr := wrap_root (w := w) hT.out hbase0 e3 e2 e5 e4 (by omega) (by omega) (by omega) hsA hsgi hAgi
            have hO : Off (tr :: (plug [] l).bl) w (((w8.setCell ⟨s, 7, none⟩ (.pointer none)).setCell ⟨tr, 0, none⟩ (ptr s)).setCell ⟨gi, 7, none⟩ (ptr s)) := by
              have o1 : Off (tr :: (plug [] l).bl) w w8 := (Off.of_grown g57.out).trans o8 (by simp; omega)
              have o2 := o1.trans (Off.set w8 ⟨s, 7, none⟩ (.pointer none)) (by simp; omega)
              have o3 := o2.trans (Off.set _ ⟨tr, 0, none⟩ (ptr s)) (by simp)
              exact o3.trans (Off.set _ ⟨gi, 7, none⟩ (ptr s)) (by simp; omega)
            refine ⟨hTr, rfl, rfl, rfl, hz.out, rfl, .inr rfl, e6, by omega, ?_, hO, hO.size, .inr ⟨fun g d e => (by cases e), rfl, rfl, rfl, hz.out, rfl, rfl⟩⟩
            show gn ∉ (wrapT s W6.heap.size gi l.n.p z l.n.b 0).bl
            rw [wrapT_bl]; simp; omega
          replace CPt := Lib.hid CPt; replace hw9 := Lib.hid hw9; replace h8n := Lib.hid h8n; replace h8t := Lib.hid h8t; replace h8A := Lib.hid h8A; replace hs2 := Lib.hid hs2; replace hi8 := Lib.hid hi8; replace o8 := Lib.hid o8
          clear CS h8l h8s7 h8sf h8t0 h8tf qz qb q0 q7'
          unfold ptr at CPt
          go_wp2_with fail
          refine CPt.out.mono ?_
          rintro e w9 ⟨rfl, hw9e⟩
          obtain ⟨hi9, hM⟩ := hw9.out w9 hw9e
          have c97 : w9.cell? ⟨gi, 7, none⟩ = some (.pointer (some ⟨s, 0, none⟩)) := by rw [cell_of_heap hi9]; rfl
          have f97 := free_of_heap hi9 7
          have CU := Lib.hid (leafUp_any (.pointer (some ⟨tr, 0, none⟩)) gi _ w9 c97)
          replace hM := Lib.hid hM; replace hw9e := Lib.hid hw9e; replace hi9 := Lib.hid hi9
          unfold ptr at CU
          clear CPt
          go_wp2_with fail
          refine CU.out.mono ?_
          rintro e w10 ⟨rfl, rfl⟩
          go_wp2_with fail
          go_meet
          exact ⟨_, _, _, rfl, hM⟩
        · by_cases hw : f.n.way = 0
          · have : nb = false := by rw [hnb]; simp [hw]
            subst this
            replace hnb := Lib.hid hnb
            go_wp2_with fail
            go_meet
            exact ⟨f, c, l, rfl, Lib.hid ⟨hT5.out, hw, hlk.out, rfl, rfl, rfl, .inl rfl, hn5.out, hwc, fun h => hgnb.out gn h rfl, Off.of_grown G5.out, G5.out.size, .inl ⟨rfl, rfl⟩⟩⟩
          · have : nb = true := by rw [hnb]; simp [hw]
            subst this
            clear hnb
            have q7' : W5.cell? ⟨l.g, 7, none⟩ = some (.pointer (some ⟨f.n.g, 0, none⟩)) := q7
            clear q7
            have hlgT : l.g ∈ (plug (f :: c) l).bl := (perm_plug (f :: c) l).mem_iff.2 (by simp [l.g_mem])
            replace hlgT := Lib.hid hlgT
            go_upto_region 16 with fail
            go_still_tail 9, (by kernel_rfl)
            change wpList _ _ _ _ _ W5.drew
            go_upto_region 17 with fail
            obtain ⟨W6, hW6⟩ : ∃ W6, W6 = (W5.alloc (.cells #[.int .i64 l.n.p, .int .i64 0, .int .i64 0, .int .i64 z, .int .i64 l.n.b, .int .i64 0, .slice none 0 0, .pointer none] 58)).drew := ⟨_, rfl⟩
            have g6 : W5.grownBy W6 none := by rw [hW6]; exact (World.grownBy_alloc W5 _ none).trans (g_drew (World.grownBy.refl _ none))
            have hi6 : W6.heap[W5.heap.size]? = some (.cells (nodeC l.n.p 0 0 z l.n.b 0 (.slice none 0 0) (.pointer none)) 58 (0, 0)) := by rw [hW6]; exact heap_alloc_new W5 _
            rw [← hW6]
            obtain ⟨gi, hgi⟩ : ∃ gi, gi = W5.heap.size := ⟨_, rfl⟩
            rw [← hgi] at hi6 ⊢
            have hi6lt := lt_of_heap hi6
            clear hW6
            have hgile : W5.heap.size ≤ gi := by omega
            replace hgi := Lib.hid hgi
            have g7 := World.grownBy_alloc W6 (.cells #[ptr gi] 55) none
            have CS := Lib.hid (split1_any 0 z l.n.b W6.heap.size gi l.n.p 0 0 z l.n.b 0 (.slice none 0 0) (.pointer none) (W6.alloc (.cells #[ptr gi] 55)) (heap_alloc_new W6 _) ((g7.block gi hi6lt (by simp)).trans hi6) (by omega))
            replace q7' := g6.cell q7' (by simp); replace qz := g6.cell qz (by simp); replace qb := g6.cell qb (by simp)
            have hT7 := (hT5.out.grown g6).grown g7
            have hn7 := (g7.block gn (by have := g6.size; omega) (by simp)).trans ((g6.block gn hs5 (by simp)).trans hn5.out)
            have q77 := g7.cell q7' (by simp)
            have hA7 : (W6.alloc (.cells #[ptr gi] 55)).heap[W6.heap.size]? = some (.cells #[ptr gi] 55 (0, 0)) := heap_alloc_new W6 _
            have g57 := (G5.out.trans g6).trans g7
            have hs67 : W6.heap.size < (W6.alloc (.cells #[ptr gi] 55)).heap.size := by simp
            have hs56 := g6.size
            replace g6 := Lib.hid g6; replace g7 := Lib.hid g7; replace hT7 := Lib.hid hT7; replace hn7 := Lib.hid hn7; replace hA7 := Lib.hid hA7; replace g57 := Lib.hid g57; replace q77 := Lib.hid q77; replace hi6 := Lib.hid hi6
            unfold ptr at CS
            go_wp2_with fail
            refine CS.out.mono ?_
            rintro e w8 ⟨s, hs1, rfl, hs2, hi8, o8⟩
            change (W6.alloc (.cells #[ptr gi] 55)).heap.size ≤ s at hs1
            change Off [gi] (W6.alloc (.cells #[ptr gi] 55)) w8 at o8
            have hlt7 := hT7.out.lt
            have hlg : l.g < W6.heap.size := Nat.lt_of_lt_of_le (hT5.out.p.lt _ _ l.g hlgT.out) hs56
            have hlgi : l.g ≠ gi := by have := hT5.out.p.lt _ _ l.g hlgT.out; omega
            have htgi : tr ≠ gi := by have := hT5.out.lt; omega
            have h8n := (o8.block gn (by omega) (by simp; omega)).trans hn7.out
            have h8t := (o8.block tr hlt7 (by simpa using htgi)).trans hT7.out.h
            have h8A := (o8.block W6.heap.size hs67 (by simp; omega)).trans hA7.out
            have h8l : w8.cell? ⟨l.g, 7, none⟩ = some (ptr f.n.g) := by
              rw [World.cell?_of_block (o8.block l.g (by omega) (by simpa using hlgi))]; exact q77.out
            have h8s7 : w8.cell? ⟨s, 7, none⟩ = some (.pointer none) := by rw [cell_of_heap hs2]; rfl
            have h8sf := free_of_heap hs2 7
            have hsl : l.g ≠ s := by omega
            have hstr : s ≠ tr := by omega
            have hT8 : Tr base w8 tr (plug (f :: c) l) := hT7.out.off o8 (by simpa using htgi) (fun b hb => by have := hT5.out.p.lt _ _ b hb; simp; omega)
            have hpp := (TP_plug (f :: c) l).1 hT8.p
            have At8 := hpp.1.1
            obtain ⟨bb, hbb, _⟩ := At8.kid (i := f.L.length) (k := l) (by simp)
            have hperm := perm_plug c (.mk f.n (f.L ++ l :: f.R))
            have hnd := (List.nodup_append.1 (hperm.nodup_iff.1 hT8.nd)).2.1
            have hblm : (T.mk f.n (f.L ++ l :: f.R)).bl = f.n.g :: (bb :: blL (f.L ++ l :: f.R)) := by rw [T.bl_mk, hbb]; rfl
            rw [hblm] at hnd
            obtain ⟨m1, m2⟩ := List.nodup_cons.1 hnd
            obtain ⟨m3, m4⟩ := List.nodup_cons.1 m2
            have hall : ∀ x ∈ f.n.g :: (bb :: blL (f.L ++ l :: f.R)), x ∈ (plug (f :: c) l).bl := fun x hx => hperm.mem_iff.2 (by rw [hblm]; exact List.mem_append_right _ hx)
            have hall5 : ∀ x ∈ f.n.g :: (bb :: blL (f.L ++ l :: f.R)), x < W5.heap.size := fun x hx => hT5.out.p.lt _ _ x (hall x hx)
            have hkb : ∀ k ∈ f.L ++ l :: f.R, k.g ∈ blL (f.L ++ l :: f.R) := fun k hk => mem_blL.2 ⟨k, hk, k.g_mem⟩
            have hfg5 := hall5 f.n.g (by simp)
            have hbb5 := hall5 bb (by simp)
            have hlm := hkb l (by simp)
            have hTk : ∀ k ∈ f.L ++ l :: f.R, IsC w8 k.g := fun k hk => by
              have hq : TPs w8 (some f.n.g) (f.L ++ l :: f.R) := TPs_app.2 ⟨hpp.1.2.1, by rw [TPs]; exact ⟨hpp.2, hpp.1.2.2.1⟩⟩
              exact (TPs_iff.1 hq k hk).isC
            have hbl1 : bb ≠ l.g := fun e => m3 (by rw [e]; exact hlm)
            have hbfg : bb ≠ f.n.g := fun e => m1 (by rw [← e]; simp)
            have CPt := put_in tr s bb (upOf c) (.pointer none) f.n f.L f.R l w8 At8 hbb h8l h8s7 h8sf hTk ⟨_, _, hs2⟩ (g_sep m4) (by omega) (by omega) (by omega) hbfg hbl1 (fun k hk => by have := hall5 k.g (by simp [hkb k hk]); omega)
            have hsgi : s ≠ gi := by omega
            have hsA : s ≠ W6.heap.size := by omega
            have hAgi : W6.heap.size ≠ gi := by omega
            have hsgn : s ≠ gn := by omega
            have hgngi : gn ≠ gi := by omega
            have hbgi : bb ≠ gi := by omega
            have hbs : bb ≠ s := by omega
            have hbA : bb ≠ W6.heap.size := by omega
            have hbgn : bb ≠ gn := hgnb.out bb (hall bb (by simp))
            have hsw : w.heap.size ≤ W5.heap.size := G5.out.size
            have hw9 : ∀ w9, w9 = ((w8.setCell ⟨s, 7, none⟩ (ptr f.n.g)).setCell ⟨bb, f.L.length, none⟩ (ptr s)).drew → w9.heap[gi]? = some (.cells (nodeC l.n.p 0 0 z l.n.b 0 (.slice none 0 0) (ptr s)) 58 (0, 0)) ∧
                MidS base tr w (f :: c) l 0 gn (nodeC other 0 0 sz l.n.b 0 (.slice none 0 0) (.pointer none)) (w9.setCell ⟨gi, 7, none⟩ (ptr s)) ⟨⟨s, some W6.heap.size, 1, 0, 0, 0, z, l.n.b, 0⟩, [], []⟩ (f :: c) (.mk ⟨gi, none, 0, l.n.p, 0, 0, z, l.n.b, 0⟩ []) := by
              rintro w9 rfl
              have ra : ∀ (a : Addr) (v : Value) (W : World) (k : Nat), k ≠ a.block → (W.setCell a v).heap[k]? = W.heap[k]? := fun a v W k hk => Below.heap_setCell _ _ _ _ hk
              have rd : ∀ (W : World) (k : Nat), W.drew.heap[k]? = W.heap[k]? := fun _ _ => rfl
              have e1 : (((w8.setCell ⟨s, 7, none⟩ (ptr f.n.g)).setCell ⟨bb, f.L.length, none⟩ (ptr s)).drew).heap[gi]? = some (.cells (nodeC l.n.p 0 0 z l.n.b 0 (.slice none 0 0) (ptr s)) 58 (0, 0)) := by
                rw [rd, ra _ _ _ _ (fun e => hbgi e.symm), ra _ _ _ _ (fun e => hsgi e.symm)]; exact hi8
              refine ⟨e1, ?_⟩
              have e2 : ((((w8.setCell ⟨s, 7, none⟩ (ptr f.n.g)).setCell ⟨bb, f.L.length, none⟩ (ptr s)).drew).setCell ⟨gi, 7, none⟩ (ptr s)).heap[gi]? = some (.cells (nodeC l.n.p 0 0 z l.n.b 0 (.slice none 0 0) (ptr s)) 58 (0, 0)) := by
                rw [heap_set e1]; rfl
              have e3 : ((((w8.setCell ⟨s, 7, none⟩ (ptr f.n.g)).setCell ⟨bb, f.L.length, none⟩ (ptr s)).drew).setCell ⟨gi, 7, none⟩ (ptr s)).heap[s]? = some (.cells (nodeC 0 0 0 z l.n.b 0 (.slice (some ⟨W6.heap.size, 0, none⟩) 1 1) (ptr f.n.g)) 58 (0, 0)) := by
                rw [ra _ _ _ _ hsgi, rd, ra _ _ _ _ (fun e => hbs e.symm), heap_set hs2]; rfl
              have e5 : ((((w8.setCell ⟨s, 7, none⟩ (ptr f.n.g)).setCell ⟨bb, f.L.length, none⟩ (ptr s)).drew).setCell ⟨gi, 7, none⟩ (ptr s)).heap[W6.heap.size]? = some (.cells #[ptr gi] 55 (0, 0)) := by
                rw [ra _ _ _ _ hAgi, rd, ra _ _ _ _ (fun e => hbA e.symm), ra _ _ _ _ (fun e => hsA e.symm)]; exact h8A
              have e6 : ((((w8.setCell ⟨s, 7, none⟩ (ptr f.n.g)).setCell ⟨bb, f.L.length, none⟩ (ptr s)).drew).setCell ⟨gi, 7, none⟩ (ptr s)).heap[gn]? = some (.cells (nodeC other 0 0 sz l.n.b 0 (.slice none 0 0) (.pointer none)) 58 (0, 0)) := by
                rw [ra _ _ _ _ hgngi, rd, ra _ _ _ _ (fun e => hbgn e.symm), ra _ _ _ _ (fun e => hsgn e.symm)]; exact h8n
              have hcore : ∀ x ∈ f.n.g :: f.n.A.toList, x = f.n.g ∨ x = bb := fun x hx => by rw [hbb] at hx; simpa using hx
              have At9 : At (w8.setCell ⟨s, 7, none⟩ (ptr f.n.g)) (upOf c) f.n (f.L ++ l :: f.R) := At8.same fun x hx => ra _ _ _ _ (by
                rcases hcore x hx with rfl | rfl
                · show f.n.g ≠ s; omega
                · exact hbs)
              have At10 := At9.slot (t' := wrapT s W6.heap.size gi l.n.p z l.n.b 0) (x := s) hbb hbfg rfl
              have AtX : At ((((w8.setCell ⟨s, 7, none⟩ (ptr f.n.g)).setCell ⟨bb, f.L.length, none⟩ (ptr s)).drew).setCell ⟨gi, 7, none⟩ (ptr s)) (upOf c) f.n (f.L ++ wrapT s W6.heap.size gi l.n.p z l.n.b 0 :: f.R) := At10.same fun x hx => by
                rw [ra _ _ _ _ (by
                  rcases hcore x hx with rfl | rfl
                  · show f.n.g ≠ gi; omega
                  · exact hbgi), rd]
              have hO : Off [bb] w ((((w8.setCell ⟨s, 7, none⟩ (ptr f.n.g)).setCell ⟨bb, f.L.length, none⟩ (ptr s)).drew).setCell ⟨gi, 7, none⟩ (ptr s)) := by
                have o1 : Off [bb] w w8 := (Off.of_grown g57.out).trans o8 (by simp; omega)
                have o2 := o1.trans (Off.set w8 ⟨s, 7, none⟩ (ptr f.n.g)) (by simp; omega)
                have o3 := o2.trans (Off.set _ ⟨bb, f.L.length, none⟩ (ptr s)) (by simp)
                have o4 := o3.trans (Off.drew (S := []) _) (by simp)
                exact o4.trans (Off.set _ ⟨gi, 7, none⟩ (ptr s)) (by simp; omega)
              have hTr := wrap_in (w := w) hT.out hbase0 hbb e3 e2 e5 AtX hO (by omega) (by omega) (by omega) hsA hsgi hAgi
              refine ⟨hTr, rfl, rfl, rfl, hz.out, rfl, .inr rfl, e6, by omega, ?_, hO.sub (by simp [hall bb (by simp)]), hO.size, .inr ⟨fun g d e => (by cases e; exact hw), rfl, rfl, rfl, hz.out, rfl, rfl⟩⟩
              show gn ∉ (plug (f :: c) (wrapT s W6.heap.size gi l.n.p z l.n.b 0)).bl
              intro hm
              rcases List.mem_append.1 ((perm_plug (f :: c) _).mem_iff.1 hm) with h1 | h1
              · exact hgnb.out gn ((perm_plug (f :: c) l).mem_iff.2 (by simp [h1])) rfl
              · rw [wrapT_bl] at h1; simp at h1; omega
            replace CPt := Lib.hid CPt; replace hw9 := Lib.hid hw9; replace h8n := Lib.hid h8n; replace h8t := Lib.hid h8t; replace hT8 := Lib.hid hT8; replace hpp := Lib.hid hpp; replace At8 := Lib.hid At8; replace hTk := Lib.hid hTk; replace hall := Lib.hid hall; replace hall5 := Lib.hid hall5; replace hkb := Lib.hid hkb; replace hnd := Lib.hid hnd; replace m1 := Lib.hid m1; replace m2 := Lib.hid m2; replace m3 := Lib.hid m3; replace m4 := Lib.hid m4; replace hperm := Lib.hid hperm; replace hblm := Lib.hid hblm; replace hbb := Lib.hid hbb; replace h8A := Lib.hid h8A; replace hs2 := Lib.hid hs2; replace hi8 := Lib.hid hi8; replace o8 := Lib.hid o8
            clear CS h8l h8s7 h8sf qz qb q0 q7'
            unfold ptr at CPt
            go_wp2_with fail
            refine CPt.out.mono ?_
            rintro e w9 ⟨rfl, hw9e⟩
            obtain ⟨hi9, hM⟩ := hw9.out w9 hw9e
            have c97 : w9.cell? ⟨gi, 7, none⟩ = some (.pointer (some ⟨s, 0, none⟩)) := by rw [cell_of_heap hi9]; rfl
            have f97 := free_of_heap hi9 7
            have CU := Lib.hid (leafUp_any (.pointer (some ⟨tr, 0, none⟩)) gi _ w9 c97)
            replace hM := Lib.hid hM; replace hw9e := Lib.hid hw9e; replace hi9 := Lib.hid hi9
            unfold ptr at CU
            clear CPt
            go_wp2_with fail
            refine CU.out.mono ?_
            rintro e w10 ⟨rfl, rfl⟩
            go_wp2_with fail
            go_meet
            exact ⟨_, _, _, rfl, hM⟩
      case rest =>
        obtain ⟨f, c0, l1, rfl, hM⟩ := hcut
        obtain ⟨wx, rfl⟩ : ∃ wx, wx = wc := ⟨_, rfl⟩
        have hpp := (TP_plug (f :: c0) l1).1 hM.out.t.p
        have hfA := hpp.1.1
        have hlA1 : At wx (some f.n.g) l1.n [] := by
          have h1 := hpp.2
          have h2 := hM.out.lk
          cases l1 with | mk n ks => cases h2; exact h1.at_
        have r3 := hlA1.c3
        have r7 := hlA1.c7
        have rf := hlA1.free 3
        rw [hM.out.la, ← hz.out] at r3
        have hg1 : l1.n.g = l1.g := rfl
        rw [hg1] at r3 r7 rf
        have hz4 : IntKind.i64.wrap (sz + 1) = sz + 1 := by rw [IntKind.wrap_i64]; omega
        have hz5 : IntKind.i64.wrap (z - (sz + 1)) = z - (sz + 1) := by rw [IntKind.wrap_i64]; omega
        have hlnn := hln
        clear qz qb q0 q7 q5 hnb g5 hn5 hT5 G5 hgt hgnb hlA hpt hln hof hf hg1
        obtain ⟨bb, hbb, _⟩ := hfA.kid (i := f.L.length) (k := l1) (by simp)
        have htr : Tr base wx tr (plug c0 (.mk f.n (f.L ++ l1 :: f.R))) := hM.out.t
        obtain ⟨nd, hin, hout⟩ := htr.apart
        have hblm : (T.mk f.n (f.L ++ l1 :: f.R)).bl = f.n.g :: (bb :: blL (f.L ++ l1 :: f.R)) := by rw [T.bl_mk, hbb]; rfl
        rw [hblm] at nd hin
        obtain ⟨m1, m2⟩ := List.nodup_cons.1 nd
        obtain ⟨m3, m4⟩ := List.nodup_cons.1 m2
        have hkb : ∀ k ∈ f.L ++ l1 :: f.R, k.g ∈ blL (f.L ++ l1 :: f.R) := fun k hk => mem_blL.2 ⟨k, hk, k.g_mem⟩
        have hlm := hkb l1 (by simp)
        have hlf : l1.g ≠ f.n.g := fun e => m1 (by rw [← e]; simp [hlm])
        have hlb : l1.g ≠ bb := fun e => m3 (by rw [← e]; exact hlm)
        have hbf : bb ≠ f.n.g := fun e => m1 (by rw [← e]; simp)
        have hgnin : ∀ x ∈ f.n.g :: (bb :: blL (f.L ++ l1 :: f.R)), x ≠ gn := fun x hx e => hM.out.nt (by
          show gn ∈ (plug c0 (.mk f.n (f.L ++ l1 :: f.R))).bl
          refine (perm_plug c0 _).mem_iff.2 (List.mem_append_right _ ?_)
          rw [hblm, ← e]; exact hx)
        have hgl := lt_of_heap hM.out.nb
        have hTk : ∀ k ∈ f.L ++ l1 :: f.R, IsC wx k.g := fun k hk => by
          have hq : TPs wx (some f.n.g) (f.L ++ l1 :: f.R) := TPs_app.2 ⟨hpp.1.2.1, by rw [TPs]; exact ⟨hpp.2, hpp.1.2.2.1⟩⟩
          exact (TPs_iff.1 hq k hk).isC
        replace hlA1 := Lib.hid hlA1; replace hfA := Lib.hid hfA; replace hpp := Lib.hid hpp; replace htr := Lib.hid htr; replace nd := Lib.hid nd; replace hin := Lib.hid hin; replace hout := Lib.hid hout; replace m1 := Lib.hid m1; replace m2 := Lib.hid m2; replace m3 := Lib.hid m3; replace m4 := Lib.hid m4; replace hkb := Lib.hid hkb; replace hlm := Lib.hid hlm; replace hgnin := Lib.hid hgnin; replace hTk := Lib.hid hTk; replace hblm := Lib.hid hblm; replace hbb := Lib.hid hbb
        replace r7 : wx.cell? ⟨l1.g, 7, none⟩ = some (.pointer (some ⟨f.n.g, 0, none⟩)) := r7
        go_upto_region 20 with fail
        go_still_tail 12, (by kernel_rfl)
        change wpList _ _ _ _ _ wx.drew
        go_upto_region 21 with fail
        obtain ⟨W6, hW6⟩ : ∃ W6, W6 = (wx.setCell ⟨l1.g, 3, none⟩ (.int .i64 (z - (sz + 1)))).drew := ⟨_, rfl⟩
        rw [← hW6]
        have o6 : Off [l1.g] wx W6 := by rw [hW6]; exact (Off.set wx ⟨l1.g, 3, none⟩ _).trans (Off.drew (S := []) _) (by simp)
        have l6 : At W6 (some f.n.g) { l1.n with a := z - (sz + 1) } [] := by
          refine hlA1.out.upd rfl rfl rfl rfl o6 ?_ ?_
          · rw [hW6]
            have := heap_set (j := 3) hlA1.out.h (.int .i64 (z - (sz + 1)))
            exact this
          · intro e
            have h1 := nd.out
            rw [List.nodup_cons, List.nodup_cons, blL_app, blL_cons] at h1
            have h2 := (List.nodup_append.1 (List.nodup_append.1 h1.2.2).2.1).1
            have h3 := hM.out.lk
            cases l1 with | mk n ks => cases h3; have e' : n.A = some n.g := e; rw [T.bl_mk, e'] at h2; simp at h2
        have f6 : At W6 (upOf c0) f.n (f.L ++ l1 :: f.R) := hfA.out.same fun x hx => o6.block x (hfA.out.lt x hx) (by
          rw [hbb.out] at hx; simp at hx ⊢; rcases hx with rfl | rfl
          · exact fun e => hlf e.symm
          · exact fun e => hlb e.symm)
        have n6 := (o6.block gn hgl (by simp; exact fun e => hgnin.out l1.g (by simp [hlm.out]) e.symm)).trans hM.out.nb
        have hCW : ∀ s ∈ f.L ++ l1 :: f.R, IsC W6 s.g := fun s hs => by
          by_cases e : s.g = l1.g
          · rw [e]; exact ⟨_, _, l6.h⟩
          · obtain ⟨cc, tt, h⟩ := hTk.out s hs
            exact ⟨cc, tt, (o6.block _ (lt_of_heap h) (by simpa using e)).trans h⟩
        have hrow : f.n.row (f.L ++ l1 :: f.R).length = .slice (some ⟨bb, 0, none⟩) (f.L ++ l1 :: f.R).length f.n.c := by unfold Nd.row adr; rw [hbb.out]; rfl
        have hO := f6.r
        rw [hrow] at hO
        have hR := own_Rd hO
        have hsm := f6.small
        have CI := index_any (some ⟨bb, 0, none⟩) (f.L ++ l1 :: f.R).length f.n.c l1.g f.L.length (f.L ++ l1 :: f.R) l1 W6 rfl hsm hR (by simp) rfl (by simpa using g_sep m4.out) hCW
        have c66 := f6.c6
        have hAr : adr f.n.A = some ⟨bb, 0, none⟩ := by rw [hbb.out]; rfl
        rw [hAr] at c66
        obtain ⟨len2, hln2⟩ : ∃ len2, len2 = (f.L ++ l1 :: f.R).length := ⟨_, rfl⟩
        have hlen2 : f.L.length < len2 := by rw [hln2]; simp
        rw [← hln2] at c66 hO CI hsm
        have l67 : W6.cell? ⟨l1.g, 7, none⟩ = some (.pointer (some ⟨f.n.g, 0, none⟩)) := l6.c7
        have n6f := free_of_heap n6 7
        have n67 : W6.cell? ⟨gn, 7, none⟩ = some (.pointer none) := by rw [cell_of_heap n6]; rfl
        clear hW6 hR r3 r7 rf
        replace CI := Lib.hid CI; replace o6 := Lib.hid o6; replace l6 := Lib.hid l6; replace f6 := Lib.hid f6; replace n6 := Lib.hid n6; replace hCW := Lib.hid hCW; replace hO := Lib.hid hO; replace hln2 := Lib.hid hln2; replace hrow := Lib.hid hrow; replace hAr := Lib.hid hAr
        unfold ptr at CI
        go_wp2_with fail
        refine CI.out.mono ?_
        rintro e w7 ⟨rfl, rfl⟩
        clear CI
        obtain ⟨i2, hi2⟩ : ∃ i2 : Nat, i2 = (if before = true then f.L.length else f.L.length + 1) := ⟨_, rfl⟩
        have hi2l : i2 ≤ len2 := by rw [hi2]; split <;> omega
        have hL1 : IntKind.i64.wrap ((f.L.length : Int) + 1) = (f.L.length : Int) + 1 := by rw [IntKind.wrap_i64]; omega
        go_upto_if 153 with fail
        go_cut [18] (fun sv wx => sv = .int .i64 (i2 : Int) ∧ wx = w7)
        case first =>
          cases before
          · rw [if_neg (by simp)] at hi2
            replace hi2 := Lib.hid hi2
            go_wp2_with fail
            go_meet
            exact ⟨by rw [hi2.out]; simp, rfl⟩
          · rw [if_pos rfl] at hi2
            replace hi2 := Lib.hid hi2
            go_wp2_with fail
            go_meet
            exact ⟨by rw [hi2.out], rfl⟩
        case rest =>
          obtain ⟨rfl, hwx⟩ := hcut
          replace hwx := hwx.symm
          subst hwx
          replace hi2 := Lib.hid hi2
          go_upto_region 25 with fail
          have hl1b : ∀ x ∈ l1.n.g :: l1.n.A.toList, x ∈ blL (f.L ++ l1 :: f.R) := fun x hx => by
            refine mem_blL.2 ⟨l1, by simp, ?_⟩
            have h3 := hM.out.lk
            cases l1 with | mk n ks => cases h3; rw [T.bl_mk, blL_nil, List.append_nil]; exact hx
          obtain ⟨W8, hW8⟩ : ∃ W8, W8 = w7.setCell ⟨gn, 7, none⟩ (.pointer (some ⟨f.n.g, 0, none⟩)) := ⟨_, rfl⟩
          rw [← hW8]
          have o8 : Off [gn] w7 W8 := by rw [hW8]; exact Off.set w7 ⟨gn, 7, none⟩ _
          have n8 : W8.heap[gn]? = some (.cells (nodeC other 0 0 sz l.n.b 0 (.slice none 0 0) (ptr f.n.g)) 58 (0, 0)) := by
            rw [hW8, heap_set n6.out]; rfl
          have f8 : At W8 (upOf c0) f.n (f.L ++ l1 :: f.R) := f6.out.same fun x hx => o8.block x (f6.out.lt x hx) (by
            rw [hbb.out] at hx; simp at hx ⊢; rcases hx with rfl | rfl
            · exact hgnin.out _ (by simp)
            · exact hgnin.out _ (by simp))
          have l8 : At W8 (some f.n.g) { l1.n with a := z - (sz + 1) } [] := l6.out.same fun x hx => o8.block x (l6.out.lt x hx) (by
            simp only [List.mem_singleton]; rintro rfl
            exact hgnin.out _ (List.mem_cons_of_mem _ (List.mem_cons_of_mem _ (hl1b _ hx))) rfl)
          have o68 : Off [l1.g, gn] wx W8 := (o6.out.sub (S' := [l1.g, gn]) (by simp)).trans o8 (by simp)
          have hbsz : bb < W8.heap.size := (f8.lt bb (by simp [hbb.out]))
          have hfsz : f.n.g < W8.heap.size := f8.lt _ (by simp)
          have hlsz : l1.g < W8.heap.size := l8.lt l1.n.g (by simp)
          have hgsz : gn < W8.heap.size := lt_of_heap n8
          have hwxs : wx.heap.size ≤ W8.heap.size := o68.size
          have hgx : w.heap.size ≤ wx.heap.size := hM.out.hw
          have l87 : W8.cell? ⟨l1.g, 7, none⟩ = some (.pointer (some ⟨f.n.g, 0, none⟩)) := l8.c7
          have f86 : W8.cell? ⟨f.n.g, 6, none⟩ = some (.slice (some ⟨bb, 0, none⟩) len2 f.n.c) := (World.cell?_of_block (o8.block _ (f6.out.lt _ (by simp)) (by simp; exact hgnin.out _ (by simp)))).trans c66
          have f8f := f8.free 6
          have hO8 := f8.r
          rw [hrow.out, ← hln2.out] at hO8
          have hlen3 : len2 ≤ 100000 := by
            have hkl : ∀ ks : List T, ks.length ≤ (leavesL ks).length := by
              intro ks
              induction ks with
              | nil => simp
              | cons k ks ih => rw [leavesL_cons, List.length_append, List.length_cons]; have := List.length_pos_iff.2 (leaves_ne k); omega
            rcases hM.out.from_ with ⟨hc, hl1⟩ | ⟨_, _, h1, h2, _⟩
            · obtain ⟨A, B, hAB⟩ := leaves_ctx c0
              have h1 := hAB (.mk f.n (f.L ++ l1 :: f.R))
              have h2 : (plug c l).leaves = A ++ (T.mk f.n (f.L ++ l1 :: f.R)).leaves ++ B := by rw [hc, ← hl1]; exact h1
              have h3 := hkl (f.L ++ l1 :: f.R)
              have h4 := congrArg List.length h2
              rw [T.leaves_mk, if_neg (by simp)] at h4
              simp only [List.length_append, List.nil_append] at h4
              rw [← hln2.out] at h3
              rw [← hlnn.out] at h4
              omega
            · rw [hln2.out, h1, h2]; simp
          obtain ⟨INS, hINS⟩ : ∃ INS : World → Option Addr → Nat → World → Prop, INS = fun W9 A' c' w' => (∃ A2, A' = adr A2 ∧ w'.ownsRow 0 55 1 (.slice (adr A2) (len2 + 1) c') (len2 + 1) (ptrs ((f.L ++ l1 :: f.R).take i2) ++ ptr gn :: ptrs ((f.L ++ l1 :: f.R).drop i2)) ∧ Off [bb] W9 w' ∧ (A2 = some bb ∨ ∃ b, A2 = some b ∧ W9.heap.size ≤ b)) := ⟨_, rfl⟩
          have CIns : ∀ W9, W9 = W8.drew.alloc (.cells #[ptr gn] 55) → Calls Tryd.prog 35 #[.slice (some ⟨bb, 0, none⟩) len2 f.n.c, .int .i64 i2, .slice (some ⟨W8.heap.size, 0, none⟩) 1 1] W9 (fun e w' => ∃ A' c', e = .returned (.slice A' (len2 + 1) c') ∧ Hid (INS W9 A' c' w')) := by
            intro W9 hW9
            have g9 : W8.grownBy W9 none := by rw [hW9]; exact (g_drew (World.grownBy.refl W8 none)).trans (World.grownBy_alloc W8.drew _ none)
            have v9 : W9.heap[W8.heap.size]? = some (.cells #[ptr gn] 55 (0, 0)) := by rw [hW9]; exact heap_alloc_new W8.drew _
            have hO9 : W9.ownsRow 0 55 1 (.slice (some ⟨bb, 0, none⟩) len2 f.n.c) len2 (ptrs (f.L ++ l1 :: f.R)) := own_keep hO8 g9
            refine (insert_any 0 bb len2 f.n.c i2 W8.heap.size gn (f.L ++ l1 :: f.R) W9 hln2.out hlen3 hi2l (by omega) hO9 v9 (by omega)).mono ?_
            rintro e w' ⟨A', c', rfl, h1, h2, h3⟩
            rw [← hln2.out] at h1 ⊢
            refine ⟨_, _, rfl, Lib.hid ?_⟩
            rw [hINS]
            exact ⟨A', rfl, h1, h2, h3⟩
          have hINS2 : ∀ W9, W9 = W8.drew.alloc (.cells #[ptr gn] 55) → ∀ A' c' w10, Hid (INS W9 A' c' w10) → ∃ A2, A' = adr A2 ∧ w10.ownsRow 0 55 1 (.slice (adr A2) (len2 + 1) c') (len2 + 1) (ptrs ((f.L ++ l1 :: f.R).take i2) ++ ptr gn :: ptrs ((f.L ++ l1 :: f.R).drop i2)) ∧ Off [bb] W8 w10 ∧ (A2 = some bb ∨ ∃ b, A2 = some b ∧ W8.heap.size ≤ b) := by
            intro W9 hW9 A' c' w10 h
            have h := h.out
            rw [hINS] at h
            obtain ⟨A2, h1, h2, h3, h4⟩ := h
            have g9 : W8.grownBy W9 none := by rw [hW9]; exact (g_drew (World.grownBy.refl W8 none)).trans (World.grownBy_alloc W8.drew _ none)
            have s9 := g9.size
            refine ⟨A2, h1, h2, (Off.of_grown (S := [bb]) g9).trans h3 (by simp), ?_⟩
            rcases h4 with h4 | ⟨b, h4, h5⟩
            · exact .inl h4
            · exact .inr ⟨b, h4, by omega⟩
          have hkp : ∀ w10, Off [bb] W8 w10 → w10.cell? ⟨l1.g, 7, none⟩ = some (.pointer (some ⟨f.n.g, 0, none⟩)) ∧ w10.cell? ⟨f.n.g, 6, none⟩ = some (.slice (some ⟨bb, 0, none⟩) len2 f.n.c) ∧ w10.frozen? ⟨f.n.g, 6, none⟩ = false := fun w10 h => by
            refine ⟨?_, ?_, ?_⟩
            · rw [World.cell?_of_block (h.block _ (by show l1.g < _; omega) (by simp; exact hlb))]; exact l87
            · rw [World.cell?_of_block (h.block _ (by show f.n.g < _; omega) (by simp; exact fun e => hbf e.symm))]; exact f86
            · rw [World.frozen?_of_block (h.block _ (by show f.n.g < _; omega) (by simp; exact fun e => hbf e.symm))]; exact f8f
          have hfne : f.n.g ≠ W8.heap.size := by omega
          have hlne : l1.g ≠ W8.heap.size := by omega
          have CI1 := CIns (W8.alloc (.cells #[ptr gn] 55)).drew rfl
          have hI1 := hINS2 (W8.alloc (.cells #[ptr gn] 55)).drew rfl
          clear hO8 hW8 c66 l67 n67 n6f hINS2 CIns hINS hi2l hlen3 hL1 hbsz hfne hlne hgsz hlen2
          replace hkp := Lib.hid hkp; replace CI1 := Lib.hid CI1; replace hI1 := Lib.hid hI1; replace n8 := Lib.hid n8; replace f8 := Lib.hid f8; replace l8 := Lib.hid l8; replace o68 := Lib.hid o68; replace o8 := Lib.hid o8; replace hl1b := Lib.hid hl1b
          unfold ptr at CI1 hI1
          go_cut [] (fun wy => Hid (∃ A2 c2 w10, wy = w10.setCell ⟨f.n.g, 6, none⟩ (.slice (adr A2) (len2 + 1) c2) ∧ w10.ownsRow 0 55 1 (.slice (adr A2) (len2 + 1) c2) (len2 + 1) (ptrs ((f.L ++ l1 :: f.R).take i2) ++ ptr gn :: ptrs ((f.L ++ l1 :: f.R).drop i2)) ∧ Off [bb] W8 w10 ∧ (A2 = some bb ∨ ∃ b, A2 = some b ∧ W8.heap.size ≤ b)))
          case first =>
            clear hwc hgntr hs5
            have hka : ((W8.alloc (.cells #[.pointer (some ⟨gn, 0, none⟩)] 55)).drew).cell? ⟨l1.g, 7, none⟩ = some (.pointer (some ⟨f.n.g, 0, none⟩)) := (World.cell?_alloc_past _ _ _ hlsz).trans l87
            have hkb : ((W8.alloc (.cells #[.pointer (some ⟨gn, 0, none⟩)] 55)).drew).cell? ⟨f.n.g, 6, none⟩ = some (.slice (some ⟨bb, 0, none⟩) len2 f.n.c) := (World.cell?_alloc_past _ _ _ hfsz).trans f86
            replace hka := Lib.hid hka; replace hkb := Lib.hid hkb
            refine wp_region_row (S := fun w' => w'.cell? ⟨l1.g, 7, none⟩ = some (.pointer (some ⟨f.n.g, 0, none⟩)) ∧ w'.cell? ⟨f.n.g, 6, none⟩ = some (.slice (some ⟨bb, 0, none⟩) len2 f.n.c)) 13 15 (by kernel_rfl) (by kernel_rfl) (fun _ _ d _ _ h => by cases d <;> exact h) ⟨l87, f86⟩ ?_
            simp only [List.take_succ_cons, List.take_zero, List.drop_succ_cons, List.drop_zero]
            repeat
              (apply wpHeld_cons (by rfl)
               · intro w hSw
                 go_simp
                 try with_reducible rfl
               simp only [Act.put, List.setIfInBounds_toArray, List.set_cons_zero, List.set_cons_succ])
            refine wpHeld_nil ?_
            refine wpRow_succ (k := 1) (fun K hK => ?_)
            go_simp
            refine hK.out _ _ ⟨hka.out, hkb.out⟩ ?_
            clear hK K
            try simp only [Act.put, List.setIfInBounds_toArray, List.set_cons_zero, List.set_cons_succ]
            refine wpRow_succ (k := 0) (fun K hK => ?_)
            go_simp
            go_at_call 35
            refine CI1.out.mono ?_
            rintro e w10 ⟨A', c2, rfl, hIP⟩
            replace hIP := Lib.hid (hI1.out _ _ _ hIP)
            obtain ⟨l107, f106, f10f⟩ := hkp.out w10 (by obtain ⟨_, _, _, h, _⟩ := hIP.out; exact h)
            refine hK.out _ _ ⟨l107, f106⟩ ?_
            clear hK K
            try simp only [Act.put, List.setIfInBounds_toArray, List.set_cons_zero, List.set_cons_succ]
            refine wpRow_zero ?_
            go_wp2_with fail
            go_meet
            obtain ⟨A2, hAA, O10, o10, hA2⟩ := hIP.out
            subst hAA
            exact Lib.hid ⟨A2, c2, w10, rfl, O10, o10, hA2⟩
          case rest =>
            obtain ⟨A2, c2, w10, rfl, O10, o10, hA2⟩ := hcut.out
            clear CI1 hI1 hkp l87 f86 f8f
            have hfb := hbf
            obtain ⟨a2, rfl, ha2⟩ : ∃ a2, A2 = some a2 ∧ (a2 = bb ∨ W8.heap.size ≤ a2) := by
              rcases hA2 with rfl | ⟨b, rfl, h⟩
              · exact ⟨_, rfl, .inl rfl⟩
              · exact ⟨_, rfl, .inr h⟩
            have ha2f : a2 ≠ f.n.g := by rcases ha2 with rfl | h; exact hbf; omega
            obtain ⟨nl, hnl⟩ : ∃ nl : Nd, nl = { l1.n with a := z - (sz + 1) } := ⟨_, rfl⟩
            obtain ⟨nn, hnn⟩ : ∃ nn : Nd, nn = ⟨gn, none, 0, other, 0, 0, sz, l.n.b, 0⟩ := ⟨_, rfl⟩
            obtain ⟨X, hX⟩ : ∃ X : List T, X = (if before = true then [.mk nn [], .mk nl []] else [.mk nl [], .mk nn []]) := ⟨_, rfl⟩
            obtain ⟨f', hf'⟩ : ∃ f' : Nd, f' = { f.n with A := some a2, c := c2 } := ⟨_, rfl⟩
            have hng : nn.g = gn := by rw [hnn]
            have hlg : nl.g = l1.n.g := by rw [hnl]
            have hXl : X.length = 2 := by rw [hX]; split <;> rfl
            have hkl : (f.L ++ X ++ f.R).length = len2 + 1 := by rw [hln2.out]; simp [hXl]; omega
            have hptr : ptrs ((f.L ++ l1 :: f.R).take i2) ++ ptr gn :: ptrs ((f.L ++ l1 :: f.R).drop i2) = ptrs (f.L ++ X ++ f.R) := by
              have hi := hi2.out
              have e1 : (T.mk nn []).g = gn := hng
              have e2 : (T.mk nl []).g = l1.g := hlg
              cases before
              · rw [if_neg (by simp)] at hi hX
                rw [hi, hX, List.take_append, List.drop_append]
                simp [ptrs, e1, e2, List.take_of_length_le, List.drop_of_length_le]
              · rw [if_pos rfl] at hi hX
                rw [hi, hX, List.take_append, List.drop_append]
                simp [ptrs, e1, e2]
            obtain ⟨w11, hw11⟩ : ∃ w11, w11 = w10.setCell ⟨f.n.g, 6, none⟩ (.slice (adr (some a2)) (len2 + 1) c2) := ⟨_, rfl⟩
            have o11 : Off [f.n.g] w10 w11 := by rw [hw11]; exact Off.set w10 ⟨f.n.g, 6, none⟩ _
            have hin1 : ∀ x ∈ l1.n.g :: l1.n.A.toList, x ≠ bb ∧ x ≠ f.n.g ∧ x < W8.heap.size := fun x hx => by
              have hx2 := hl1b.out x hx
              refine ⟨fun e => m3.out (by rw [← e]; exact hx2), fun e => m1.out (by rw [← e]; simp [hx2]), ?_⟩
              have := (hin.out x (List.mem_cons_of_mem _ (List.mem_cons_of_mem _ hx2))).2.2.2
              omega
            have ff : At w11 (upOf c0) f' (f.L ++ X ++ f.R) := by
              have h10 : w10.heap[f.n.g]? = W8.heap[f.n.g]? := o10.block _ hfsz (by simp; exact fun e => hbf e.symm)
              refine ⟨?_, ?_⟩
              · have h1 := heap_set (j := 6) (h10.trans f8.out.h) (.slice (adr (some a2)) (len2 + 1) c2)
                rw [hw11, hf', hkl]
                exact h1
              · rw [hkl, ← hptr, hf']
                exact own_same O10 fun b hb => by
                  have : b = a2 := by injection hb with hb; exact hb.symm
                  subst this
                  exact o11.block _ (by rcases ha2 with rfl | h; · have := o10.size; exact Nat.lt_of_lt_of_le (f8.out.lt b (by simp [hbb.out])) this
                                        · rcases O10.2 with ⟨h1, _⟩ | ⟨g', cap, cur, h1, _, h2, _⟩
                                          · cases h1
                                          · injection h1 with h1; injection h1 with h1; injection h1 with h1; subst h1; exact lt_of_heap h2) (by simp; exact ha2f)
            have ll : At w11 (some f.n.g) nl [] := by
              rw [hnl]
              refine l8.out.same fun x hx => ?_
              obtain ⟨h1, h2, h3⟩ := hin1 x hx
              exact (o11.block _ (by have := o10.size; omega) (by simpa using h2)).trans (o10.block _ h3 (by simpa using h1))
            have hgnb2 : gn ≠ bb := fun e => hgnin.out bb (by simp) e.symm
            have hgnf2 : gn ≠ f.n.g := fun e => hgnin.out f.n.g (by simp) e.symm
            have hgnW : gn < W8.heap.size := lt_of_heap n8.out
            have nnA : At w11 (some f.n.g) nn [] := by
              rw [hnn]
              exact ⟨((o11.block _ (by have := o10.size; omega) (by simpa using hgnf2)).trans (o10.block _ hgnW (by simpa using hgnb2))).trans n8.out, World.ownsRow_nil _ _ _ _⟩
            have oall : Off [bb, f.n.g, l1.n.g, gn] wx w11 := by
              have h1 := o68.out.sub (S' := [bb, f.n.g, l1.n.g, gn]) (by intro b hb; simp only [List.mem_cons, List.not_mem_nil, or_false] at hb; rcases hb with rfl | rfl; exact .inl (by simp [T.g]); exact .inl (by simp))
              exact (h1.trans o10 (by simp)).trans o11 (by simp)
            have hbx : base ≤ wx.heap.size := by omega
            have hTF : Tr base w11 tr (plug c0 (.mk f' (f.L ++ X ++ f.R))) := by
              rw [hf']
              refine split_end (bb := bb) (gn := gn) (nl := nl) (nn := nn) hM.out.t hM.out.lk hbb.out hM.out.nt hgntr.symm (by have := hM.out.gl; omega) (lt_of_heap hM.out.nb) hbx ?_ ?_ ?_ ?_ oall (hf' ▸ ff) ll nnA
              · rw [hnl]; exact ⟨rfl, rfl⟩
              · rw [hnn]; exact ⟨rfl, rfl⟩
              · rw [hX]; cases before <;> simp
              · rcases ha2 with rfl | h
                · exact .inl rfl
                · exact .inr ⟨_, rfl, by omega⟩
            have hw : (plug c0 (.mk f' (f.L ++ X ++ f.R))).w01 := by
              have hl01 : nl.way = l1.n.way := by rw [hnl]
              have hn01 : nn.way = 0 := by rw [hnn]
              have hf01 : f'.way = f.n.way := by rw [hf']
              have hXw : ∀ m ∈ ndsL X, m = nl ∨ m = nn := by
                intro m hm; rw [hX] at hm
                cases before <;> simpa [ndsL_cons, ndsL_nil, T.nds_mk, or_comm] using hm
              have hlw := hM.out.lw
              obtain ⟨Q, hQ⟩ := nds_ctx c0
              intro m hm
              rw [hQ, T.nds_mk, ndsL_app, ndsL_app] at hm
              rcases hM.out.from_ with ⟨hc, hl1⟩ | ⟨_, hc, h1, h2, _⟩
              · have h3 : (plug c0 (.mk f.n (f.L ++ l :: f.R))).w01 := by have := hw01.out; rw [hc] at this; exact this
                have h4 : ∀ m, m ∈ Q ∨ m = f.n ∨ m ∈ ndsL f.L ∨ m ∈ l.nds ∨ m ∈ ndsL f.R → m.way = 0 ∨ m.way = 1 := fun m hm => h3 m (by
                  rw [hQ, T.nds_mk, ndsL_app, ndsL_cons]; simpa [List.mem_append, List.mem_cons] using hm)
                simp only [List.mem_append, List.mem_cons] at hm
                have h5 := h4 l.n (.inr (.inr (.inr (.inl (by cases l; rw [T.nds_mk]; simp [T.n])))))
                rcases hm with hm | rfl | (hm | hm) | hm
                · exact h4 m (.inl hm)
                · rw [hf01]; exact h4 _ (.inr (.inl rfl))
                · exact h4 m (.inr (.inr (.inl hm)))
                · rcases hXw m hm with rfl | rfl
                  · rw [hl01, hl1]; exact h5
                  · rw [hn01]; exact .inl rfl
                · exact h4 m (.inr (.inr (.inr (.inr hm))))
              · have h3 : (plug c0 l).w01 := by rw [hc]; exact hw01.out
                rw [h1, h2] at hm
                simp only [ndsL_nil, List.nil_append, List.append_nil, List.mem_cons] at hm
                rcases hm with hm | rfl | hm
                · exact h3 m ((hQ _ _).2 (.inl hm))
                · rw [hf01, hM.out.fw]; decide
                · rcases hXw m hm with rfl | rfl
                  · rw [hl01]
                    rcases hlw with h | h
                    · rw [h]; exact h3 _ ((hQ _ _).2 (.inr (by cases l; rw [T.nds_mk]; simp [T.n])))
                    · exact .inl h
                  · rw [hn01]; exact .inl rfl
            have hsub : ∀ b ∈ [bb, f.n.g, l1.n.g, gn], base ≤ b := by
              intro b hb
              simp only [List.mem_cons, List.not_mem_nil, or_false] at hb
              rcases hb with rfl | rfl | rfl | rfl
              · exact (hin.out b (by simp)).2.2.1
              · exact (hin.out f.n.g (by simp)).2.2.1
              · exact (hin.out l1.n.g (List.mem_cons_of_mem _ (List.mem_cons_of_mem _ (hl1b.out _ (by simp))))).2.2.1
              · have := hM.out.gl; omega
            have bel : Below base w w11 := by
              have b1 : Below base w wx := hM.out.o.below (by
                intro b hb
                rcases List.mem_cons.1 hb with rfl | hb
                · exact hT.out.lo.1
                · exact hT.out.lo.2 b hb) hbase0
              exact b1.trans (oall.below hsub hbx)
            have CPl := Lib.hid (place_any (plug c0 (.mk f' (f.L ++ X ++ f.R))) none 0 0 w11 hTF.p hTF.nd hw)
            have hq0 := hTF.c0
            have hfin : f'.p = f.n.p ∧ f'.a = f.n.a ∧ f'.b = f.n.b ∧ f'.way = f.n.way := by rw [hf']; exact ⟨rfl, rfl, rfl, rfl⟩
            have hfl : nl.p = l.n.p ∧ nl.a = z - (sz + 1) ∧ nl.b = l.n.b ∧ (nl.way = l.n.way ∨ nl.way = 0) := by rw [hnl]; exact ⟨hM.out.lp, rfl, hM.out.lb, hM.out.lw⟩
            have hfn : nn.p = other ∧ nn.a = sz ∧ nn.b = l.n.b ∧ nn.way = 0 := by rw [hnn]; exact ⟨rfl, rfl, rfl, rfl⟩
            have hfr : c = f :: c0 ∨ ((∀ g d, c = g :: d → g.n.way ≠ 0) ∧ c0 = c ∧ f.L = [] ∧ f.R = [] ∧ f.n.a = l.n.a ∧ f.n.b = l.n.b ∧ f.n.p = 0) := by
              rcases hM.out.from_ with ⟨h, _⟩ | h
              · exact .inl h
              · exact .inr h
            have hfw := hM.out.fw
            rw [← hw11]
            rw [hX] at hTF CPl hq0
            obtain ⟨TF, hTF0⟩ : ∃ TF, TF = plug c0 (.mk f' (f.L ++ (if before = true then [.mk nn [], .mk nl []] else [.mk nl [], .mk nn []]) ++ f.R)) := ⟨_, rfl⟩
            rw [← hTF0] at hTF CPl hq0
            replace hfin := Lib.hid hfin; replace hfl := Lib.hid hfl; replace hfn := Lib.hid hfn; replace hfr := Lib.hid hfr; replace bel := Lib.hid bel; replace hTF := Lib.hid hTF; replace hTF0 := Lib.hid hTF0; replace hfw := Lib.hid hfw
            clear hw11 o11 oall ff ll nnA hin1 hsub hw hkl hXl hX hf' hnl hnn hptr O10 o10 hcut ha2 hA2 hng hlg
            unfold ptr at CPl hq0
            go_wp2_with fail
            refine CPl.out.mono ?_
            rintro e w12 ⟨rfl, hT12, o12⟩
            go_wp2_with fail
            go_ret
            refine ⟨f, c0, f', nl, nn, rfl, ?_, ?_, hfin.out, hfw.out, hfl.out, hfn.out, hfr.out⟩
            · rw [← hTF0.out]
              exact hTF.out.placed hT12 o12
            · exact bel.out.trans (o12.below hTF.out.lo.2 (by have := bel.out.size; omega))
end Go.Proofs.YtcklmkjlbpjojaaDoor
