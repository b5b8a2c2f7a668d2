/- Format: loop: a text for each scope of a loop. -/
import Derived.Test.YtfhdfhlabkeipaaGreatDoorL2
import Derived.Test.YtfhdfhlabkeipaaGreatDoorQ1
import Derived.Test.YtfhdfhlabkeipaaGreatDoorX1
namespace Go.Proofs.YtfhdfhlabkeipaaGreatDoor
open Go.RowKit
set_option linter.unusedSimpArgs false
set_option linter.unusedVariables false

theorem info28 : (Tryz.prog.info? 28).map (fun i => (i.zero, i.size, i.bytes)) = some (some (.agg #[.slice none 0 0, .slice none 0 0]), 2, 48) := by kernel_rfl
theorem info95 : (Tryz.prog.info? 95).map (fun i => i.zero) = some (some (.agg #[.pointer none, .slice none 0 0])) := by kernel_rfl
section
variable {ops : Array Oper} {rest : List Oper} {o : Oper} {a : Act} {Q : Exit → Act → World → Prop} {w : World}
/-- append of one scope, at a step of a region that draws its order. -/
theorem ap51s {K : Act → World → Prop} {E : Prop} (hgd : o.guard = none) (s x : Operand) (ho : o.op = .call { callee := .builtin .append, args := #[s, x], argTypes := #[51, 51] })
    (base : Nat) (v : Value) (n : Nat) (xs : List Value) (hs : a.eval s = v) (hown : w.ownsRow base 28 2 v n xs) (g : Nat) (v1 v2 : Value) (hx : a.eval x = .slice (some ⟨g, 0, none⟩) 1 1) (hg : w.heap[g]? = some (.cells #[v1, v2] 28 (0, 0)))
    (h1 : v1.oneCell' = true) (h2 : v2.oneCell' = true) (hb : n ≤ 1000000) (hbase : base ≤ w.heap.size)
    (h : ∀ A' c' w', w'.ownsRow base 28 2 (.slice A' (n + 1) c') (n + 1) (xs ++ [v1, v2]) → w.grownBy w' v.ownBlock → (ablk A' = v.ownBlock ∨ ablk A' = some w.heap.size) → K (a.put o.dst (.slice A' (n + 1) c')) w') : if Region.wanted o (yielded ops a.tmps) = true then Oper.wp Tryz.prog o a w K Q else E := by
  have hw : Region.wanted o (yielded ops a.tmps) = true := by simp [Region.wanted, hgd]
  rw [if_pos hw]
  obtain ⟨i0, hi0, hz0, hz1, hz2⟩ := info_parts info28
  exact wp_append_rd w s x 51 ho base 28 i0 _ 2 48 Tryz.underlying51 hi0 hz0 hz1 hz2 rfl (by omega) v n xs hs hown (some ⟨g, 0, none⟩) 1 1 [v1, v2] hx rfl (rd_block hg) (by intro q hq; simp at hq; rcases hq with rfl | rfl; exact h1; exact h2) (by unfold maxLen; omega) (by omega) hbase fun A' c' w' h1 h2 h3 => h A' c' w' h1 h2 h3
end
theorem froz_row {w w' : World} {o : Obj} {v : Value} {p : Addr} {ab n c : Nat} (q : (w.drew.alloc o).grownBy w' (Value.slice (some ⟨ab, 0, none⟩) n c).ownBlock) (h : w.cell? p = some v) (hf : w.frozen? p = false) (hne : p.block ≠ ab) : w'.frozen? p = false := by
  have hl : p.block < w.heap.size := World.block_lt_of_cell? w p h
  rw [q.frozen_far p (Nat.lt_of_lt_of_le hl (g_alloc (g_drew (World.grownBy.refl w none)) o).size) (by simpa [Value.ownBlock] using hne), (g_alloc (g_drew (World.grownBy.refl w none)) o).frozen_far p hl (by simp)]
  exact hf
theorem cell_al {w : World} {o : Obj} {v : Value} {p : Addr} (h : w.cell? p = some v) : (w.alloc o).drew.cell? p = some v := (g_drew (g_alloc (World.grownBy.refl w none) o)).cell h (by simp)
theorem froz_al {w : World} {o : Obj} {v : Value} {p : Addr} (h : w.cell? p = some v) (hf : w.frozen? p = false) : (w.alloc o).drew.frozen? p = false := by
  rw [(g_drew (g_alloc (World.grownBy.refl w none) o)).frozen_far p (World.block_lt_of_cell? w p h) (by simp)]
  exact hf
def pickL (ps : List B) (b : Bool) : B := if b then ps.tail.headD [] else ps.headD []
def pickB (ps : List B) (s : List (B × B)) : Bool := decide (ps.length = 2) && trueL ((inL s activeN).getD [])
theorem pick_len {ps : List B} {m : Nat} (h : ps.length = 1 ∨ ps.length = 2) (q : Bool) (hm : ∀ x ∈ ps, x.length ≤ m) : (pickL ps q).length ≤ m := by
  rcases ps with _ | ⟨p0, _ | ⟨p1, _ | ⟨p2, r⟩⟩⟩
  · simp at h
  · cases q
    · exact hm _ (by simp [pickL])
    · show ([] : B).length ≤ m; simp
  · cases q
    · exact hm _ (by simp [pickL])
    · exact hm _ (by simp [pickL])
  · simp at h
theorem loopF_at {tx : Tx} {scs : List (Option Sc)} {ps : List B} (hps : ps.length = 1 ∨ ps.length = 2) {l : List (List (B × B))} {j : Nat} {s : List (B × B)} (h : l[j]? = some s) (acc : B) (n : Nat) :
    loopF tx scs (ps.headD []) ps.tail.head? (l.drop j) acc n = if n + 1 ≤ 10000 then (tx (some ⟨s, []⟩ :: scs) (pickL ps (pickB ps s)) (n + 1)).bind (fun v n' => if (acc ++ v).length ≤ 8192 then loopF tx scs (ps.headD []) ps.tail.head? (l.drop (j + 1)) (acc ++ v) n' else .bad 2) else .bad 3 := by
  obtain ⟨h1, h2⟩ := List.getElem?_eq_some_iff.1 h
  rw [List.drop_eq_getElem_cons h1, h2]
  rcases ps with _ | ⟨p0, _ | ⟨p1, _ | ⟨p2, r⟩⟩⟩
  · simp at hps
  · simp only [loopF, pickL, pickB]
    simp
  · simp only [loopF, pickL, pickB]
    simp
  · simp at hps
theorem cell_row {w w' : World} {o : Obj} {v : Value} {p : Addr} {ab n c : Nat} (q : (w.drew.alloc o).grownBy w' (Value.slice (some ⟨ab, 0, none⟩) n c).ownBlock) (h : w.cell? p = some v) (hne : p.block ≠ ab) : w'.cell? p = some v :=
  q.cell ((g_alloc (g_drew (World.grownBy.refl w none)) o).cell h (by simp)) (by simp [Value.ownBlock]; exact hne)

set_option maxRecDepth 100000 in
set_option maxHeartbeats 8000000 in
theorem loop_ok (base mb deep L : Nat) (scs : List (Option Sc)) (tx : Tx) (hT : TxOk base mb deep (L + 1) tx) (hTl : TxLen tx) (hL : L ≤ 99) (hl : scs.length ≤ L) : LoopOk base mb deep scs tx := by
  intro k rest n0 ab0 cap0 w hrest hM hB hno
  obtain ⟨R, hR⟩ : ∃ R, R = loopL tx scs k rest n0 := ⟨_, rfl⟩
  rw [← hR] at hno ⊢
  unfold loopL at hR
  dsimp only at hR
  have CP := pieces_any rest 1 w (by omega) (by omega)
  obtain ⟨ps, hps⟩ : ∃ ps, ps = piecesF 1 rest := ⟨_, rfl⟩
  have hmem := piecesF_mem 1 rest
  have hpl : ps.length = 1 ∨ ps.length = 2 := by
    rw [hps]
    unfold piecesF
    cases outL 44 rest 0 0 with
    | none => exact .inl rfl
    | some k => exact .inr rfl
  rw [← hps] at CP hmem hR
  cases ho : overL scs k with
  | none => rw [ho] at hR; exact absurd hR hno
  | some l =>
    rw [ho] at hR
    dsimp only at hR
    have CO := fun (W : World) (g : w.grownBy W none) => over_any base mb ab0 cap0 deep n0 scs k W (hM.grown hB g) (Nat.le_trans hB g.size) (by omega) l ho
    unfold OverP at CO
    have CM1 := Lib.hid must_ok
    have CM0 := Lib.hid must_bad
    unfold Pan at CM0
    obtain ⟨S, hS⟩ : ∃ S, S = st rest := ⟨_, rfl⟩
    rw [← hS] at CP ⊢
    obtain ⟨pl, hpl2⟩ : ∃ pl, pl = ps.length := ⟨_, rfl⟩
    have hpl0 : 0 < pl := by omega
    rw [← hpl2] at CP
    have hmb := hM.lt
    obtain ⟨kk, hkk⟩ : ∃ kk : Int, kk = (k.toNat : Int) := ⟨_, rfl⟩
    rw [← hkk] at CO ⊢
    replace CP : Hid (Calls Tryz.prog 66 #[.string S, .int .i64 2] w fun e w' => ∃ A c, e = .returned (.slice A pl c) ∧ w'.ownsRow w.heap.size 9 1 (.slice A pl c) pl (ss ps) ∧ w.grownBy w' none) := Lib.hid CP
    replace CO := Lib.hid CO; replace hR := Lib.hid hR; replace hno := Lib.hid hno; replace hT := Lib.hid hT; replace hTl := Lib.hid hTl; replace hM := Lib.hid hM; replace hB := Lib.hid hB; replace hps := Lib.hid hps; replace hmem := Lib.hid hmem; replace hpl2 := Lib.hid hpl2; replace hS := Lib.hid hS; replace hl := Lib.hid hl; replace ho := Lib.hid ho; replace hpl := Lib.hid hpl; replace hkk := Lib.hid hkk; replace hmb := Lib.hid hmb
    go_enter Tryz.func58, Tryz.ntmps58
    go_wp2_with fail
    refine CP.out.mono ?_
    rintro e w1 ⟨A, c, rfl, hO, hG⟩
    obtain ⟨pg, rfl⟩ := own_some hO hpl0
    have CO1 := Lib.hid (CO.out _ (hG.trans (World.grownBy_alloc w1 (.cells #[.pointer none, .slice none 0 0] 95) none)))
    obtain ⟨bb, hbb⟩ : ∃ bb, bb = w1.heap.size := ⟨_, rfl⟩
    obtain ⟨W2, hW2⟩ : ∃ W2, W2 = w1.alloc (.cells #[.pointer none, .slice none 0 0] 95) := ⟨_, rfl⟩
    have hbh : W2.heap[bb]? = some (.cells #[.pointer none, .slice none 0 0] 95 (0, 0)) := by rw [hW2, hbb]; exact heap_alloc_new _ _
    have hg12 : w1.grownBy W2 none := by rw [hW2]; exact World.grownBy_alloc _ _ none
    rw [← hW2] at CO1
    replace hO := Lib.hid hO; replace hG := Lib.hid hG; replace hW2 := Lib.hid hW2; replace hbb := Lib.hid hbb; replace hbh := Lib.hid hbh; replace hg12 := Lib.hid hg12
    go_wp2_with fail
    rw [← hW2.out, ← hbb.out]
    refine CO1.out.mono ?_
    rintro e w3 ⟨la, nl, lc, rfl, hnl, hn63, hI3, hG3⟩
    have hGG := (hG.out.trans hg12.out).trans hG3
    have hst0 : LS base mb ab0 deep bb (.slice (some ⟨pg, 0, none⟩) pl c) ps la l w w3 scs ab0 cap0 n0 (.slice none 0 0) [] := by
      refine ⟨Kp.refl.grow0 hGG, hM.out.grown hB.out hGG, .inl rfl, ?_, ?_, hI3⟩
      · refine ⟨.pointer none, .inl rfl, by rw [hbb.out]; exact hG.out.size, (hG3.block bb (Array.getElem?_eq_some_iff.1 hbh.out).1 (by simp)).trans hbh.out, World.ownsRow_nil _ _ _ _, by simp [Value.ownBlock]⟩
      · rw [← hpl2.out]
        exact own_keep hO.out (hg12.out.trans hG3)
    replace hst0 := Lib.hid hst0; replace hGG := Lib.hid hGG; replace hG3 := Lib.hid hG3; replace hI3 := Lib.hid hI3; replace hnl := Lib.hid hnl; replace hbh := Lib.hid hbh
    go_wp2_with fail
    go_loopw [19] (fun jv wr => ∃ j : Nat, jv = .int .i64 j ∧ j ≤ nl ∧ Hid (∃ ab cap n v acc, LS base mb ab0 deep bb (.slice (some ⟨pg, 0, none⟩) pl c) ps la l w wr scs ab cap n v acc ∧ acc.length ≤ 8192 ∧ R = loopF tx scs (ps.headD []) ps.tail.head? (l.drop j) acc n)) (fun jv _ => nl - (intOf jv).toNat)
    case atStart => exact ⟨0, rfl, Nat.zero_le _, Lib.hid ⟨ab0, cap0, n0, _, [], hst0.out, by simp, by rw [hR.out, List.drop_zero]⟩⟩
    case round =>
      obtain ⟨j, rfl, hj, hI⟩ := hrel
      obtain ⟨ab, cap, n, v, acc, hLS, hacc, hRR⟩ := hI.out
      clear hI
      by_cases hlt : j < nl
      · obtain ⟨s, hs⟩ : ∃ s, l[j]? = some s := ⟨l[j]'(by rw [← hnl.out]; exact hlt), List.getElem?_eq_getElem _⟩
        rw [loopF_at hpl.out hs] at hRR
        obtain ⟨cs, hRd, hbd, hcs⟩ := hLS.i
        obtain ⟨u, q1, q2, hVars⟩ := hcs j s hs
        have hV0 := hVars
        obtain ⟨Av, nv, cv, rfl, hnv, hv63, hRv, hbv⟩ := hVars
        replace hV0 := Lib.hid hV0
        obtain ⟨b1, off, rfl, hb1l, k0⟩ := hRd.at_ q1
        obtain ⟨b', f', e', _, k1⟩ := hRd.at_ q2
        cases e'
        rw [← Nat.add_assoc] at k1
        have hlti : (j : Int) < (nl : Int) := by omega
        have hj0 : (0 : Int) ≤ (j : Int) := by omega
        have hwj : IntKind.i64.wrap ((j : Int) + 1) = ((j + 1 : Nat) : Int) := by rw [IntKind.wrap_i64]; omega
        replace hRd := Lib.hid hRd; replace hbd := Lib.hid hbd; replace hcs := Lib.hid hcs; replace q1 := Lib.hid q1; replace q2 := Lib.hid q2; replace hnv := Lib.hid hnv; replace hRv := Lib.hid hRv; replace hbv := Lib.hid hbv; replace hs := Lib.hid hs; replace hLS := Lib.hid hLS; replace hRR := Lib.hid hRR; replace hacc := Lib.hid hacc; replace hb1l := Lib.hid hb1l; replace hwj := Lib.hid hwj
        obtain ⟨W4, hW4⟩ : ∃ W4, W4 = wr.alloc (.cells #[.slice Av nv cv, .slice none 0 0] 28) := ⟨_, rfl⟩
        obtain ⟨b10, hb10⟩ : ∃ b, b = wr.heap.size := ⟨_, rfl⟩
        have hx4 : W4.heap[b10]? = some (.cells #[.slice Av nv cv, .slice none 0 0] 28 (0, 0)) := by rw [hW4, hb10]; exact heap_alloc_new _ _
        have hg4 : wr.grownBy W4 none := by rw [hW4]; exact World.grownBy_alloc _ _ none
        have hLS4 := hLS.out.grown hB.out hg4
        have hB4 : base ≤ W4.heap.size := Nat.le_trans hB.out hLS4.k.size
        have CS := Lib.hid (step_any base mb ab cap deep n scs W4 hLS4.m hB4)
        have hx1 : ∀ w', Kp mb ab W4 w' → w'.heap[b10]? = some (.cells #[.slice Av nv cv, .slice none 0 0] 28 (0, 0)) := fun w' g => by
          rw [g.block b10 (Array.getElem?_eq_some_iff.1 hx4).1 (fun e => by have := hLS.out.m.lt; omega) (fun e => by have := hLS.out.m.ab_lo.2; omega)]
          exact hx4
        have CI := Lib.hid (fun W (g : W4.grownBy W none ∨ Kp mb ab W4 W) => in_any Av none nv cv 0 0 s activeN W hnv.out hv63 (by
          have hr := hRv.out.grown hg4 (.inl rfl)
          rcases g with g | g
          · exact hr.grown g (.inl rfl)
          · exact hr.below (g.below hB4 hLS4.m.lo hLS4.m.ab_lo.1) hbv.out))
        unfold inV at CI
        rw [show st activeN = ⟨#[97, 99, 116, 105, 118, 101]⟩ from rfl] at CI
        obtain ⟨act, hact⟩ : ∃ act, act = (inL s activeN).getD [] := ⟨_, rfl⟩
        obtain ⟨aok, haok⟩ : ∃ q, q = (inL s activeN).isSome := ⟨_, rfl⟩
        rw [← hact, ← haok] at CI
        replace hW4 := Lib.hid hW4; replace hb10 := Lib.hid hb10; replace hx4 := Lib.hid hx4; replace hg4 := Lib.hid hg4; replace hLS4 := Lib.hid hLS4; replace hB4 := Lib.hid hB4; replace hx1 := Lib.hid hx1; replace hact := Lib.hid hact; replace haok := Lib.hid haok
        clear hv63
        go_wp2_with fail
        rw [← hW4.out, ← hb10.out]
        refine CS.out.mono ?_
        rintro e w5 (⟨hle, rfl, hK5, hM5⟩ | ⟨hle, rfl, hK5⟩)
        case inr =>
          have hR2 := hRR.out
          rw [if_neg hle] at hR2
          have hKK := hLS4.out.k.trans hK5 hLS4.out.a
          replace hK5 := Lib.hid hK5; replace hR2 := Lib.hid hR2; replace hKK := Lib.hid hKK
          unfold Pan
          go_wp2_with fail
          refine ⟨rfl, ?_⟩
          rw [hR2.out]
          exact ⟨rfl, hKK.out⟩
        have hR2 := hRR.out
        rw [if_pos hle] at hR2
        have hx5 := hx1.out w5 hK5
        have e0 : w5.cell? ⟨b10, 0, none⟩ = some (.slice Av nv cv) := by rw [cell_of_heap hx5]; rfl
        have e1 : w5.cell? ⟨b10, 1, none⟩ = some (.slice none 0 0) := by rw [cell_of_heap hx5]; rfl
        have hLS5 := hLS4.out.kp hB.out hK5 hM5 (.inl rfl)
        have CI5 := Lib.hid (CI.out w5 (.inr hK5))
        replace hx5 := Lib.hid hx5; replace hLS5 := Lib.hid hLS5; replace hK5 := Lib.hid hK5; replace hM5 := Lib.hid hM5; replace hR2 := Lib.hid hR2; replace hle := Lib.hid hle
        go_wp2_with fail
        refine CI5.out.mono ?_
        rintro e w6 ⟨rfl, hG6⟩
        have hLS6 := hLS5.out.grown hB.out hG6
        have d0 := hG6.cell e0 (by simp)
        have d1 := hG6.cell e1 (by simp)
        have hx6 : w6.heap[b10]? = some (.cells #[.slice Av nv cv, .slice none 0 0] 28 (0, 0)) := (hG6.block b10 (Array.getElem?_eq_some_iff.1 hx5.out).1 (by simp)).trans hx5.out
        have m0 := hLS6.m.c0
        have fm := hLS6.m.free 0
        replace hLS6 := Lib.hid hLS6; replace hx6 := Lib.hid hx6
        have hVA : ScAt base w6 ⟨s, []⟩ (.slice Av nv cv) (.slice none 0 0) := by
          have hbel : Below base wr w6 := (Below.trans ⟨hg4.out.os, hg4.out.tape, hg4.out.output, hg4.out.size, fun k hk => hg4.out.block k (Nat.lt_of_lt_of_le hk (Nat.le_trans hB.out hLS.out.k.size)) (by simp)⟩ (hK5.out.below hB4.out hLS4.out.m.lo hLS4.out.m.ab_lo.1)).trans ⟨hG6.os, hG6.tape, hG6.output, hG6.size, fun k hk => hG6.block k (Nat.lt_of_lt_of_le hk (Nat.le_trans hB.out hLS5.out.k.size)) (by simp)⟩
          exact ⟨hV0.out.below hbel, none, 0, 0, rfl, rfl, by omega, [], Rd.nil _ _, (by intro b e; cases e), fun j p h => by simp at h⟩
        replace hVA := Lib.hid hVA
        obtain ⟨cs0, hOs, hcs0⟩ := hLS6.out.m.sc
        have hli : scs.length ≤ 99 := Nat.le_trans hl.out hL
        have hB6 : base ≤ w6.heap.size := Nat.le_trans hB.out hLS6.out.k.size
        have nm : mb ≠ ab := fun e => hLS6.out.m.ne e.symm
        have nb : b10 ≠ ab := fun e => by have := hLS.out.m.ab_lo.2; have := hb10.out; omega
        replace hOs := Lib.hid hOs; replace hcs0 := Lib.hid hcs0; replace hB6 := Lib.hid hB6; replace nm := Lib.hid nm; replace nb := Lib.hid nb
        clear e0 e1
        replace hG6 := Lib.hid hG6
        go_upto_region 8 with fail
        go_cut [37] (fun _ wx => ∃ ab2 cap2, Hid (LS base mb ab0 deep bb (.slice (some ⟨pg, 0, none⟩) pl c) ps (some ⟨b1, off, none⟩) l w wx (some ⟨s, []⟩ :: scs) ab2 cap2 (n + 1) v acc))
        case first =>
          refine wp_region_row (S := fun w' => w'.cell? ⟨mb, 0, none⟩ = some (.slice (some ⟨ab, 0, none⟩) scs.length cap) ∧ w'.cell? ⟨b10, 0, none⟩ = some (.slice Av nv cv) ∧ w'.cell? ⟨b10, 1, none⟩ = some (.slice none 0 0)) 6 8 (by kernel_rfl) (by kernel_rfl) (fun _ _ d _ _ h => by cases d <;> exact h) ⟨m0, d0, d1⟩ ?_
          simp only [List.take_succ_cons, List.take_zero, List.drop_succ_cons, List.drop_zero]
          repeat
            (apply wpHeld_cons (by rfl)
             · intro w hSw
               go_simp
               try with_reducible rfl
             simp only [Act.put, List.setIfInBounds_toArray, List.set_cons_zero, List.set_cons_succ])
          refine wpHeld_nil ?_
          refine wpRow_succ (k := 1) (fun K hK => ?_)
          go_simp
          refine hK.out _ _ ⟨cell_al m0, cell_al d0, cell_al d1⟩ ?_
          clear hK K
          try simp only [Act.put, List.setIfInBounds_toArray, List.set_cons_zero, List.set_cons_succ]
          refine wpRow_succ (k := 0) (fun K hK => ?_)
          refine ap51s (by rfl) _ _ (by rfl) base (.slice (some ⟨ab, 0, none⟩) scs.length cap) scs.length cs0 (by rfl) (own_keep hOs.out (g_drew (g_alloc (World.grownBy.refl _ _) _))) w6.heap.size (.slice Av nv cv) (.slice none 0 0) (by rfl) (heap_alloc_new _ _) rfl rfl (by omega) (by exact Nat.le_trans hB6.out (g_drew (g_alloc (World.grownBy.refl w6 none) _)).size) ?_
          intro A' c' w7 q1 q2 q3
          refine hK.out _ _ ⟨cell_row q2 m0 nm.out, cell_row q2 d0 nb.out, cell_row q2 d1 nb.out⟩ ?_
          clear hK K
          try simp only [Act.put, List.setIfInBounds_toArray, List.set_cons_zero, List.set_cons_succ]
          refine wpRow_zero ?_
          obtain ⟨ab7, rfl⟩ := own_some q1 (by omega)
          have f7 := froz_row q2 m0 fm nm.out
          have m7 := cell_row q2 m0 nm.out
          have g67 : w6.grownBy (w6.alloc (.cells #[.slice Av nv cv, .slice none 0 0] 28)).drew none := g_drew (g_alloc (World.grownBy.refl _ _) _)
          have hblk : ∀ k, k < w6.heap.size → k ≠ ab → w7.heap[k]? = w6.heap[k]? := fun k hk hn => (q2.block k (Nat.lt_of_lt_of_le hk g67.size) (by simpa [Value.ownBlock] using hn)).trans (g67.block k hk (by simp))
          have hK7 : Kp mb ab w6 w7 := ⟨q2.os.trans g67.os, q2.tape.trans g67.tape, q2.output.trans g67.output, Nat.le_trans g67.size q2.size, fun k hk _ hn => hblk k hk hn⟩
          have hab7 : ab7 = ab ∨ w6.heap.size ≤ ab7 := by
            rcases q3 with q3 | q3
            · left; simpa [ablk, Value.ownBlock] using q3
            · right
              have : ab7 = (w6.alloc (.cells #[.slice Av nv cv, .slice none 0 0] 28)).drew.heap.size := by simpa [ablk] using q3
              rw [this]; exact g67.size
          have hM7 := hLS6.out.m.push hB6.out hVA.out rfl rfl hcs0.out (by rw [hOs.out.1]) q1 (hblk mb hLS6.out.m.lt nm.out) (hK7.below hB6.out hLS6.out.m.lo hLS6.out.m.ab_lo.1)
          have hLS7 := Lib.hid (hLS6.out.kp hB.out (hK7.trans (Kp.setBox (ab := ab) w7 0 (.slice (some ⟨ab7, 0, none⟩) (scs.length + 1) c')) (.inl rfl)) hM7 hab7)
          replace q1 := Lib.hid q1; replace q2 := Lib.hid q2; replace q3 := Lib.hid q3; replace hblk := Lib.hid hblk; replace hK7 := Lib.hid hK7; replace hab7 := Lib.hid hab7; replace hM7 := Lib.hid hM7; replace g67 := Lib.hid g67
          go_wp2_with fail
          go_meet
          exact ⟨ab7, c', hLS7⟩
        case rest =>
          obtain ⟨ab2, cap2, hLS8⟩ := hcut
          have hp12 : pl = 1 ∨ pl = 2 := by have := hpl.out; have := hpl2.out; omega
          have CTr := Lib.hid (true_any act)
          clear m0 fm d0 d1
          go_upto_region 9 with fail
          go_cut [46] (fun qv wx => ∃ q, qv = .bool q ∧ wx = wc ∧ Hid (pickB ps s = q))
          case first =>
            rcases hp12 with hp1 | hp2
            · have hq : pickB ps s = false := by unfold pickB; rw [← hpl2.out, hp1]; rfl
              have hpe : ((pl : Int) == 2) = false := by rw [hp1]; rfl
              replace hp1 := Lib.hid hp1; replace hq := Lib.hid hq
              go_wp2_with fail
              go_meet
              exact ⟨false, rfl, rfl, hq⟩
            · have hq : pickB ps s = trueL act := by unfold pickB; rw [← hpl2.out, hp2, hact.out]; simp
              have hpe : ((pl : Int) == 2) = true := by rw [hp2]; rfl
              obtain ⟨tb, htb⟩ : ∃ tb, tb = trueL act := ⟨_, rfl⟩
              rw [← htb] at hq CTr
              replace hp2 := Lib.hid hp2; replace hq := Lib.hid hq; replace htb := Lib.hid htb
              go_wp2_with fail
              refine (CTr.out _).mono ?_
              rintro e w8 ⟨rfl, rfl⟩
              go_wp2_with fail
              go_meet
              exact ⟨tb, rfl, rfl, hq⟩
          case rest =>
          obtain ⟨q, rfl, rfl, hq⟩ := hcut
          have hB8 : base ≤ wc.heap.size := Nat.le_trans hB.out hLS8.out.k.size
          have CT : Hid (tx (some ⟨s, []⟩ :: scs) (pickL ps q) (n + 1) ≠ .no → Calls Tryz.prog 26 #[.pointer (some ⟨mb, 0, none⟩), .string (st (pickL ps q))] wc (ResP base mb (some ⟨s, []⟩ :: scs) deep ab2 wc (tx (some ⟨s, []⟩ :: scs) (pickL ps q) (n + 1)))) := Lib.hid fun h => hT.out (some ⟨s, []⟩ :: scs) (pickL ps q) (n + 1) ab2 cap2 wc (by have := hl.out; simp; omega) (Nat.le_trans (pick_len hpl.out q hmem.out) hrest) hLS8.out.m hB8 h
          have hne : tx (some ⟨s, []⟩ :: scs) (pickL ps q) (n + 1) ≠ .no := fun h => hno.out (by rw [hR2.out, hq.out, h]; rfl)
          replace CT := Lib.hid (CT.out hne)
          replace hB8 := Lib.hid hB8; replace hne := Lib.hid hne
          go_upto_if 46 with fail
          go_cut [] (fun wx => ∃ x n' v' ab3 cap3, Hid (LS base mb ab0 deep bb (.slice (some ⟨pg, 0, none⟩) pl c) ps (some ⟨b1, off, none⟩) l w wx (some ⟨s, []⟩ :: scs) ab3 cap3 n' v' (acc ++ x)) ∧ Hid (x.length ≤ 8192 ∧ R = if (acc ++ x).length ≤ 8192 then loopF tx scs (ps.headD []) ps.tail.head? (l.drop (j + 1)) (acc ++ x) n' else .bad 2))
          case first =>
            cases q with
            | true =>
              have hpk : ps[1]? = some (pickL ps true) := by
                have hq' := hq.out
                have hpl' := hpl.out
                revert hq' hpl'
                unfold pickL pickB
                rcases ps with _ | ⟨p0, _ | ⟨p1, _ | ⟨p2, r⟩⟩⟩ <;> simp
              have hti : (((1 : Nat) : Int)) < (pl : Int) := by
                have := (List.getElem?_eq_some_iff.1 hpk).1
                have := hpl2.out
                omega
              obtain ⟨pb, poff, pe, _, kp⟩ := (own_rd (by have := hLS8.out.p; rw [← hpl2.out] at this; exact this)).at_ (ss_at (l := ps) (j := 1) (b := pickL ps true) hpk)
              cases pe
              rw [Nat.zero_add] at kp
              replace hpk := Lib.hid hpk
              go_wp2_with fail
              refine CT.out.mono ?_
              intro e w9 h9
              cases hx : tx (some ⟨s, []⟩ :: scs) (pickL ps true) (n + 1) with
              | no => exact absurd (by rw [hR2.out, hq.out, hx]; rfl) hno.out
              | bad e0 =>
                rw [hx] at h9
                obtain ⟨rfl, hK9⟩ := h9
                have hR3 : R = .bad e0 := by rw [hR2.out, hq.out, hx]; rfl
                have hKK := hLS8.out.k.trans hK9 hLS8.out.a
                replace hR3 := Lib.hid hR3; replace hKK := Lib.hid hKK; replace hx := Lib.hid hx; replace hK9 := Lib.hid hK9
                unfold Pan
                go_wp2_with fail
                refine ⟨rfl, ?_⟩
                rw [hR3.out]
                exact ⟨rfl, hKK.out⟩
              | ok x n' =>
                rw [hx] at h9
                obtain ⟨rfl, hK9, ab9, cap9, hM9, ha9⟩ := h9
                have hLS9 := hLS8.out.kp hB.out hK9 hM9 ha9
                have hxl := hTl.out _ _ _ _ _ hx
                have CW := Lib.hid (bdWrite_any w.heap.size bb v acc x w9 hLS9.b (by have := hacc.out; omega) (by omega) hLS9.k.size)
                obtain ⟨X, hX⟩ : ∃ X, X = st x := ⟨_, rfl⟩
                rw [← hX] at CW ⊢
                replace hX := Lib.hid hX; replace hx := Lib.hid hx; replace hK9 := Lib.hid hK9; replace hM9 := Lib.hid hM9; replace ha9 := Lib.hid ha9; replace hLS9 := Lib.hid hLS9; replace hxl := Lib.hid hxl
                go_wp2_with fail
                refine CW.out.mono ?_
                rintro e w10 ⟨rfl, hF10, v10, hB10⟩
                have hLS10 := hLS9.out.wrote hB.out hmb.out hF10 hB10
                replace hF10 := Lib.hid hF10; replace hB10 := Lib.hid hB10; replace hLS10 := Lib.hid hLS10
                go_wp2_with fail
                go_meet
                exact ⟨x, n', v10, ab9, cap9, hLS10, Lib.hid ⟨hxl.out, by rw [hR2.out, hq.out, hx.out]; rfl⟩⟩
            | false =>
              have hpk : ps[0]? = some (pickL ps false) := by
                have hq' := hq.out
                have hpl' := hpl.out
                revert hq' hpl'
                unfold pickL pickB
                rcases ps with _ | ⟨p0, _ | ⟨p1, _ | ⟨p2, r⟩⟩⟩ <;> simp
              have hti : (((0 : Nat) : Int)) < (pl : Int) := by
                have := (List.getElem?_eq_some_iff.1 hpk).1
                have := hpl2.out
                omega
              obtain ⟨pb, poff, pe, _, kp⟩ := (own_rd (by have := hLS8.out.p; rw [← hpl2.out] at this; exact this)).at_ (ss_at (l := ps) (j := 0) (b := pickL ps false) hpk)
              cases pe
              rw [Nat.zero_add] at kp
              replace hpk := Lib.hid hpk
              go_wp2_with fail
              refine CT.out.mono ?_
              intro e w9 h9
              cases hx : tx (some ⟨s, []⟩ :: scs) (pickL ps false) (n + 1) with
              | no => exact absurd (by rw [hR2.out, hq.out, hx]; rfl) hno.out
              | bad e0 =>
                rw [hx] at h9
                obtain ⟨rfl, hK9⟩ := h9
                have hR3 : R = .bad e0 := by rw [hR2.out, hq.out, hx]; rfl
                have hKK := hLS8.out.k.trans hK9 hLS8.out.a
                replace hR3 := Lib.hid hR3; replace hKK := Lib.hid hKK; replace hx := Lib.hid hx; replace hK9 := Lib.hid hK9
                unfold Pan
                go_wp2_with fail
                refine ⟨rfl, ?_⟩
                rw [hR3.out]
                exact ⟨rfl, hKK.out⟩
              | ok x n' =>
                rw [hx] at h9
                obtain ⟨rfl, hK9, ab9, cap9, hM9, ha9⟩ := h9
                have hLS9 := hLS8.out.kp hB.out hK9 hM9 ha9
                have hxl := hTl.out _ _ _ _ _ hx
                have CW := Lib.hid (bdWrite_any w.heap.size bb v acc x w9 hLS9.b (by have := hacc.out; omega) (by omega) hLS9.k.size)
                obtain ⟨X, hX⟩ : ∃ X, X = st x := ⟨_, rfl⟩
                rw [← hX] at CW ⊢
                replace hX := Lib.hid hX; replace hx := Lib.hid hx; replace hK9 := Lib.hid hK9; replace hM9 := Lib.hid hM9; replace ha9 := Lib.hid ha9; replace hLS9 := Lib.hid hLS9; replace hxl := Lib.hid hxl
                go_wp2_with fail
                refine CW.out.mono ?_
                rintro e w10 ⟨rfl, hF10, v10, hB10⟩
                have hLS10 := hLS9.out.wrote hB.out hmb.out hF10 hB10
                replace hF10 := Lib.hid hF10; replace hB10 := Lib.hid hB10; replace hLS10 := Lib.hid hLS10
                go_wp2_with fail
                go_meet
                exact ⟨x, n', v10, ab9, cap9, hLS10, Lib.hid ⟨hxl.out, by rw [hR2.out, hq.out, hx.out]; rfl⟩⟩
          case rest =>
            obtain ⟨x, n', v3, ab3, cap3, hLSb, hRb⟩ := hcut
            have c0 := hLSb.out.m.c0
            have cf := hLSb.out.m.free 0
            rw [List.length_cons] at c0
            have hcap : scs.length + 1 ≤ cap3 := by
              obtain ⟨cs, h1, _⟩ := hLSb.out.m.sc
              rcases h1.2 with ⟨hh, _⟩ | ⟨g, c', cur, hh, q1, q2, q3, q4, q5, q6⟩
              · cases hh
              · injection hh with e1 e2 e3
                subst e3
                simpa using q3
            have hM12 := hLSb.out.m.pop
            have hK12 : Kp mb ab3 wc (wc.setCell ⟨mb, 0, none⟩ (.slice (some ⟨ab3, 0, none⟩) scs.length cap3)) := Kp.setBox _ _ _
            have hLS12 := (hLSb.out.kp hB.out hK12 hM12 (.inl rfl)).grown hB.out (g_drew (World.grownBy.refl _ _))
            have CL := Lib.hid (bdLen_any w.heap.size bb v3 (acc ++ x) _ hLS12.b)
            obtain ⟨W12, hW12⟩ : ∃ W12, W12 = (wc.setCell ⟨mb, 0, none⟩ (.slice (some ⟨ab3, 0, none⟩) scs.length cap3)).drew := ⟨_, rfl⟩
            obtain ⟨K, hK⟩ : ∃ K, K = scs.length := ⟨_, rfl⟩
            obtain ⟨K1, hK1⟩ : ∃ K1, K1 = scs.length + 1 := ⟨_, rfl⟩
            have hKw : IntKind.i64.wrap ((K1 : Int) - 1) = (K : Int) := by rw [IntKind.wrap_i64, hK1, hK]; omega
            have hKc : (K : Int) ≤ (cap3 : Int) := by rw [hK]; omega
            have hK0 : (0 : Int) ≤ (K : Int) := by omega
            rw [← hW12] at hLS12 CL
            rw [← hK1] at c0
            rw [← hK] at hW12
            obtain ⟨al, hal⟩ : ∃ al, al = (acc ++ x).length := ⟨_, rfl⟩
            rw [← hal] at CL
            replace hM12 := Lib.hid hM12; replace hK12 := Lib.hid hK12; replace hLS12 := Lib.hid hLS12; replace hW12 := Lib.hid hW12; replace hK := Lib.hid hK; replace hK1 := Lib.hid hK1; replace hcap := Lib.hid hcap; replace hal := Lib.hid hal
            go_upto_region 12 with fail
            go_cut [] (fun wx => wx = W12)
            case first =>
              refine wp_region_row (S := fun w' => w'.cell? ⟨mb, 0, none⟩ = some (.slice (some ⟨ab3, 0, none⟩) K1 cap3)) 11 12 (by kernel_rfl) (by kernel_rfl) (fun _ _ d _ _ h => by cases d <;> exact h) c0 ?_
              simp only [List.take_succ_cons, List.take_zero, List.drop_succ_cons, List.drop_zero]
              repeat
                (apply wpHeld_cons (by rfl)
                 · intro w hSw
                   go_simp
                   try with_reducible rfl
                 simp only [Act.put, List.setIfInBounds_toArray, List.set_cons_zero, List.set_cons_succ])
              refine wpHeld_nil ?_
              refine wpRow_succ (k := 0) (fun K hK => ?_)
              go_simp
              refine hK.out _ _ c0 ?_
              clear hK
              try simp only [Act.put, List.setIfInBounds_toArray, List.set_cons_zero, List.set_cons_succ]
              refine wpRow_zero ?_
              go_wp2_with fail
              go_meet
              exact hW12.out.symm
            case rest =>
              obtain rfl := hcut
              have hwj' := hwj.out
              have hRb2 := hRb.out.2
              by_cases h8 : al ≤ 8192
              · have h8i : (al : Int) ≤ 8192 := by omega
                rw [if_pos (by rw [← hal.out]; exact h8)] at hRb2
                replace hRb2 := Lib.hid hRb2; replace h8 := Lib.hid h8
                go_wp2_with fail
                refine CL.out.mono ?_
                rintro e w13 ⟨rfl, rfl⟩
                go_wp2_with fail
                refine (CM1.out 2 _).mono ?_
                rintro e w14 ⟨rfl, rfl⟩
                go_wp2_with fail
                exact ⟨⟨j + 1, by first | rfl | rw [hwj'], by omega, Lib.hid ⟨ab3, cap3, n', v3, acc ++ x, hLS12.out, by rw [← hal.out]; exact h8.out, hRb2.out⟩⟩, by simp [intOf]; omega⟩
              · have h8i : decide ((al : Int) ≤ 8192) = false := by rw [decide_eq_false_iff_not]; omega
                rw [if_neg (by rw [← hal.out]; exact h8)] at hRb2
                have hKK := hLS12.out.k
                replace hRb2 := Lib.hid hRb2; replace h8 := Lib.hid h8; replace hKK := Lib.hid hKK
                go_wp2_with fail
                refine CL.out.mono ?_
                rintro e w13 ⟨rfl, rfl⟩
                go_wp2_with fail
                refine (CM0.out 2 _).mono ?_
                rintro e w14 ⟨rfl, rfl⟩
                go_wp2_with fail
                refine ⟨rfl, ?_⟩
                rw [hRb2.out]
                exact ⟨rfl, hKK.out⟩
      · have hlti : ¬ ((j : Int) < (nl : Int)) := by omega
        have hR3 : R = .ok acc n := by
          rw [hRR, List.drop_eq_nil_of_le (by rw [← hnl.out]; omega)]
          rfl
        have CS := Lib.hid (bdString_any w.heap.size bb v acc wr hLS.b (by omega))
        obtain ⟨SA, hSA⟩ : ∃ SA, SA = st acc := ⟨_, rfl⟩
        rw [← hSA] at CS
        replace hR3 := Lib.hid hR3; replace hRR := Lib.hid hRR; replace hLS := Lib.hid hLS; replace hSA := Lib.hid hSA; replace hacc := Lib.hid hacc
        go_wp2_with fail
        refine CS.out.mono ?_
        rintro e w5 ⟨rfl, hF⟩
        obtain ⟨h1, h2, _, _⟩ := hLS.out.frm hB.out hmb.out hF
        have ha := hLS.out.a
        replace hF := Lib.hid hF; replace h1 := Lib.hid h1; replace h2 := Lib.hid h2; replace ha := Lib.hid ha
        go_wp2_with fail
        go_ret
        rw [hR3.out]
        exact ⟨by rw [hSA.out]; rfl, h1.out, ab, cap, h2.out, ha.out⟩
end Go.Proofs.YtfhdfhlabkeipaaGreatDoor
