/- Layout: a node's cells, read and set. Layout: leaves (what is called with each leaf appends it to a row), all. Layout: leaves, all. Layout: all, leaf, Has. Layout: Has, may, New, wayOf, leafUp, pick. -/
import Derived.Test.YtcklmkjlbpjojaaDoorA
import Derived.Test.YtcklmkjlbpjojaaDoorProg
import Derived.StillTailTactics
import Derived.Deep.DeepCutAuto
import Derived.Deep.CutBlock
import Derived.BigQuiet
namespace Go.Proofs.YtcklmkjlbpjojaaDoor
open Go.RowKit
set_option linter.unusedSimpArgs false
set_option linter.unusedVariables false

section
variable {w : World} {up : Option Nat} {n : Nd} {ks : List T}
theorem At.cell (h : At w up n ks) (j : Nat) : w.cell? ⟨n.g, j, none⟩ = #[Value.int .i64 n.p, .int .i64 n.x, .int .i64 n.y, .int .i64 n.a, .int .i64 n.b, .int .i64 n.way, n.row ks.length, uptr up][j]? := by
  simp [World.cell?, h.h]
theorem At.free (h : At w up n ks) (j : Nat) : w.frozen? ⟨n.g, j, none⟩ = false := by
  simp [World.frozen?, h.h]
theorem At.c0 (h : At w up n ks) : w.cell? ⟨n.g, 0, none⟩ = some (.int .i64 n.p) := h.cell 0
theorem At.c1 (h : At w up n ks) : w.cell? ⟨n.g, 1, none⟩ = some (.int .i64 n.x) := h.cell 1
theorem At.c2 (h : At w up n ks) : w.cell? ⟨n.g, 2, none⟩ = some (.int .i64 n.y) := h.cell 2
theorem At.c3 (h : At w up n ks) : w.cell? ⟨n.g, 3, none⟩ = some (.int .i64 n.a) := h.cell 3
theorem At.c4 (h : At w up n ks) : w.cell? ⟨n.g, 4, none⟩ = some (.int .i64 n.b) := h.cell 4
theorem At.c5 (h : At w up n ks) : w.cell? ⟨n.g, 5, none⟩ = some (.int .i64 n.way) := h.cell 5
theorem At.c6 (h : At w up n ks) : w.cell? ⟨n.g, 6, none⟩ = some (.slice (adr n.A) ks.length n.c) := h.cell 6
theorem At.c7 (h : At w up n ks) : w.cell? ⟨n.g, 7, none⟩ = some (uptr up) := h.cell 7
theorem At.kid (h : At w up n ks) {i : Nat} {k : T} (hk : ks[i]? = some k) : ∃ b, n.A = some b ∧ w.cell? ⟨b, i, none⟩ = some (ptr k.g) := by
  rcases hA : n.A with _ | b
  · rcases h.r.2 with ⟨_, h0⟩ | ⟨g, cap, cur, hv, _⟩
    · have := (List.getElem?_eq_some_iff.1 hk).1; omega
    · simp [Nd.row, hA, adr] at hv
  · refine ⟨b, rfl, ?_⟩
    have := h.r.cells (g := b) (by rw [ownBlock_row, hA]) i (ptr k.g) (by simp [ptrs, hk])
    rwa [Addr.add_lit, Nat.zero_add] at this
theorem At.len (h : At w up n ks) : ks.length ≤ n.c ∧ n.c ≤ maxLen ∨ ks = [] := by
  rcases h.r.2 with ⟨_, h0⟩ | ⟨g, cap, cur, hv, _, _, hn, hm, _⟩
  · exact .inr (List.eq_nil_of_length_eq_zero h0)
  · simp only [Nd.row, Value.slice.injEq] at hv
    exact .inl ⟨by omega, by omega⟩
theorem At.small (h : At w up n ks) : ks.length ≤ 9223372036854775807 := by
  have hm : maxLen = 9223372036854775807 := rfl
  rcases h.len with h | h
  · omega
  · subst h; simp
end
end Go.Proofs.YtcklmkjlbpjojaaDoor
namespace Go.Proofs.YtcklmkjlbpjojaaDoor
open Go.RowKit
set_option linter.unusedSimpArgs false
set_option linter.unusedVariables false

theorem info55 : (Tryd.prog.info? 55).map (fun i => (i.zero, i.size, i.bytes)) = some (some (.pointer none), 1, 8) := by kernel_rfl
section
variable {ops : Array Oper} {rest : List Oper} {o : Oper} {a : Act} {Q : Exit → Act → World → Prop} {w : World}
/-- append at []*node. -/
theorem ap53 (hgd : o.guard = none) (s x : Operand) (ho : o.op = .call { callee := .builtin .append, args := #[s, x], argTypes := #[53, 53] })
    (base : Nat) (v : Value) (n : Nat) (xs : List Value) (hs : a.eval s = v) (hown : w.ownsRow base 55 1 v n xs)
    (A : Option Addr) (m c : Nat) (news : List Value) (hx : a.eval x = .slice A m c) (hl : news.length = m) (hr : Rd w A news) (h1 : ∀ u ∈ news, u.oneCell' = true)
    (hb : n + m ≤ 1099511627776) (hbase : base ≤ w.heap.size)
    (h : ∀ A' c' w', w'.ownsRow base 55 1 (.slice A' (n + m) c') (n + m) (xs ++ news) → w.grownBy w' v.ownBlock → (ablk A' = v.ownBlock ∨ ablk A' = some w.heap.size) → wpList Tryd.prog ops Q rest (a.put o.dst (.slice A' (n + m) c')) w') : wpList Tryd.prog ops Q (o :: rest) a w := by
  obtain ⟨i0, hi0, hz0, hz1, hz2⟩ := info_parts info55
  exact wpList_append_rd w hgd s x 53 ho base 55 i0 _ 1 8 Tryd.underlying53 hi0 hz0 hz1 hz2 rfl (by omega) v n xs hs hown A m c news hx (by omega) hr h1 (by unfold maxLen; omega) (by omega) hbase h
end

/-- A row of pointers in a variable of its own. -/
structure J (B : Nat) (w : World) (h : Nat) (xs : List Value) : Prop where
  r : ∃ A c, w.heap[h]? = some (.cells #[.slice A xs.length c] 53 (0, 0)) ∧ w.ownsRow B 55 1 (.slice A xs.length c) xs.length xs ∧ ablk A ≠ some h
  hB : B ≤ h

set_option maxHeartbeats 400000 in
theorem push_any (k h B : Nat) (xs : List Value) (w : World) (hJ : J B w h xs) (hl : xs.length ≤ 1000000) :
    Calls Tryd.prog 53 #[ptr k, ptr h] w fun e w' => e = .returned (.tuple #[]) ∧ J B w' h (xs ++ [ptr k]) ∧ Below B w w' := by
  obtain ⟨⟨A, c, hh, hO, hne⟩, hB⟩ := hJ
  have hlt := lt_of_heap hh
  have c0 : w.cell? ⟨h, 0, none⟩ = some (.slice A xs.length c) := by simp [World.cell?, hh]
  have hO1 : (w.alloc (.cells #[ptr k] 55)).ownsRow B 55 1 (.slice A xs.length c) xs.length xs := hO.alloc _
  have hR : Rd (w.alloc (.cells #[ptr k] 55)) (some ⟨w.heap.size, 0, none⟩) [ptr k] := fun _ => ⟨_, _, rfl, by simp, fun j u hj => by
    rcases j with _ | j
    · simp at hj; subst hj; unfold World.cell?; rw [heap_alloc_new]; rfl
    · simp at hj⟩
  replace hh := Lib.hid hh; replace hO1 := Lib.hid hO1; replace hR := Lib.hid hR; replace hne := Lib.hid hne
  have hmv : ∀ w2 : World, (w.alloc (.cells #[ptr k] 55)).grownBy w2 (Value.slice A xs.length c).ownBlock → w2.heap[h]? = some (.cells #[.slice A xs.length c] 53 (0, 0)) := fun w2 G => by
    rw [G.block h (by simp; omega) (by
      intro e
      rcases A with _ | ad
      · cases e
      · exact hne.out e.symm)]
    rw [(World.grownBy_alloc w _ none).block h hlt (by simp)]; exact hh.out
  have hs := hlt
  replace hmv := Lib.hid hmv
  unfold ptr at *
  go_enter Tryd.func53, Tryd.ntmps53
  go_wp2_with (first
    | (at_builtin; refine ap53 rfl (.tmp 3) (.tmp 5) rfl B (.slice A xs.length c) xs.length xs rfl hO1.out (some ⟨w.heap.size, 0, none⟩) 1 1 _ rfl rfl hR.out (by intro u hu; simp at hu; subst hu; rfl) (by omega) (by simp; omega) ?_; intro A2 c2 w2 O2 G2 hh2; have e2 := hmv.out w2 G2; have q2 : w2.cell? ⟨h, 0, none⟩ = some (.slice A xs.length c) := by simp [World.cell?, e2]
       have f2 : w2.frozen? ⟨h, 0, none⟩ = false := by simp [World.frozen?, e2]
       replace e2 := Lib.hid e2)
    | fail)
  go_end0
  have hlen : (xs ++ [Value.pointer (some ⟨k, 0, none⟩)]).length = xs.length + 1 := by simp
  have hA2 : ablk A2 ≠ some h := by
    rcases hh2 with e | e
    · rw [e]; rcases A with _ | ad
      · intro e; cases e
      · exact hne.out
    · rw [e]; intro e; injection e with e; simp at e; omega
  have hB1 : Below B w w2 := by
    refine ⟨G2.os, G2.tape, G2.output, by have := G2.size; simp at this; omega, fun j hj => ?_⟩
    rw [G2.block j (by simp; omega) (by intro e; have := (hO.lt j e.symm).1; omega), (World.grownBy_alloc w _ none).block j (by omega) (by simp)]
  refine ⟨rfl, ⟨⟨A2, c2, ?_, ?_, hA2⟩, hB⟩, ?_⟩
  · rw [hlen]
    simp [World.setCell, Array.getElem?_modify, e2.out]
  · rw [hlen]
    exact own_same O2 fun b hb => by
      have hbh : b ≠ h := by
        rintro rfl
        apply hA2
        rcases A2 with _ | ad
        · cases hb
        · exact hb
      rw [Below.heap_setCell _ _ _ _ (by simpa using hbh)]
  · exact ⟨hB1.os, hB1.tape, hB1.output, by simpa [World.setCell] using hB1.size, fun j hj => by
      rw [Below.heap_setCell _ _ _ _ (by show j ≠ h; omega)]
      exact hB1.block j hj⟩
end Go.Proofs.YtcklmkjlbpjojaaDoor
namespace Go.Proofs.YtcklmkjlbpjojaaDoor
open Go.RowKit
set_option linter.unusedSimpArgs false
set_option linter.unusedVariables false

def intOf : Value → Int | .int _ i => i | _ => 0
mutual
/-- The leaves, in order. -/
def T.leaves : T → List T
  | .mk n ks => (if ks.length = 0 then [.mk n ks] else []) ++ leavesL ks
def leavesL : List T → List T
  | [] => []
  | k :: ks => k.leaves ++ leavesL ks
end
theorem T.leaves_mk (n : Nd) (ks : List T) : (T.mk n ks).leaves = (if ks.length = 0 then [.mk n ks] else []) ++ leavesL ks := by rw [T.leaves]
theorem leavesL_nil : leavesL [] = [] := by rw [leavesL]
theorem leavesL_cons (k : T) (ks : List T) : leavesL (k :: ks) = k.leaves ++ leavesL ks := by rw [leavesL]
theorem leavesL_app (l r : List T) : leavesL (l ++ r) = leavesL l ++ leavesL r := by
  induction l with
  | nil => simp [leavesL_nil]
  | cons k l ih => simp [leavesL_cons, ih]
theorem take_succ' {α : Type} {l : List α} {i : Nat} {a : α} (h : l[i]? = some a) : l.take (i + 1) = l.take i ++ [a] := by
  rw [List.take_add_one, h]; rfl
theorem len_take_leaves (ks : List T) (i : Nat) : (leavesL (ks.take i)).length ≤ (leavesL ks).length := by
  conv => rhs; rw [← List.take_append_drop i ks, leavesL_app, List.length_append]
  omega

/-- What each is handed: a row's variable. -/
def pusher (h : Nat) : Value := .func (.func 53) #[] #[ptr h]

set_option maxHeartbeats 1000000 in
set_option maxRecDepth 100000 in
theorem leaves_any (h B : Nat) : ∀ (t : T) (up : Option Nat) (xs : List Value) (w : World), TP w up t → (∀ b ∈ t.bl, b < B) → J B w h xs → xs.length + t.leaves.length ≤ 100000 →
    Calls Tryd.prog 42 #[ptr t.g, pusher h] w fun e w' => e = .returned (.tuple #[]) ∧ J B w' h (xs ++ ptrs t.leaves) ∧ Below B w w' := by
  intro t
  induction t using T.ind with
  | h n ks ih =>
    intro up xs w hT hbl hJ hlen
    have hAt := hT.at_
    have hK := hT.kids
    have c6 := hAt.c6
    have hsm := hAt.small
    have hgB : n.g < B := hbl _ (by rw [T.bl_mk]; simp)
    have hlv : (T.mk n ks).leaves.length = (if ks.length = 0 then 1 else 0) + (leavesL ks).length := by
      rw [T.leaves_mk, List.length_append]; split <;> simp
    have hAB : ∀ b ∈ n.g :: n.A.toList, b < B := fun b hb => hbl b (by
      rw [T.bl_mk]; rcases List.mem_cons.1 hb with rfl | hb
      · simp
      · simp [Option.mem_toList.1 hb])
    have hKB : ∀ b ∈ blL ks, b < B := fun b hb => hbl b (by rw [T.bl_mk]; simp [hb])
    have hPU := Lib.hid (fun (hx : xs.length ≤ 1000000) => push_any n.g h B xs w hJ hx)
    obtain ⟨len, hln⟩ : ∃ len, len = ks.length := ⟨_, rfl⟩
    obtain ⟨AA, hAA⟩ : ∃ AA, AA = adr n.A := ⟨_, rfl⟩
    rw [← hln] at c6 hsm hlv
    rw [← hAA] at c6
    replace hAA := Lib.hid hAA
    have hend : (T.mk n ks).leaves = (if len = 0 then [.mk n ks] else []) ++ leavesL ks := by rw [T.leaves_mk, hln]
    replace hend := Lib.hid hend
    replace hln := Lib.hid hln; replace hAt := Lib.hid hAt; replace hK := Lib.hid hK; replace hbl := Lib.hid hbl; replace hJ := Lib.hid hJ; replace ih := Lib.hid ih; replace hAB := Lib.hid hAB; replace hKB := Lib.hid hKB
    clear hT
    show Calls Tryd.prog 42 #[ptr n.g, pusher h] w _
    unfold pusher ptr at *
    go_enter Tryd.func42, Tryd.ntmps42
    go_upto_if 11 with fail
    go_cut [] (fun wx => Hid (J B wx h (xs ++ ptrs (if len = 0 then [.mk n ks] else [])) ∧ Below B w wx))
    case first =>
      by_cases h0 : len = 0
      · subst h0
        have hx : xs.length ≤ 1000000 := by omega
        have hP := Lib.hid (hPU.out hx)
        go_wp2_with fail
        refine hP.out.mono ?_
        rintro e w1 ⟨rfl, hJ1, hB1⟩
        replace hJ1 := Lib.hid hJ1; replace hB1 := Lib.hid hB1
        go_wp2_with fail
        go_meet
        exact Lib.hid ⟨hJ1.out, hB1.out⟩
      · have hne : ¬ ((len : Int) = 0) := by omega
        have hneb : ((len : Int) == 0) = false := by simp; omega
        go_wp2_with fail
        go_meet
        rw [if_neg h0]
        exact Lib.hid ⟨by simpa [ptrs] using hJ.out, Below.refl _ _⟩
    case rest =>
      obtain ⟨hJ1, hB1⟩ := hcut.out
      have c6' := (hB1.cell (p := ⟨n.g, 6, none⟩) hgB).trans c6
      have hB0 := hB1
      replace hB1 := Lib.hid hB1; replace hJ1 := Lib.hid hJ1
      clear hcut c6
      go_wp2_with fail
      go_loopw [20] (fun iv wr => ∃ j : Nat, j ≤ len ∧ iv = .int .i64 j ∧ Hid (J B wr h (xs ++ ptrs (if len = 0 then [.mk n ks] else []) ++ ptrs (leavesL (ks.take j))) ∧ Below B w wr)) (fun iv _ => len - (intOf iv).toNat)
      case atStart => exact ⟨0, Nat.zero_le _, rfl, Lib.hid ⟨by simpa [ptrs, leavesL_nil] using hJ1.out, hB1.out⟩⟩
      case round =>
        obtain ⟨j, hj, rfl, hI⟩ := hrel
        by_cases hlt : j < len
        · obtain ⟨k, hk⟩ : ∃ k, ks[j]? = some k := ⟨ks[j]'(by rw [← hln.out]; exact hlt), List.getElem?_eq_getElem _⟩
          obtain ⟨b, hA, hc⟩ := hAt.out.kid hk
          have hbB : b < B := hAB.out b (by simp [hA])
          have hc2 := (hI.out.2.cell (p := ⟨b, j, none⟩) hbB).trans hc
          have hmem : k ∈ ks := List.mem_of_getElem? hk
          have hkT : TP wr (some n.g) k := (TPs_iff.1 hK.out k hmem).below hI.out.2 fun x hx => hKB.out x (mem_blL.2 ⟨k, hmem, hx⟩)
          have hle : (leavesL (ks.take (j + 1))).length ≤ (leavesL ks).length := len_take_leaves _ _
          have hsn : leavesL (ks.take (j + 1)) = leavesL (ks.take j) ++ k.leaves := by rw [take_succ' hk, leavesL_app, leavesL_cons, leavesL_nil, List.append_nil]
          have hib : (xs ++ ptrs (if len = 0 then [T.mk n ks] else []) ++ ptrs (leavesL (ks.take j))).length + k.leaves.length ≤ 100000 := by
            rw [hsn, List.length_append] at hle
            simp only [List.length_append, ptrs_len]
            split <;> split at hlv <;> simp <;> omega
          have CK := Lib.hid (ih.out k hmem (some n.g) _ wr hkT (fun x hx => hKB.out x (mem_blL.2 ⟨k, hmem, hx⟩)) hI.out.1 hib)
          have hAb : AA = some ⟨b, 0, none⟩ := by rw [hAA.out, hA]; rfl
          subst hAb
          replace hsn := Lib.hid hsn; replace hk := Lib.hid hk; replace hA := Lib.hid hA
          clear hkT hle hib
          unfold ptr at hc2 CK
          go_wp2_with fail
          refine CK.out.mono ?_
          rintro e w1 ⟨rfl, hJ2, hB2⟩
          replace hJ2 := Lib.hid hJ2; replace hB2 := Lib.hid hB2
          go_wp2_with fail
          refine ⟨⟨j + 1, by omega, by go_num, Lib.hid ⟨?_, hI.out.2.trans hB2.out⟩⟩, by simp [intOf]; omega⟩
          rw [hsn.out]
          have := hJ2.out
          simp only [ptrs, List.map_append, List.append_assoc] at this ⊢
          exact this
        · have : j = len := by omega
          subst this
          go_wp2_with fail
          go_end0
          refine ⟨rfl, ?_, hI.out.2⟩
          rw [hend.out]
          have := hI.out.1
          rw [List.take_of_length_le (by rw [hln.out]; exact Nat.le_refl _)] at this
          simp only [ptrs, List.map_append, List.append_assoc] at this ⊢
          exact this
end Go.Proofs.YtcklmkjlbpjojaaDoor
namespace Go.Proofs.YtcklmkjlbpjojaaDoor
open Go.RowKit
set_option linter.unusedSimpArgs false
set_option linter.unusedVariables false

/-- A tree of the call's own, whole. -/
structure Tr (base : Nat) (w : World) (tr : Nat) (t : T) : Prop where
  h : w.heap[tr]? = some (.cells #[ptr t.g] 60 (0, 0))
  p : TP w none t
  nd : t.bl.Nodup
  nt : tr ∉ t.bl
  lo : base ≤ tr ∧ ∀ b ∈ t.bl, base ≤ b
theorem Tr.grown {base tr : Nat} {w w' : World} {t : T} (h : Tr base w tr t) (hg : w.grownBy w' none) : Tr base w' tr t :=
  ⟨(hg.block tr (lt_of_heap h.h) (by simp)).trans h.h, h.p.grown hg, h.nd, h.nt, h.lo⟩
theorem Tr.c0 {base tr : Nat} {w : World} {t : T} (h : Tr base w tr t) : w.cell? ⟨tr, 0, none⟩ = some (ptr t.g) := by simp [World.cell?, h.h]
theorem Tr.lt {base tr : Nat} {w : World} {t : T} (h : Tr base w tr t) : tr < w.heap.size := lt_of_heap h.h

set_option maxHeartbeats 400000 in
theorem all_any (base tr : Nat) (t : T) (w : World) (hT : Tr base w tr t) (hl : t.leaves.length ≤ 100000) :
    Calls Tryd.prog 26 #[ptr tr] w fun e w' => ∃ A c, e = .returned (.slice A t.leaves.length c) ∧ w'.ownsRow w.heap.size 55 1 (.slice A t.leaves.length c) t.leaves.length (ptrs t.leaves) ∧ w.grownBy w' none := by
  have c0 := hT.c0
  have hlt := hT.lt
  have hJ : J w.heap.size (w.alloc (.cells #[.slice none 0 0] 53)) w.heap.size [] :=
    ⟨⟨none, 0, heap_alloc_new w _, World.ownsRow_nil _ _ _ _, by simp [ablk]⟩, Nat.le_refl _⟩
  have CL := Lib.hid (leaves_any w.heap.size w.heap.size t none [] (w.alloc (.cells #[.slice none 0 0] 53)) (hT.p.grown (World.grownBy_alloc _ _ _)) (fun b hb => hT.p.lt _ _ b hb) hJ (by simpa using hl))
  replace hT := Lib.hid hT
  clear hJ
  unfold pusher ptr at *
  go_enter Tryd.func26, Tryd.ntmps26
  go_wp2_with fail
  refine CL.out.mono ?_
  rintro e w1 ⟨rfl, hJ, hB⟩
  obtain ⟨A, c, hh, hO, hne⟩ := hJ.r
  have q := hh
  have q0 : w1.cell? ⟨w.heap.size, 0, none⟩ = some (.slice A ([] ++ ptrs t.leaves).length c) := by simp [World.cell?, hh]
  replace hO := Lib.hid hO; replace hB := Lib.hid hB
  clear hh q hne hJ
  go_wp2_with fail
  go_ret
  have e1 : ([] ++ ptrs t.leaves).length = t.leaves.length := by simp [ptrs]
  refine ⟨A, c, (show Ending.returned (.slice A (ptrs t.leaves).length c) = _ by rw [ptrs_len]), ?_, ?_⟩
  · have := hO.out
    rw [e1, List.nil_append] at this
    exact this
  · have g0 := World.grownBy_alloc w (.cells #[.slice none 0 0] 53) none
    exact ⟨hB.out.os, hB.out.tape, hB.out.output, Nat.le_trans g0.size hB.out.size, fun k hk _ => (hB.out.block k hk).trans (g0.block k hk (by simp))⟩

theorem own_Rd {base n c : Nat} {w : World} {A : Option Addr} {xs : List Value} {e : TypeId} (h : w.ownsRow base e 1 (.slice A n c) n xs) : Rd w A xs := by
  obtain ⟨A', c', e, h1, _⟩ := Rd.of_own h
  injection e with e
  subst e; exact h1

/-- Where the first of a pane stands. -/
def IdxPost (w : World) (l : List T) (pane : Int) (e : Ending) (w' : World) : Prop :=
  ∃ r : Int, e = .returned (.int .i64 r) ∧ w.grownBy w' none ∧ ((r = -1 ∧ ∀ s ∈ l, s.n.p ≠ pane) ∨ ∃ (j : Nat) (s : T), r = j ∧ l[j]? = some s ∧ s.n.p = pane ∧ ∀ s' ∈ l.take j, s'.n.p ≠ pane)

theorem isp_any (g hp : Nat) (p pane : Int) (w : World) (h0 : w.cell? ⟨g, 0, none⟩ = some (.int .i64 p)) (h1 : w.cell? ⟨hp, 0, none⟩ = some (.int .i64 pane)) :
    Calls Tryd.prog 58 #[ptr g, ptr hp] w fun e w' => e = .returned (.bool (p == pane)) ∧ w.grownBy w' none := by
  unfold ptr
  go_enter Tryd.func58, Tryd.ntmps58
  go_wp2_with fail
  go_quiet (fail)
  go_wp2_with fail
  go_ret
  exact ⟨rfl, ⟨rfl, rfl, rfl, Nat.le_refl _, fun _ _ _ => rfl⟩⟩

set_option maxHeartbeats 400000 in
theorem idxf_any (A : Option Addr) (len c hp : Nat) (l : List T) (pane : Int) (w : World) (hn : len = l.length) (hb : len ≤ 100000) (hR : Rd w A (ptrs l)) (hc : ∀ s ∈ l, w.cell? ⟨s.g, 0, none⟩ = some (.int .i64 s.n.p))
    (hh : w.cell? ⟨hp, 0, none⟩ = some (.int .i64 pane)) :
    Calls Tryd.prog 57 #[.slice A len c, .func (.func 58) #[] #[ptr hp]] w (IdxPost w l pane) := by
  replace hn := Lib.hid hn; replace hR := Lib.hid hR; replace hc := Lib.hid hc; replace hh := Lib.hid hh
  unfold ptr
  go_enter Tryd.func57, Tryd.ntmps57
  go_wp2_with fail
  go_loopw [8] (fun iv wr => ∃ j : Nat, j ≤ len ∧ iv = .int .i64 j ∧ Hid (w.grownBy wr none ∧ ∀ s ∈ l.take j, s.n.p ≠ pane)) (fun iv _ => len - (intOf iv).toNat)
  case atStart => exact ⟨0, Nat.zero_le _, rfl, Lib.hid ⟨World.grownBy.refl _ _, by simp⟩⟩
  case round =>
    obtain ⟨j, hj, rfl, hI⟩ := hrel
    by_cases hlt : j < len
    · obtain ⟨s, hs⟩ : ∃ s, l[j]? = some s := ⟨l[j]'(by rw [← hn.out]; exact hlt), List.getElem?_eq_getElem _⟩
      obtain ⟨b, off, rfl, _, hcell⟩ := hR.out.at_ (j := j) (u := ptr s.g) (by simp [ptrs, hs])
      have hcell' := hI.out.1.cell hcell (by simp)
      have h0 := hI.out.1.cell (hc.out s (List.mem_of_getElem? hs)) (by simp)
      have h1 := hI.out.1.cell hh.out (by simp)
      unfold ptr at hcell'
      clear hcell
      replace hs := Lib.hid hs
      have CC := Lib.hid (isp_any s.g hp s.n.p pane wr h0 h1)
      unfold ptr at CC
      obtain ⟨bb, hbb⟩ : ∃ bb, bb = (s.n.p == pane) := ⟨_, rfl⟩
      rw [← hbb] at CC
      replace hbb := Lib.hid hbb
      go_wp2_with fail
      refine CC.out.mono ?_
      rintro e w1 ⟨rfl, g1⟩
      replace g1 := Lib.hid g1
      cases bb
      · go_wp2_with fail
        refine ⟨⟨j + 1, by omega, by go_num, Lib.hid ⟨hI.out.1.trans g1.out, ?_⟩⟩, by simp [intOf]; omega⟩
        rw [take_succ' hs.out]
        intro s' hs'
        rcases List.mem_append.1 hs' with h | h
        · exact hI.out.2 s' h
        · simp only [List.mem_singleton] at h; subst h
          have := hbb.out; simpa using this.symm
      · go_wp2_with fail
        go_ret
        exact ⟨j, rfl, hI.out.1.trans g1.out, .inr ⟨j, s, rfl, hs.out, by have := hbb.out; simpa using this.symm, hI.out.2⟩⟩
    · have : j = len := by omega
      subst this
      go_wp2_with fail
      go_ret
      refine ⟨-1, rfl, hI.out.1, .inl ⟨rfl, ?_⟩⟩
      have := hI.out.2
      rwa [List.take_of_length_le (by rw [hn.out]; exact Nat.le_refl _)] at this

/-- The first leaf of a pane. -/
def T.find (t : T) (pane : Int) : Option T := t.leaves.find? (fun s => s.n.p == pane)
theorem find_of {l : List T} {pane : Int} {j : Nat} {s : T} (h : l[j]? = some s) (hp : s.n.p = pane) (hn : ∀ s' ∈ l.take j, s'.n.p ≠ pane) : l.find? (fun s => s.n.p == pane) = some s := by
  rw [List.find?_eq_some_iff_append]
  refine ⟨by simpa using hp, l.take j, l.drop (j + 1), ?_, fun a ha => by simpa using hn a ha⟩
  obtain ⟨hlt, he⟩ := List.getElem?_eq_some_iff.1 h
  conv => lhs; rw [← List.take_append_drop j l, List.drop_eq_getElem_cons hlt, he]
theorem mem_leavesL {s : T} {ks : List T} : s ∈ leavesL ks ↔ ∃ k ∈ ks, s ∈ k.leaves := by
  induction ks with
  | nil => simp [leavesL_nil]
  | cons k ks ih => simp [leavesL_cons, ih]
theorem mem_leaves : ∀ (t : T) (w : World) (up : Option Nat), TP w up t → ∀ s ∈ t.leaves, ∃ up', TP w up' s ∧ s.ks = [] ∧ ∀ b ∈ s.bl, b ∈ t.bl := by
  intro t
  induction t using T.ind with
  | h n ks ih =>
    intro w up hT s hs
    rw [T.leaves_mk] at hs
    rcases List.mem_append.1 hs with hs | hs
    · split at hs
      · simp only [List.mem_singleton] at hs
        subst hs
        exact ⟨up, hT, List.eq_nil_of_length_eq_zero (by assumption), fun b hb => hb⟩
      · cases hs
    · have := mem_leavesL.1 hs
      obtain ⟨k, hk, hs⟩ := this
      obtain ⟨up', h1, h2, h3⟩ := ih k hk w _ (TPs_iff.1 hT.kids k hk) s hs
      exact ⟨up', h1, h2, fun b hb => by rw [T.bl_mk]; simp only [List.mem_cons, List.mem_append]; exact .inr (.inr (mem_blL.2 ⟨k, hk, h3 b hb⟩))⟩
theorem leaf_c0 {t s : T} {w : World} {up : Option Nat} (hT : TP w up t) (hs : s ∈ t.leaves) : w.cell? ⟨s.g, 0, none⟩ = some (.int .i64 s.n.p) := by
  obtain ⟨up', h, _, _⟩ := mem_leaves t w up hT s hs
  cases s
  exact h.at_.c0

set_option maxHeartbeats 400000 in
theorem leaf_any (base tr : Nat) (t : T) (pane : Int) (w : World) (hT : Tr base w tr t) (hl : t.leaves.length ≤ 100000) :
    Calls Tryd.prog 29 #[ptr tr, .int .i64 pane] w fun e w' => e = .returned (uptr ((t.find pane).map T.g)) ∧ w.grownBy w' none := by
  have g0 := World.grownBy_alloc w (.cells #[.int .i64 pane] 3) none
  have CA := Lib.hid (all_any base tr t (w.alloc (.cells #[.int .i64 pane] 3)) (hT.grown g0) hl)
  replace hT := Lib.hid hT
  have hq : (w.alloc (.cells #[.int .i64 pane] 3)).cell? ⟨w.heap.size, 0, none⟩ = some (.int .i64 pane) := by unfold World.cell?; rw [heap_alloc_new]; rfl
  replace hq := Lib.hid hq; replace g0 := Lib.hid g0
  unfold ptr at *
  go_enter Tryd.func29, Tryd.ntmps29
  go_wp2_with fail
  refine CA.out.mono ?_
  rintro e w1 ⟨A, c, rfl, hO, hG⟩
  have hT1 := (hT.out.grown g0.out).grown hG
  have CI := Lib.hid (idxf_any A t.leaves.length c w.heap.size t.leaves pane w1 rfl hl (own_Rd hO) (fun s hs => leaf_c0 hT1.p hs) (hG.cell hq.out (by simp)))
  have hR := own_Rd hO
  replace hO := Lib.hid hO; replace hG := Lib.hid hG; replace hT1 := Lib.hid hT1; replace hR := Lib.hid hR
  clear CA
  unfold ptr at CI
  go_wp2_with fail
  refine CI.out.mono ?_
  rintro e w2 ⟨r, rfl, g2, hr⟩
  have gA := (g0.out.trans hG.out).trans g2
  replace gA := Lib.hid gA
  rcases hr with ⟨rfl, hr⟩ | ⟨j, s, rfl, hs, hp, hn⟩
  · replace hr := Lib.hid hr
    clear CI
    go_wp2_with fail
    go_ret
    refine ⟨?_, gA.out⟩
    have : t.find pane = none := by
      unfold T.find; rw [List.find?_eq_none]; intro s hs; simpa using hr.out s hs
    rw [this]; rfl
  · have hf := find_of hs hp hn
    obtain ⟨b, off, rfl, _, hcell⟩ := hR.out.at_ (j := j) (u := ptr s.g) (by simp [ptrs, hs])
    have hcell' := g2.cell hcell (by simp)
    have hlt : j < t.leaves.length := (List.getElem?_eq_some_iff.1 hs).1
    unfold ptr at hcell'
    replace hf := Lib.hid hf; replace hn := Lib.hid hn; replace g2 := Lib.hid g2; replace hs := Lib.hid hs
    clear CI hcell
    go_wp2_with fail
    go_ret
    refine ⟨?_, gA.out⟩
    unfold T.find
    rw [hf.out]; rfl
end Go.Proofs.YtcklmkjlbpjojaaDoor
namespace Go.Proofs.YtcklmkjlbpjojaaDoor
open Go.RowKit
set_option linter.unusedSimpArgs false
set_option linter.unusedVariables false

theorem has_any (base tr : Nat) (t : T) (pane : Int) (w : World) (hT : Tr base w tr t) (hl : t.leaves.length ≤ 100000) :
    Calls Tryd.prog 13 #[ptr tr, .int .i64 pane] w fun e w' => e = .returned (.bool (t.find pane).isSome) ∧ w.grownBy w' none := by
  have CA := Lib.hid (leaf_any base tr t pane w hT hl)
  unfold ptr at *
  go_enter Tryd.func13, Tryd.ntmps13
  go_wp2_with fail
  refine CA.out.mono ?_
  rintro e w1 ⟨rfl, hG⟩
  replace hG := Lib.hid hG
  clear CA
  cases hf : t.find pane
  · have e1 := ret_bool (show false = (t.find pane).isSome by rw [hf]; rfl)
    replace e1 := Lib.hid e1
    simp only [hf, Option.map_none, uptr]
    replace hf := Lib.hid hf
    go_wp2_with fail
    go_ret
    exact ⟨e1.out, hG.out⟩
  · have e1 := ret_bool (show true = (t.find pane).isSome by rw [hf]; rfl)
    replace e1 := Lib.hid e1
    simp only [hf, Option.map_some, uptr, ptr]
    replace hf := Lib.hid hf
    go_wp2_with fail
    go_ret
    exact ⟨e1.out, hG.out⟩

def mayB (a b : Int) : Bool := decide (1 ≤ a) && decide (a ≤ 250) && decide (1 ≤ b) && decide (b ≤ 120)
theorem may_any (a b : Int) (w : World) : Calls Tryd.prog 48 #[.int .i64 a, .int .i64 b] w fun e w' => e = .returned (.bool (mayB a b)) ∧ w = w' := by
  go_enter Tryd.func48, Tryd.ntmps48
  go_wp2
  all_goals (go_ret; exact ⟨ret_bool (by unfold mayB; simp; try omega), rfl⟩)
theorem wayOf_any (b : Bool) (w : World) : Calls Tryd.prog 30 #[.bool b] w fun e w' => e = .returned (.int .i64 (if b then 0 else 1)) ∧ w = w' := by
  cases b <;>
  · go_enter Tryd.func30, Tryd.ntmps30
    go_wp2
    go_ret
    exact ⟨rfl, rfl⟩
theorem leafUp_any (v : Value) (g : Nat) (u : Value) (w : World) (h : w.cell? ⟨g, 7, none⟩ = some u) : Calls Tryd.prog 33 #[v, ptr g] w fun e w' => e = .returned u ∧ w = w' := by
  unfold ptr
  go_enter Tryd.func33, Tryd.ntmps33
  go_wp2
  go_ret
  exact ⟨rfl, rfl⟩
/-- One pane's node. -/
def nd1 (g : Nat) (p a b : Int) : T := .mk ⟨g, none, 0, p, 0, 0, a, b, 0⟩ []
theorem new_any (a b p : Int) (w : World) (hm : mayB a b = true) (hp : 1 ≤ p) :
    Calls Tryd.prog 24 #[.int .i64 a, .int .i64 b, .int .i64 p] w fun e w' => ∃ tr g, e = .returned (.tuple #[ptr tr, .int .i64 0]) ∧ Tr w.heap.size w' tr (nd1 g p a b) ∧ w.grownBy w' none := by
  have CM := Lib.hid (may_any a b w)
  rw [hm] at CM
  have hp2 : ¬ p < 1 := by omega
  go_enter Tryd.func24, Tryd.ntmps24
  go_wp2_with fail
  refine CM.out.mono ?_
  rintro e w1 ⟨rfl, rfl⟩
  go_wp2_with fail
  go_ret2
  have g1 := World.grownBy_alloc w (.cells #[.int .i64 p, .int .i64 0, .int .i64 0, .int .i64 a, .int .i64 b, .int .i64 0, .slice none 0 0, .pointer none] 58) none
  have g2 := World.grownBy_alloc (w.alloc (.cells #[.int .i64 p, .int .i64 0, .int .i64 0, .int .i64 a, .int .i64 b, .int .i64 0, .slice none 0 0, .pointer none] 58)) (.cells #[ptr w.heap.size] 60) none
  have hA : At (w.alloc (.cells #[.int .i64 p, .int .i64 0, .int .i64 0, .int .i64 a, .int .i64 b, .int .i64 0, .slice none 0 0, .pointer none] 58)) none ⟨w.heap.size, none, 0, p, 0, 0, a, b, 0⟩ [] :=
    ⟨heap_alloc_new w _, World.ownsRow_nil _ _ _ _⟩
  refine ⟨w.heap.size + 1, w.heap.size, rfl, ⟨?_, (TP.mk hA (by rw [TPs]; trivial)).grown g2, ?_, ?_, ?_⟩, g1.trans g2⟩
  · have := heap_alloc_new (w.alloc (.cells #[.int .i64 p, .int .i64 0, .int .i64 0, .int .i64 a, .int .i64 b, .int .i64 0, .slice none 0 0, .pointer none] 58)) (.cells #[ptr w.heap.size] 60)
    have e : (w.alloc (.cells #[.int .i64 p, .int .i64 0, .int .i64 0, .int .i64 a, .int .i64 b, .int .i64 0, .slice none 0 0, .pointer none] 58)).heap.size = w.heap.size + 1 := by simp
    rw [e] at this
    exact this
  · simp [nd1, T.bl_mk, blL_nil]
  · simp [nd1, T.bl_mk, blL_nil]
  · simp [nd1, T.bl_mk, blL_nil]
theorem new_not (a b p : Int) (w : World) (h : ¬ (mayB a b = true ∧ 1 ≤ p)) :
    Calls Tryd.prog 24 #[.int .i64 a, .int .i64 b, .int .i64 p] w fun e w' => e = .returned (.tuple #[.pointer none, .int .i64 1]) ∧ w = w' := by
  have CM := Lib.hid (may_any a b w)
  cases hm : mayB a b
  · rw [hm] at CM
    replace h := Lib.hid h; replace hm := Lib.hid hm
    go_enter Tryd.func24, Tryd.ntmps24
    go_wp2_with fail
    refine CM.out.mono ?_
    rintro e w1 ⟨rfl, rfl⟩
    go_wp2_with fail
    go_ret2
    exact ⟨rfl, rfl⟩
  · rw [hm] at CM
    have hp : p < 1 := by rcases Int.lt_or_le p 1 with h1 | h1; exact h1; exact absurd ⟨hm, h1⟩ h
    replace h := Lib.hid h; replace hm := Lib.hid hm
    go_enter Tryd.func24, Tryd.ntmps24
    go_wp2_with fail
    refine CM.out.mono ?_
    rintro e w1 ⟨rfl, rfl⟩
    go_wp2_with fail
    go_ret2
    exact ⟨rfl, rfl⟩
/-- Which of n things a raw number speaks of. -/
def pickN (c : Int) (n : Nat) : Nat := ((if c < 0 then -(c + 1) else c) % n).toNat
theorem pickN_lt (c : Int) {n : Nat} (h : 0 < n) : pickN c n < n := by
  unfold pickN
  have h1 := Int.emod_lt_of_pos (if c < 0 then -(c + 1) else c) (b := n) (by omega)
  have h2 := Int.emod_nonneg (if c < 0 then -(c + 1) else c) (b := n) (by omega)
  omega
theorem pick_any (c : Int) (n : Nat) (w : World) (h1 : -9223372036854775808 ≤ c) (h2 : c ≤ 9223372036854775807) (hn : 0 < n) (hn2 : n ≤ 9223372036854775807) :
    Calls Tryd.prog 9 #[.int .i64 c, .int .i64 n] w fun e w' => e = .returned (.int .i64 (pickN c n)) ∧ w = w' := by
  have hp := Int.emod_nonneg (if c < 0 then -(c + 1) else c) (b := n) (by omega)
  have hq : (pickN c n : Int) = (if c < 0 then -(c + 1) else c) % n := by unfold pickN; omega
  have hn0 : ¬ ((n : Int) = 0) := by omega
  by_cases h : c < 0
  · rw [if_pos h] at hq
    have i1 : 0 ≤ -(c + 1) := by omega
    have i2 : -(c + 1) ≤ 9223372036854775807 := by omega
    replace hq := Lib.hid hq; replace hp := Lib.hid hp
    go_enter Tryd.func9, Tryd.ntmps9
    go_wp2
    go_ret
    exact ⟨ret_int (by have h2 := hq.out; rw [← Int.tmod_eq_emod_of_nonneg i1, Int.neg_tmod] at h2; exact h2.symm), rfl⟩
  · rw [if_neg h] at hq
    replace hq := Lib.hid hq; replace hp := Lib.hid hp
    go_enter Tryd.func9, Tryd.ntmps9
    go_wp2
    go_ret
    exact ⟨ret_int hq.out.symm, rfl⟩
end Go.Proofs.YtcklmkjlbpjojaaDoor
