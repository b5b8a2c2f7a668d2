/- Layout: a node's cells, read and set. Layout: leaves (what is called with each leaf appends it to a row), all. Layout: leaves, all. -/
import Derived.Test.YtcklmkjlbpjojaaGreatDoorBase
import Derived.Test.YtcklmkjlbpjojaaGreatDoorProg
import Derived.StillTailTactics
import Derived.Deep.DeepCutAuto
import Derived.Deep.CutBlock
namespace Go.Proofs.YtcklmkjlbpjojaaGreatDoor
open Go.RowKit
set_option linter.unusedSimpArgs false
set_option linter.unusedVariables false

section
variable {w : World} {up : Option Nat} {n : Nd} {ks : List T}
theorem At.cell (h : At w up n ks) (j : Nat) : w.cell? ⟨n.g, j, none⟩ = #[Value.int .i64 n.p, .int .i64 n.x, .int .i64 n.y, .int .i64 n.a, .int .i64 n.b, .int .i64 n.way, n.row ks.length, uptr up][j]? := by
  simp [World.cell?, h.h]
theorem At.free (h : At w up n ks) (j : Nat) : w.frozen? ⟨n.g, j, none⟩ = false := by
  simp [World.frozen?, h.h]
theorem At.c0 (h : At w up n ks) : w.cell? ⟨n.g, 0, none⟩ = some (.int .i64 n.p) := h.cell 0
theorem At.c1 (h : At w up n ks) : w.cell? ⟨n.g, 1, none⟩ = some (.int .i64 n.x) := h.cell 1
theorem At.c2 (h : At w up n ks) : w.cell? ⟨n.g, 2, none⟩ = some (.int .i64 n.y) := h.cell 2
theorem At.c3 (h : At w up n ks) : w.cell? ⟨n.g, 3, none⟩ = some (.int .i64 n.a) := h.cell 3
theorem At.c4 (h : At w up n ks) : w.cell? ⟨n.g, 4, none⟩ = some (.int .i64 n.b) := h.cell 4
theorem At.c5 (h : At w up n ks) : w.cell? ⟨n.g, 5, none⟩ = some (.int .i64 n.way) := h.cell 5
theorem At.c6 (h : At w up n ks) : w.cell? ⟨n.g, 6, none⟩ = some (.slice (adr n.A) ks.length n.c) := h.cell 6
theorem At.c7 (h : At w up n ks) : w.cell? ⟨n.g, 7, none⟩ = some (uptr up) := h.cell 7
theorem At.kid (h : At w up n ks) {i : Nat} {k : T} (hk : ks[i]? = some k) : ∃ b, n.A = some b ∧ w.cell? ⟨b, i, none⟩ = some (ptr k.g) := by
  rcases hA : n.A with _ | b
  · rcases h.r.2 with ⟨_, h0⟩ | ⟨g, cap, cur, hv, _⟩
    · have := (List.getElem?_eq_some_iff.1 hk).1; omega
    · simp [Nd.row, hA, adr] at hv
  · refine ⟨b, rfl, ?_⟩
    have := h.r.cells (g := b) (by rw [ownBlock_row, hA]) i (ptr k.g) (by simp [ptrs, hk])
    rwa [Addr.add_lit, Nat.zero_add] at this
theorem At.len (h : At w up n ks) : ks.length ≤ n.c ∧ n.c ≤ maxLen ∨ ks = [] := by
  rcases h.r.2 with ⟨_, h0⟩ | ⟨g, cap, cur, hv, _, _, hn, hm, _⟩
  · exact .inr (List.eq_nil_of_length_eq_zero h0)
  · simp only [Nd.row, Value.slice.injEq] at hv
    exact .inl ⟨by omega, by omega⟩
theorem At.small (h : At w up n ks) : ks.length ≤ 9223372036854775807 := by
  have hm : maxLen = 9223372036854775807 := rfl
  rcases h.len with h | h
  · omega
  · subst h; simp
end
end Go.Proofs.YtcklmkjlbpjojaaGreatDoor
namespace Go.Proofs.YtcklmkjlbpjojaaGreatDoor
open Go.RowKit
set_option linter.unusedSimpArgs false
set_option linter.unusedVariables false

theorem info55 : (Tryz.prog.info? 58).map (fun i => (i.zero, i.size, i.bytes)) = some (some (.pointer none), 1, 8) := by kernel_rfl
section
variable {ops : Array Oper} {rest : List Oper} {o : Oper} {a : Act} {Q : Exit → Act → World → Prop} {w : World}
/-- append at []*node. -/
theorem ap53 (hgd : o.guard = none) (s x : Operand) (ho : o.op = .call { callee := .builtin .append, args := #[s, x], argTypes := #[62, 62] })
    (base : Nat) (v : Value) (n : Nat) (xs : List Value) (hs : a.eval s = v) (hown : w.ownsRow base 58 1 v n xs)
    (A : Option Addr) (m c : Nat) (news : List Value) (hx : a.eval x = .slice A m c) (hl : news.length = m) (hr : Rd w A news) (h1 : ∀ u ∈ news, u.oneCell' = true)
    (hb : n + m ≤ 1099511627776) (hbase : base ≤ w.heap.size)
    (h : ∀ A' c' w', w'.ownsRow base 58 1 (.slice A' (n + m) c') (n + m) (xs ++ news) → w.grownBy w' v.ownBlock → (ablk A' = v.ownBlock ∨ ablk A' = some w.heap.size) → wpList Tryz.prog ops Q rest (a.put o.dst (.slice A' (n + m) c')) w') : wpList Tryz.prog ops Q (o :: rest) a w := by
  obtain ⟨i0, hi0, hz0, hz1, hz2⟩ := info_parts info55
  exact wpList_append_rd w hgd s x 62 ho base 58 i0 _ 1 8 Tryz.underlying62 hi0 hz0 hz1 hz2 rfl (by omega) v n xs hs hown A m c news hx (by omega) hr h1 (by unfold maxLen; omega) (by omega) hbase h
end

/-- A row of pointers in a variable of its own. -/
structure J (B : Nat) (w : World) (h : Nat) (xs : List Value) : Prop where
  r : ∃ A c, w.heap[h]? = some (.cells #[.slice A xs.length c] 62 (0, 0)) ∧ w.ownsRow B 58 1 (.slice A xs.length c) xs.length xs ∧ ablk A ≠ some h
  hB : B ≤ h

set_option maxHeartbeats 400000 in
theorem push_any (k h B : Nat) (xs : List Value) (w : World) (hJ : J B w h xs) (hl : xs.length ≤ 1000000) :
    Calls Tryz.prog 74 #[ptr k, ptr h] w fun e w' => e = .returned (.tuple #[]) ∧ J B w' h (xs ++ [ptr k]) ∧ Below B w w' := by
  obtain ⟨⟨A, c, hh, hO, hne⟩, hB⟩ := hJ
  have hlt := lt_of_heap hh
  have c0 : w.cell? ⟨h, 0, none⟩ = some (.slice A xs.length c) := by simp [World.cell?, hh]
  have hO1 : (w.alloc (.cells #[ptr k] 58)).ownsRow B 58 1 (.slice A xs.length c) xs.length xs := hO.alloc _
  have hR : Rd (w.alloc (.cells #[ptr k] 58)) (some ⟨w.heap.size, 0, none⟩) [ptr k] := fun _ => ⟨_, _, rfl, by simp, fun j u hj => by
    rcases j with _ | j
    · simp at hj; subst hj; unfold World.cell?; rw [heap_alloc_new]; rfl
    · simp at hj⟩
  replace hh := Lib.hid hh; replace hO1 := Lib.hid hO1; replace hR := Lib.hid hR; replace hne := Lib.hid hne
  have hmv : ∀ w2 : World, (w.alloc (.cells #[ptr k] 58)).grownBy w2 (Value.slice A xs.length c).ownBlock → w2.heap[h]? = some (.cells #[.slice A xs.length c] 62 (0, 0)) := fun w2 G => by
    rw [G.block h (by simp; omega) (by
      intro e
      rcases A with _ | ad
      · cases e
      · exact hne.out e.symm)]
    rw [(World.grownBy_alloc w _ none).block h hlt (by simp)]; exact hh.out
  have hs := hlt
  replace hmv := Lib.hid hmv
  unfold ptr at *
  go_enter Tryz.func74, Tryz.ntmps74
  go_wp2_with (first
    | (at_builtin; refine ap53 rfl (.tmp 3) (.tmp 5) rfl B (.slice A xs.length c) xs.length xs rfl hO1.out (some ⟨w.heap.size, 0, none⟩) 1 1 _ rfl rfl hR.out (by intro u hu; simp at hu; subst hu; rfl) (by omega) (by simp; omega) ?_; intro A2 c2 w2 O2 G2 hh2; have e2 := hmv.out w2 G2; have q2 : w2.cell? ⟨h, 0, none⟩ = some (.slice A xs.length c) := by simp [World.cell?, e2]
       have f2 : w2.frozen? ⟨h, 0, none⟩ = false := by simp [World.frozen?, e2]
       replace e2 := Lib.hid e2)
    | fail)
  go_end0
  have hlen : (xs ++ [Value.pointer (some ⟨k, 0, none⟩)]).length = xs.length + 1 := by simp
  have hA2 : ablk A2 ≠ some h := by
    rcases hh2 with e | e
    · rw [e]; rcases A with _ | ad
      · intro e; cases e
      · exact hne.out
    · rw [e]; intro e; injection e with e; simp at e; omega
  have hB1 : Below B w w2 := by
    refine ⟨G2.os, G2.tape, G2.output, by have := G2.size; simp at this; omega, fun j hj => ?_⟩
    rw [G2.block j (by simp; omega) (by intro e; have := (hO.lt j e.symm).1; omega), (World.grownBy_alloc w _ none).block j (by omega) (by simp)]
  refine ⟨rfl, ⟨⟨A2, c2, ?_, ?_, hA2⟩, hB⟩, ?_⟩
  · rw [hlen]
    simp [World.setCell, Array.getElem?_modify, e2.out]
  · rw [hlen]
    exact own_same O2 fun b hb => by
      have hbh : b ≠ h := by
        rintro rfl
        apply hA2
        rcases A2 with _ | ad
        · cases hb
        · exact hb
      rw [Below.heap_setCell _ _ _ _ (by simpa using hbh)]
  · exact ⟨hB1.os, hB1.tape, hB1.output, by simpa [World.setCell] using hB1.size, fun j hj => by
      rw [Below.heap_setCell _ _ _ _ (by show j ≠ h; omega)]
      exact hB1.block j hj⟩
end Go.Proofs.YtcklmkjlbpjojaaGreatDoor
namespace Go.Proofs.YtcklmkjlbpjojaaGreatDoor
open Go.RowKit
set_option linter.unusedSimpArgs false
set_option linter.unusedVariables false

def intOf : Value → Int | .int _ i => i | _ => 0
mutual
/-- The leaves, in order. -/
def T.leaves : T → List T
  | .mk n ks => (if ks.length = 0 then [.mk n ks] else []) ++ leavesL ks
def leavesL : List T → List T
  | [] => []
  | k :: ks => k.leaves ++ leavesL ks
end
theorem T.leaves_mk (n : Nd) (ks : List T) : (T.mk n ks).leaves = (if ks.length = 0 then [.mk n ks] else []) ++ leavesL ks := by rw [T.leaves]
theorem leavesL_nil : leavesL [] = [] := by rw [leavesL]
theorem leavesL_cons (k : T) (ks : List T) : leavesL (k :: ks) = k.leaves ++ leavesL ks := by rw [leavesL]
theorem leavesL_app (l r : List T) : leavesL (l ++ r) = leavesL l ++ leavesL r := by
  induction l with
  | nil => simp [leavesL_nil]
  | cons k l ih => simp [leavesL_cons, ih]
theorem take_succ' {α : Type} {l : List α} {i : Nat} {a : α} (h : l[i]? = some a) : l.take (i + 1) = l.take i ++ [a] := by
  rw [List.take_add_one, h]; rfl
theorem len_take_leaves (ks : List T) (i : Nat) : (leavesL (ks.take i)).length ≤ (leavesL ks).length := by
  conv => rhs; rw [← List.take_append_drop i ks, leavesL_app, List.length_append]
  omega

/-- What each is handed: a row's variable. -/
def pusher (h : Nat) : Value := .func (.func 74) #[] #[ptr h]

set_option maxHeartbeats 1000000 in
set_option maxRecDepth 100000 in
theorem leaves_any (h B : Nat) : ∀ (t : T) (up : Option Nat) (xs : List Value) (w : World), TP w up t → (∀ b ∈ t.bl, b < B) → J B w h xs → xs.length + t.leaves.length ≤ 100000 →
    Calls Tryz.prog 73 #[ptr t.g, pusher h] w fun e w' => e = .returned (.tuple #[]) ∧ J B w' h (xs ++ ptrs t.leaves) ∧ Below B w w' := by
  intro t
  induction t using T.ind with
  | h n ks ih =>
    intro up xs w hT hbl hJ hlen
    have hAt := hT.at_
    have hK := hT.kids
    have c6 := hAt.c6
    have hsm := hAt.small
    have hgB : n.g < B := hbl _ (by rw [T.bl_mk]; simp)
    have hlv : (T.mk n ks).leaves.length = (if ks.length = 0 then 1 else 0) + (leavesL ks).length := by
      rw [T.leaves_mk, List.length_append]; split <;> simp
    have hAB : ∀ b ∈ n.g :: n.A.toList, b < B := fun b hb => hbl b (by
      rw [T.bl_mk]; rcases List.mem_cons.1 hb with rfl | hb
      · simp
      · simp [Option.mem_toList.1 hb])
    have hKB : ∀ b ∈ blL ks, b < B := fun b hb => hbl b (by rw [T.bl_mk]; simp [hb])
    have hPU := Lib.hid (fun (hx : xs.length ≤ 1000000) => push_any n.g h B xs w hJ hx)
    obtain ⟨len, hln⟩ : ∃ len, len = ks.length := ⟨_, rfl⟩
    obtain ⟨AA, hAA⟩ : ∃ AA, AA = adr n.A := ⟨_, rfl⟩
    rw [← hln] at c6 hsm hlv
    rw [← hAA] at c6
    replace hAA := Lib.hid hAA
    have hend : (T.mk n ks).leaves = (if len = 0 then [.mk n ks] else []) ++ leavesL ks := by rw [T.leaves_mk, hln]
    replace hend := Lib.hid hend
    replace hln := Lib.hid hln; replace hAt := Lib.hid hAt; replace hK := Lib.hid hK; replace hbl := Lib.hid hbl; replace hJ := Lib.hid hJ; replace ih := Lib.hid ih; replace hAB := Lib.hid hAB; replace hKB := Lib.hid hKB
    clear hT
    show Calls Tryz.prog 73 #[ptr n.g, pusher h] w _
    unfold pusher ptr at *
    go_enter Tryz.func73, Tryz.ntmps73
    go_upto_if 11 with fail
    go_cut [] (fun wx => Hid (J B wx h (xs ++ ptrs (if len = 0 then [.mk n ks] else [])) ∧ Below B w wx))
    case first =>
      by_cases h0 : len = 0
      · subst h0
        have hx : xs.length ≤ 1000000 := by omega
        have hP := Lib.hid (hPU.out hx)
        go_wp2_with fail
        refine hP.out.mono ?_
        rintro e w1 ⟨rfl, hJ1, hB1⟩
        replace hJ1 := Lib.hid hJ1; replace hB1 := Lib.hid hB1
        go_wp2_with fail
        go_meet
        exact Lib.hid ⟨hJ1.out, hB1.out⟩
      · have hne : ¬ ((len : Int) = 0) := by omega
        have hneb : ((len : Int) == 0) = false := by simp; omega
        go_wp2_with fail
        go_meet
        rw [if_neg h0]
        exact Lib.hid ⟨by simpa [ptrs] using hJ.out, Below.refl _ _⟩
    case rest =>
      obtain ⟨hJ1, hB1⟩ := hcut.out
      have c6' := (hB1.cell (p := ⟨n.g, 6, none⟩) hgB).trans c6
      have hB0 := hB1
      replace hB1 := Lib.hid hB1; replace hJ1 := Lib.hid hJ1
      clear hcut c6
      go_wp2_with fail
      go_loopw [20] (fun iv wr => ∃ j : Nat, j ≤ len ∧ iv = .int .i64 j ∧ Hid (J B wr h (xs ++ ptrs (if len = 0 then [.mk n ks] else []) ++ ptrs (leavesL (ks.take j))) ∧ Below B w wr)) (fun iv _ => len - (intOf iv).toNat)
      case atStart => exact ⟨0, Nat.zero_le _, rfl, Lib.hid ⟨by simpa [ptrs, leavesL_nil] using hJ1.out, hB1.out⟩⟩
      case round =>
        obtain ⟨j, hj, rfl, hI⟩ := hrel
        by_cases hlt : j < len
        · obtain ⟨k, hk⟩ : ∃ k, ks[j]? = some k := ⟨ks[j]'(by rw [← hln.out]; exact hlt), List.getElem?_eq_getElem _⟩
          obtain ⟨b, hA, hc⟩ := hAt.out.kid hk
          have hbB : b < B := hAB.out b (by simp [hA])
          have hc2 := (hI.out.2.cell (p := ⟨b, j, none⟩) hbB).trans hc
          have hmem : k ∈ ks := List.mem_of_getElem? hk
          have hkT : TP wr (some n.g) k := (TPs_iff.1 hK.out k hmem).below hI.out.2 fun x hx => hKB.out x (mem_blL.2 ⟨k, hmem, hx⟩)
          have hle : (leavesL (ks.take (j + 1))).length ≤ (leavesL ks).length := len_take_leaves _ _
          have hsn : leavesL (ks.take (j + 1)) = leavesL (ks.take j) ++ k.leaves := by rw [take_succ' hk, leavesL_app, leavesL_cons, leavesL_nil, List.append_nil]
          have hib : (xs ++ ptrs (if len = 0 then [T.mk n ks] else []) ++ ptrs (leavesL (ks.take j))).length + k.leaves.length ≤ 100000 := by
            rw [hsn, List.length_append] at hle
            simp only [List.length_append, ptrs_len]
            split <;> split at hlv <;> simp <;> omega
          have CK := Lib.hid (ih.out k hmem (some n.g) _ wr hkT (fun x hx => hKB.out x (mem_blL.2 ⟨k, hmem, hx⟩)) hI.out.1 hib)
          have hAb : AA = some ⟨b, 0, none⟩ := by rw [hAA.out, hA]; rfl
          subst hAb
          replace hsn := Lib.hid hsn; replace hk := Lib.hid hk; replace hA := Lib.hid hA
          clear hkT hle hib
          unfold ptr at hc2 CK
          go_wp2_with fail
          refine CK.out.mono ?_
          rintro e w1 ⟨rfl, hJ2, hB2⟩
          replace hJ2 := Lib.hid hJ2; replace hB2 := Lib.hid hB2
          go_wp2_with fail
          refine ⟨⟨j + 1, by omega, by go_num, Lib.hid ⟨?_, hI.out.2.trans hB2.out⟩⟩, by simp [intOf]; omega⟩
          rw [hsn.out]
          have := hJ2.out
          simp only [ptrs, List.map_append, List.append_assoc] at this ⊢
          exact this
        · have : j = len := by omega
          subst this
          go_wp2_with fail
          go_end0
          refine ⟨rfl, ?_, hI.out.2⟩
          rw [hend.out]
          have := hI.out.1
          rw [List.take_of_length_le (by rw [hln.out]; exact Nat.le_refl _)] at this
          simp only [ptrs, List.map_append, List.append_assoc] at this ⊢
          exact this
end Go.Proofs.YtcklmkjlbpjojaaGreatDoor
