/- Layout: leaves (what is called with each leaf appends it to a row), all. -/
import Derived.Test.YtcklmkjlbpjojaaDoorB
namespace Go.Proofs.YtcklmkjlbpjojaaDoor
open Go.RowKit
set_option linter.unusedSimpArgs false
set_option linter.unusedVariables false

theorem info55 : (Tryd.prog.info? 55).map (fun i => (i.zero, i.size, i.bytes)) = some (some (.pointer none), 1, 8) := by kernel_rfl
section
variable {ops : Array Oper} {rest : List Oper} {o : Oper} {a : Act} {Q : Exit → Act → World → Prop} {w : World}
/-- append at []*node. -/
theorem ap53 (hgd : o.guard = none) (s x : Operand) (ho : o.op = .call { callee := .builtin .append, args := #[s, x], argTypes := #[53, 53] })
    (base : Nat) (v : Value) (n : Nat) (xs : List Value) (hs : a.eval s = v) (hown : w.ownsRow base 55 1 v n xs)
    (A : Option Addr) (m c : Nat) (news : List Value) (hx : a.eval x = .slice A m c) (hl : news.length = m) (hr : Rd w A news) (h1 : ∀ u ∈ news, u.oneCell' = true)
    (hb : n + m ≤ 1099511627776) (hbase : base ≤ w.heap.size)
    (h : ∀ A' c' w', w'.ownsRow base 55 1 (.slice A' (n + m) c') (n + m) (xs ++ news) → w.grownBy w' v.ownBlock → (ablk A' = v.ownBlock ∨ ablk A' = some w.heap.size) → wpList Tryd.prog ops Q rest (a.put o.dst (.slice A' (n + m) c')) w') : wpList Tryd.prog ops Q (o :: rest) a w := by
  obtain ⟨i0, hi0, hz0, hz1, hz2⟩ := info_parts info55
  exact wpList_append_rd w hgd s x 53 ho base 55 i0 _ 1 8 Tryd.underlying53 hi0 hz0 hz1 hz2 rfl (by omega) v n xs hs hown A m c news hx (by omega) hr h1 (by unfold maxLen; omega) (by omega) hbase h
end

/-- A row of pointers in a variable of its own. -/
structure J (B : Nat) (w : World) (h : Nat) (xs : List Value) : Prop where
  r : ∃ A c, w.heap[h]? = some (.cells #[.slice A xs.length c] 53 (0, 0)) ∧ w.ownsRow B 55 1 (.slice A xs.length c) xs.length xs ∧ ablk A ≠ some h
  hB : B ≤ h

set_option maxHeartbeats 400000 in
theorem push_any (k h B : Nat) (xs : List Value) (w : World) (hJ : J B w h xs) (hl : xs.length ≤ 1000000) :
    Calls Tryd.prog 53 #[ptr k, ptr h] w fun e w' => e = .returned (.tuple #[]) ∧ J B w' h (xs ++ [ptr k]) ∧ Below B w w' := by
  obtain ⟨⟨A, c, hh, hO, hne⟩, hB⟩ := hJ
  have hlt := lt_of_heap hh
  have c0 : w.cell? ⟨h, 0, none⟩ = some (.slice A xs.length c) := by simp [World.cell?, hh]
  have hO1 : (w.alloc (.cells #[ptr k] 55)).ownsRow B 55 1 (.slice A xs.length c) xs.length xs := hO.alloc _
  have hR : Rd (w.alloc (.cells #[ptr k] 55)) (some ⟨w.heap.size, 0, none⟩) [ptr k] := fun _ => ⟨_, _, rfl, by simp, fun j u hj => by
    rcases j with _ | j
    · simp at hj; subst hj; unfold World.cell?; rw [heap_alloc_new]; rfl
    · simp at hj⟩
  replace hh := Lib.hid hh; replace hO1 := Lib.hid hO1; replace hR := Lib.hid hR; replace hne := Lib.hid hne
  have hmv : ∀ w2 : World, (w.alloc (.cells #[ptr k] 55)).grownBy w2 (Value.slice A xs.length c).ownBlock → w2.heap[h]? = some (.cells #[.slice A xs.length c] 53 (0, 0)) := fun w2 G => by
    rw [G.block h (by simp; omega) (by
      intro e
      rcases A with _ | ad
      · cases e
      · exact hne.out e.symm)]
    rw [(World.grownBy_alloc w _ none).block h hlt (by simp)]; exact hh.out
  have hs := hlt
  replace hmv := Lib.hid hmv
  unfold ptr at *
  go_enter Tryd.func53, Tryd.ntmps53
  go_wp2_with (first
    | (at_builtin; refine ap53 rfl (.tmp 3) (.tmp 5) rfl B (.slice A xs.length c) xs.length xs rfl hO1.out (some ⟨w.heap.size, 0, none⟩) 1 1 _ rfl rfl hR.out (by intro u hu; simp at hu; subst hu; rfl) (by omega) (by simp; omega) ?_; intro A2 c2 w2 O2 G2 hh2; have e2 := hmv.out w2 G2; have q2 : w2.cell? ⟨h, 0, none⟩ = some (.slice A xs.length c) := by simp [World.cell?, e2]
       have f2 : w2.frozen? ⟨h, 0, none⟩ = false := by simp [World.frozen?, e2]
       replace e2 := Lib.hid e2)
    | fail)
  go_end0
  have hlen : (xs ++ [Value.pointer (some ⟨k, 0, none⟩)]).length = xs.length + 1 := by simp
  have hA2 : ablk A2 ≠ some h := by
    rcases hh2 with e | e
    · rw [e]; rcases A with _ | ad
      · intro e; cases e
      · exact hne.out
    · rw [e]; intro e; injection e with e; simp at e; omega
  have hB1 : Below B w w2 := by
    refine ⟨G2.os, G2.tape, G2.output, by have := G2.size; simp at this; omega, fun j hj => ?_⟩
    rw [G2.block j (by simp; omega) (by intro e; have := (hO.lt j e.symm).1; omega), (World.grownBy_alloc w _ none).block j (by omega) (by simp)]
  refine ⟨rfl, ⟨⟨A2, c2, ?_, ?_, hA2⟩, hB⟩, ?_⟩
  · rw [hlen]
    simp [World.setCell, Array.getElem?_modify, e2.out]
  · rw [hlen]
    exact own_same O2 fun b hb => by
      have hbh : b ≠ h := by
        rintro rfl
        apply hA2
        rcases A2 with _ | ad
        · cases hb
        · exact hb
      rw [Below.heap_setCell _ _ _ _ (by simpa using hbh)]
  · exact ⟨hB1.os, hB1.tape, hB1.output, by simpa [World.setCell] using hB1.size, fun j hj => by
      rw [Below.heap_setCell _ _ _ _ (by show j ≠ h; omega)]
      exact hB1.block j hj⟩
end Go.Proofs.YtcklmkjlbpjojaaDoor
