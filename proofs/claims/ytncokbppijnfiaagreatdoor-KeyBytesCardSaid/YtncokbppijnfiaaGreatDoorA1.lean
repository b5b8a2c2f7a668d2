/- Key: one byte appended to a row that a conversion has made. No walk. -/
import Derived.Test.YtncokbppijnfiaaGreatDoorM1
import Derived.Test.YtncokbppijnfiaaGreatDoorE3
import Derived.Lib.SlBytesConst
import Derived.Deep.AppendSrc
namespace Go.Proofs.YtncokbppijnfiaaGreatDoor
open Go.RowKit
set_option maxRecDepth 4000
set_option linter.unusedSimpArgs false
set_option linter.unusedVariables false

theorem g_row {w0 w1 w2 : World} {g : Nat} (h : w0.grownBy w1 none) (hg : w0.heap.size ≤ g) (h2 : w1.grownBy w2 (some g)) : w0.grownBy w2 none :=
  ⟨h2.os.trans h.os, h2.tape.trans h.tape, h2.output.trans h.output, Nat.le_trans h.size h2.size, fun k hk _ => (h2.block k (Nat.lt_of_lt_of_le hk h.size) (by intro e; injection e with e; omega)).trans (h.block k hk (by simp))⟩
/-- A row of bytes with a conversion's mark: c cells, the first are l. -/
def MB (w : World) (g c : Nat) (l : List UInt8) : Prop := ∃ C : Array Value, w.heap[g]? = some (.cells C 5 (C.size, C.size + 1)) ∧ C.size = c ∧ l.length ≤ c ∧ ∀ (j : Nat) (b : UInt8), l[j]? = some b → C[j]? = some (b8 b)
section
variable {w w' : World} {g c : Nat} {l : List UInt8}
theorem MB.lt (h : MB w g c l) : g < w.heap.size := by
  obtain ⟨C, h1, _⟩ := h
  exact (Array.getElem?_eq_some_iff.1 h1).1
theorem MB.grown (h : MB w g c l) (hg : w.grownBy w' none) : MB w' g c l := by
  have hlt := h.lt
  obtain ⟨C, h1, h2⟩ := h
  exact ⟨C, (hg.block g hlt (by simp)).trans h1, h2⟩
theorem MB.const (w : World) (l : List UInt8) : MB (w.alloc (.cells (bs l).toArray 5 ((bs l).toArray.size, (bs l).toArray.size + 1))) w.heap.size l.length l :=
  ⟨_, heap_alloc_new _ _, by simp [bs], Nat.le_refl _, fun j b hj => by simp [bs, hj]⟩
theorem MB.conv (w : World) (l : List UInt8) : MB (Lib.bytesWorld w 5 (st l)) w.heap.size (grownCap w l.length 0 5) l := by
  have hc : l.length ≤ grownCap w l.length 0 5 := grownCap_ge _ _ _ _
  refine ⟨_, Lib.bytesWorld_at_new w 5 (st l), ?_, hc, fun j b hj => ?_⟩
  · unfold Lib.bytesCells
    rw [st_size, Array.size_append, Array.size_replicate, Array.size_map]
    have : (st l).data.size = l.length := by simp [st]
    omega
  · have hj2 := (List.getElem?_eq_some_iff.1 hj).1
    unfold Lib.bytesCells
    rw [Array.getElem?_append_left (by simp [st]; exact hj2)]
    simp [st, hj, b8]
theorem MB.cell (h : MB w g c l) {j : Nat} {b : UInt8} (hj : l[j]? = some b) : w.cell? ⟨g, j, none⟩ = some (b8 b) := by
  obtain ⟨C, h1, _, _, h4⟩ := h
  unfold World.cell?
  rw [h1]
  simpa using h4 j b hj
theorem MB.rd (h : MB w g c l) : Rd w (some ⟨g, 0, none⟩) (bs l) := fun _ => ⟨g, 0, rfl, h.lt, fun j u hj => by
  rw [bs, List.getElem?_map] at hj
  cases hc : l[j]? with
  | none => rw [hc] at hj; simp at hj
  | some b =>
    rw [hc] at hj
    simp at hj
    subst hj
    rw [Nat.zero_add]
    exact h.cell hc⟩
theorem MB.append (h : MB w g c l) (hb : l.length ≤ 1000000) (A2 : Option Addr) (c2 : Nat) (b : UInt8) (hR : Rd w A2 (bs [b])) :
    ∃ A' c' w', (Builtin.append_ #[32, 32] 32 #[.slice (some ⟨g, 0, none⟩) l.length c, .slice A2 1 c2]).run Tryz.prog w = .ok (.slice A' (l.length + 1) c') w' ∧ Rd w' A' (bs (l ++ [b])) ∧ l.length + 1 ≤ c' ∧ w.grownBy w' (some g) := by
  obtain ⟨i0, hi0, hz0, hz1, hz2⟩ := info_parts info5
  obtain ⟨B2, o2, rfl, _, _⟩ := hR (by simp [bs])
  have hcell2 : ∀ j u, (bs [b])[j]? = some u → w.cell? ((⟨B2, o2, none⟩ : Addr).add j) = some u := by
    intro j u hu
    obtain ⟨b', off, e, _, hc⟩ := hR.at_ hu
    injection e with e
    injection e with e1 e2
    subst e1; subst e2
    rw [Addr.add_lit]; exact hc
  have hsrc : Src Tryz.prog i0.size 32 (.slice (some ⟨B2, o2, none⟩) 1 c2) 1 (bs [b]) w := Src.ofSlice w Tryz.underlying32 _ 1 c2 (bs [b]) (by rw [hz1]; rfl) hcell2 (bs_one _)
  have hlen : (bs [b]).length = 1 := rfl
  by_cases hroom : l.length + 1 ≤ c
  · have hcl := h
    obtain ⟨C, h1, h2, h3, h4⟩ := h
    have hsome : ∀ _ : Unit, w.heap[g]? = some (.cells C 5 (C.size, C.size + 1)) → (w.cell? ⟨g, 0 + l.length * 1 + 0, none⟩) = C[l.length]? := fun _ h => by
      unfold World.cell?; rw [h]; simp
    have hrun := run_append_room_src (P := Tryz.prog) (w := w) 32 32 32 5 i0 Tryz.underlying32 hi0 g 0 l.length c (.slice (some ⟨B2, o2, none⟩) 1 c2) 1 (bs [b]) hsrc hroom
      (fun j hj => by
        have : j = 0 := by rw [hlen] at hj; omega
        subst this
        rw [hz1, hsome () h1]
        have : l.length < C.size := by omega
        simp [this])
      (fun j hj => by
        have : j = 0 := by rw [hlen] at hj; omega
        subst this
        rw [hz1]
        unfold World.frozen?
        rw [h1]
        simp
        intro _; omega)
    rw [hz1] at hrun
    have e1 : w.setCells g (0 + l.length * 1) (bs [b]) = w.setCell ⟨g, l.length, none⟩ (b8 b) := by
      rw [Nat.zero_add, Nat.mul_one]; rfl
    rw [e1] at hrun
    refine ⟨_, _, _, hrun, ?_, hroom, g_set (a := ⟨g, l.length, none⟩) (World.grownBy.refl w _) rfl _⟩
    intro _
    refine ⟨g, 0, rfl, by simpa [World.setCell] using hcl.lt, fun j u hj => ?_⟩
    have h5 := heap_set (j := l.length) h1 (b8 b)
    unfold World.cell?
    rw [h5, Nat.zero_add]
    rw [bs, List.getElem?_map] at hj
    rw [List.getElem?_append] at hj
    show (C.setIfInBounds l.length (b8 b))[j]? = some u
    rw [Array.getElem?_setIfInBounds]
    split at hj
    · rename_i hjl
      rw [if_neg (by omega)]
      cases hx : l[j]? with
      | none => rw [hx] at hj; simp at hj
      | some x =>
        rw [hx] at hj
        simp at hj
        subst hj
        exact h4 j x hx
    · rename_i hjl
      cases hx : ([b] : List UInt8)[j - l.length]? with
      | none => rw [hx] at hj; simp at hj
      | some x =>
        have hj0 : j - l.length = 0 := by
          have := (List.getElem?_eq_some_iff.1 hx).1
          simp at this; omega
        rw [hx] at hj
        rw [hj0] at hx
        simp at hx hj
        subst hx
        subst hj
        rw [if_pos (by omega), if_pos (by omega)]
  · have hc : c = l.length := by
      obtain ⟨C, h1, h2, h3, h4⟩ := h
      omega
    have holds : (Builtin.firstCells i0.size l.length (.slice (some ⟨g, 0, none⟩) l.length c)).run Tryz.prog w.drew = .ok (bs l).toArray w.drew := by
      refine run_firstCells_some w.drew i0.size l.length ⟨g, 0, none⟩ l.length c (bs l) (by rw [hz1, bs_len]; omega) (fun j u hj => ?_)
      obtain ⟨b', off, e, _, hcc⟩ := h.rd.at_ hj
      injection e with e
      injection e with e1 e2
      subst e1; subst e2
      rw [Addr.add_lit]; exact hcc
    have hrun := run_append_grow_src (P := Tryz.prog) (w := w) 32 32 32 5 i0 _ Tryz.underlying32 hi0 hz0 (some ⟨g, 0, none⟩) l.length c (bs l) holds (.slice (some ⟨B2, o2, none⟩) 1 c2) 1 (bs [b]) hsrc (by omega) (by omega)
      (by
        rw [hz2]
        have := nextslicecap_le (need := l.length + 1) (old := c) (by omega)
        omega)
    refine ⟨_, _, _, hrun, ?_, ?_, ?_⟩
    · intro _
      refine ⟨w.heap.size, 0, rfl, by simp, fun j u hj => ?_⟩
      unfold World.cell?
      rw [show (w.drew.alloc (.cells ((bs l ++ bs [b]).toArray ++ Builtin.zeroCells (Value.int .u8 0).cells (grownCap w (l.length + 1) c 5 - (l.length + 1))) 5)).heap[w.heap.size]? = _ from heap_alloc_new w.drew _]
      have hj2 : j < (bs l ++ bs [b]).length := by
        have := (List.getElem?_eq_some_iff.1 hj).1
        rwa [bs_append] at this
      rw [Nat.zero_add]
      show ((bs l ++ bs [b]).toArray ++ _)[j]? = some u
      rw [Array.getElem?_append_left (by simpa using hj2)]
      rw [bs_append] at hj
      simpa using hj
    · have := grownCap_ge w (l.length + 1) c 5; omega
    · exact (g_drew (World.grownBy.refl w none)).but (some g) |>.trans ((World.grownBy_alloc w.drew _ none).but (some g))
end
theorem wpList_append_mb {ops : Array Oper} {rest : List Oper} {o : Oper} {a : Act} {Q : Exit → Act → World → Prop} {w : World} (hgd : o.guard = none) (s x : Operand)
    (ho : o.op = .call { callee := .builtin .append, args := #[s, x], argTypes := #[32, 32] }) (hty : o.type = 32) (g n c : Nat) (l : List UInt8) (hn : n = l.length) (hs : a.eval s = .slice (some ⟨g, 0, none⟩) n c)
    (A2 : Option Addr) (c2 : Nat) (b : UInt8) (hx : a.eval x = .slice A2 1 c2) (hM : MB w g c l) (hb : l.length ≤ 1000000) (hR : Rd w A2 (bs [b]))
    (h : ∀ A' c' w', Rd w' A' (bs (l ++ [b])) → n + 1 ≤ c' → w.grownBy w' (some g) → wpList Tryz.prog ops Q rest (a.put o.dst (.slice A' (n + 1) c')) w') : wpList Tryz.prog ops Q (o :: rest) a w :=
  wpList_plain hgd fun _ hK => by
    subst hn
    obtain ⟨A', c', w', hrun, h1, h2, h3⟩ := hM.append hb A2 c2 b hR
    unfold Oper.wp execOp
    simp only [ho, hty, resolve, invoke, builtin, Sem.run_bind, Sem.run_pure, Result.andThen_ok, List.map_toArray, List.map_cons, List.map_nil, hs, hx, hrun]
    exact hK _ _ (h A' c' w' h1 h2 h3)
end Go.Proofs.YtncokbppijnfiaaGreatDoor
