/- Format: a strings.Builder that a call has made: copyCheck, WriteString, Len, String: only its own blocks are touched. -/
import Derived.Test.YtfhdfhlabkeipaaGreatDoorC11
import Derived.Lib.Builder
import Derived.Lib.UnsafeStr
namespace Go.Proofs.YtfhdfhlabkeipaaGreatDoor
open Go.RowKit
set_option linter.unusedSimpArgs false
set_option linter.unusedVariables false

theorem nilU (W : World) (q : Option Addr) : (Builtin.unsafeString_ #[110, 3] 9 #[.pointer q, .int .i64 0]).run Tryz.prog W = .ok (.string .empty) W := Lib.run_unsafeString_none W _ _ _ q
/-- The builder at block bb: its bytes at v. -/
def Bd (base bb : Nat) (w : World) (v : Value) (l : B) : Prop :=
  ∃ p, (p = .pointer none ∨ p = .pointer (some ⟨bb, 0, none⟩)) ∧ base ≤ bb ∧ w.heap[bb]? = some (.cells #[p, v] 95 (0, 0)) ∧ w.ownsRow base 5 1 v l.length (bs l) ∧ v.ownBlock ≠ some bb
/-- All that stood there stands, but for the blocks in r. -/
structure Fr (r : Nat → Prop) (w w' : World) : Prop where
  os : w'.os = w.os
  tape : w'.tape = w.tape
  output : w'.output = w.output
  size : w.heap.size ≤ w'.heap.size
  block : ∀ k, k < w.heap.size → ¬ r k → w'.heap[k]? = w.heap[k]?
theorem Fr.refl (r : Nat → Prop) (w : World) : Fr r w w := ⟨rfl, rfl, rfl, Nat.le_refl _, fun _ _ _ => rfl⟩
theorem Fr.trans {r : Nat → Prop} {w w1 w2 : World} (h : Fr r w w1) (g : Fr r w1 w2) : Fr r w w2 :=
  ⟨g.os.trans h.os, g.tape.trans h.tape, g.output.trans h.output, Nat.le_trans h.size g.size, fun k hk hr => (g.block k (Nat.lt_of_lt_of_le hk h.size) hr).trans (h.block k hk hr)⟩
theorem Fr.of_grown {r : Nat → Prop} {w w1 : World} {row : Option Nat} (g : w.grownBy w1 row) (hr : ∀ b, row = some b → r b) : Fr r w w1 :=
  ⟨g.os, g.tape, g.output, g.size, fun k hk hn => g.block k hk fun e => hn (hr k e.symm)⟩
theorem Fr.mono_ {r r' : Nat → Prop} {w w1 : World} (h : Fr r w w1) (hr : ∀ k, r k → r' k) : Fr r' w w1 := ⟨h.os, h.tape, h.output, h.size, fun k hk hn => h.block k hk fun e => hn (hr k e)⟩
theorem Fr.set {r : Nat → Prop} (w : World) (b k : Nat) (v : Value) (hr : r b) : Fr r w (w.setCell ⟨b, k, none⟩ v) :=
  ⟨rfl, rfl, rfl, by simp [World.setCell], fun j _ h => by
    simp only [World.setCell, Array.getElem?_modify]
    rw [if_neg (fun e => h (by rw [← e]; exact hr))]⟩
theorem Fr.freeze {r : Nat → Prop} (w : World) (p : Addr) (n : Nat) (hr : r p.block) : Fr r w (w.freeze p n) := by
  have h := Lib.below_freeze (Below.refl p.block w) (p := p) (Nat.le_refl _) n
  refine ⟨h.os, h.tape, h.output, h.size, fun j _ hj => ?_⟩
  have hne : ¬ p.block = j := fun e => hj (by rw [← e]; exact hr)
  simp only [World.freeze]
  split
  · rfl
  · simp only [Array.getElem?_modify]
    rw [if_neg hne]
/-- The blocks of a builder. -/
def bdR (bb : Nat) (v : Value) (k : Nat) : Prop := k = bb ∨ v.ownBlock = some k
theorem bd_set {w : World} {b k : Nat} {c : Array Value} {t : TypeId} {z : Nat × Nat} (h : w.heap[b]? = some (.cells c t z)) (v : Value) : (w.setCell ⟨b, k, none⟩ v).heap[b]? = some (.cells (c.setIfInBounds k v) t z) := by
  simp only [World.setCell, Array.getElem?_modify, if_true, h, Option.map_some]
  rfl
theorem bd_set_other {w : World} {b k j : Nat} (h : j ≠ b) (v : Value) : (w.setCell ⟨b, k, none⟩ v).heap[j]? = w.heap[j]? := by
  simp only [World.setCell, Array.getElem?_modify]
  rw [if_neg (fun e => h e.symm)]

set_option maxRecDepth 100000 in
set_option maxHeartbeats 1000000 in
theorem copyCheck_any (bb : Nat) (p v : Value) (w : World) (hp : p = .pointer none ∨ p = .pointer (some ⟨bb, 0, none⟩)) (hb : w.heap[bb]? = some (.cells #[p, v] 95 (0, 0))) :
    Calls Tryz.prog 80 #[.pointer (some ⟨bb, 0, none⟩)] w fun e w' => e = .returned (.tuple #[]) ∧ Fr (fun k => k = bb) w w' ∧ w'.heap[bb]? = some (.cells #[.pointer (some ⟨bb, 0, none⟩), v] 95 (0, 0)) := by
  obtain ⟨j, hj, hjs⟩ : ∃ j, Tryz.prog.info? 95 = some j ∧ j.size = 2 := by
    have : (Tryz.prog.info? 95).map (fun i => i.size) = some 2 := by kernel_rfl
    exact Option.map_eq_some_iff.1 this
  have c0 : w.cell? ⟨bb, 0, none⟩ = some p := by rw [cell_of_heap hb]; rfl
  have hsh : w.shape? bb = some (95, 2) := by simp [World.shape?, hb]
  have hfz : w.frozen? ⟨bb, 0, none⟩ = false := free_of_heap hb 0
  have hset := bd_set (k := 0) hb (.pointer (some ⟨bb, 0, none⟩))
  have hfr : Fr (fun k => k = bb) w (w.setCell ⟨bb, 0, none⟩ (.pointer (some ⟨bb, 0, none⟩))) := Fr.set w bb 0 _ rfl
  rcases hp with rfl | rfl
  · replace hset := Lib.hid hset; replace hfr := Lib.hid hfr
    have hu := Lib.run_to_unsafe (P := Tryz.prog) w ⟨bb, 0, none⟩ Tryz.underlying93 Tryz.underlying128 hj (by rw [hjs]; decide) hsh (Nat.zero_lt_succ 1)
    have hf := Lib.run_from_unsafe (P := Tryz.prog) w ⟨bb, 0, none⟩ Tryz.underlying128 Tryz.underlying93 hj hsh (by kernel_rfl)
    replace hb := Lib.hid hb
    go_enter Tryz.func80, Tryz.ntmps80
    go_wp2_with fail
    rw [run_callFunc_extern Tryz.func101 (by kernel_rfl) (by kernel_rfl) (by kernel_rfl) (e := Extern.AbiNoEscape.same) (by kernel_rfl)]
    rw [Lib.run_noEscape]
    simp only [Result.andThen]
    rw [Oper.upon_value]
    go_wp2_with fail
    go_end0
    exact ⟨rfl, hfr.out, hset.out⟩
  · have hneq := Lib.run_neq_ptr_same (P := Tryz.prog) w ⟨bb, 0, none⟩ Tryz.underlying93 hj
    replace hset := Lib.hid hset; replace hfr := Lib.hid hfr
    have hb' := Lib.hid hb
    clear hb
    go_enter Tryz.func80, Tryz.ntmps80
    go_wp2_with fail
    go_end0
    exact ⟨rfl, Fr.refl _ _, hb'.out⟩
set_option maxRecDepth 100000 in
set_option maxHeartbeats 1000000 in
theorem bdLen_any (base bb : Nat) (v : Value) (l : B) (w : World) (h : Bd base bb w v l) :
    Calls Tryz.prog 70 #[.pointer (some ⟨bb, 0, none⟩)] w fun e w' => e = .returned (.int .i64 (l.length : Int)) ∧ w' = w := by
  obtain ⟨p, hp, hB, hb, hO, hne⟩ := h
  obtain ⟨A, c, rfl, hR, _⟩ := Rd.of_own hO
  have c1 : w.cell? ⟨bb, 1, none⟩ = some (.slice A l.length c) := by rw [cell_of_heap hb]; rfl
  replace hb := Lib.hid hb; replace hO := Lib.hid hO; replace hR := Lib.hid hR; replace hne := Lib.hid hne; replace hp := Lib.hid hp
  go_enter Tryz.func70, Tryz.ntmps70
  go_wp2_with fail
  go_ret
  exact ⟨rfl, rfl⟩
set_option maxRecDepth 100000 in
set_option maxHeartbeats 2000000 in
theorem bdWrite_any (base bb : Nat) (v : Value) (l s : B) (w : World) (h : Bd base bb w v l) (hl : l.length ≤ 100000) (hs : s.length ≤ 100000) (hBw : base ≤ w.heap.size) :
    Calls Tryz.prog 69 #[.pointer (some ⟨bb, 0, none⟩), .string (st s)] w fun e w' => e = .returned (.tuple #[.int .i64 (s.length : Int), .nilIface]) ∧ Fr (bdR bb v) w w' ∧ ∃ v', Bd base bb w' v' (l ++ s) := by
  obtain ⟨p, hp, hB, hb, hO, hne⟩ := h
  have CC := Lib.hid (copyCheck_any bb p v w hp hb)
  have hZ : (st s).size = s.length := st_size s
  obtain ⟨S, hS⟩ : ∃ S, S = st s := ⟨_, rfl⟩
  rw [← hS] at hZ
  rw [← hS]
  obtain ⟨A, c, rfl, hR, hab, hc1, hc2⟩ := Rd.of_own hO
  obtain ⟨n, hn⟩ : ∃ n, n = s.length := ⟨_, rfl⟩
  rw [← hn] at hZ ⊢
  replace hb := Lib.hid hb; replace hO := Lib.hid hO; replace hR := Lib.hid hR; replace hne := Lib.hid hne; replace hp := Lib.hid hp; replace hS := Lib.hid hS; replace hab := Lib.hid hab; replace hn := Lib.hid hn
  have hlt : bb < w.heap.size := (Array.getElem?_eq_some_iff.1 hb.out).1
  go_enter Tryz.func69, Tryz.ntmps69
  go_wp2_with fail
  refine CC.out.mono ?_
  rintro e w1 ⟨rfl, F1, hb1⟩
  have c1 : w1.cell? ⟨bb, 1, none⟩ = some (.slice A l.length c) := by rw [cell_of_heap hb1]; rfl
  have hO1 : w1.ownsRow base 5 1 (.slice A l.length c) l.length (bs l) := own_same hO.out fun b hb => F1.block b (own_lt hO.out hb).2 (fun e => hne.out (by rw [hb, e]))
  replace hO1 := Lib.hid hO1; replace F1 := Lib.hid F1; replace hb1 := Lib.hid hb1
  go_wp2_with (at_builtin; refine ap35s rfl (.tmp 12) (.tmp 13) rfl base (.slice A l.length c) l.length (bs l) rfl hO1.out s (by rw [← hS.out]; rfl) (by omega) (by omega) (Nat.le_trans hBw F1.out.size) ?_)
  intro A2 c2 w2 h1 h2
  replace h1 := Lib.hid h1; replace h2 := Lib.hid h2
  have hb2 : w2.heap[bb]? = some (.cells #[.pointer (some ⟨bb, 0, none⟩), .slice A l.length c] 95 (0, 0)) := by
    rw [h2.out.block bb (Nat.lt_of_lt_of_le hlt F1.out.size) (fun e => hne.out e.symm)]
    exact hb1.out
  have f1 : w2.frozen? ⟨bb, 1, none⟩ = false := free_of_heap hb2 1
  have d1 : w2.cell? ⟨bb, 1, none⟩ = some (.slice A l.length c) := by rw [cell_of_heap hb2]; rfl
  have hb2' := Lib.hid hb2
  clear hb2
  go_wp2_with fail
  go_ret2
  have hneA : (Value.slice A2 (l.length + s.length) c2).ownBlock ≠ some bb := fun e => by
    rcases h1.out.2 with ⟨hh, _⟩ | ⟨g, cap, cur, hh, _, hg, _⟩
    · rw [hh] at e; cases e
    · rw [hh] at e
      have : g = bb := by simpa [Value.ownBlock] using e
      subst this
      rw [hb2'.out] at hg
      injection hg with hg
      injection hg with _ ht
      cases ht
  refine ⟨rfl, ((F1.out.mono_ (fun k e => .inl e)).trans (Fr.of_grown h2.out fun b e => .inr e)).trans (Fr.set _ bb 1 _ (.inl rfl)), .slice A2 (l.length + s.length) c2, ⟨.pointer (some ⟨bb, 0, none⟩), .inr rfl, hB, ?_, ?_, hneA⟩⟩
  · rw [bd_set hb2'.out]; rfl
  · rw [List.length_append, bs_append]
    exact own_same h1.out fun b e => bd_set_other (fun e2 => hneA (by rw [e, e2])) _

set_option maxRecDepth 100000 in
set_option maxHeartbeats 2000000 in
theorem bdString_any (base bb : Nat) (v : Value) (l : B) (w : World) (h : Bd base bb w v l) (hl : l.length ≤ 100000) :
    Calls Tryz.prog 71 #[.pointer (some ⟨bb, 0, none⟩)] w fun e w' => e = .returned (.string (st l)) ∧ Fr (bdR bb v) w w' := by
  obtain ⟨p, hp, hB, hb, hO, hne⟩ := h
  have hlt : bb < w.heap.size := (Array.getElem?_eq_some_iff.1 hb).1
  have hUN := nilU
  rcases l with _ | ⟨x, r⟩
  · rcases hO.2 with ⟨rfl, _⟩ | ⟨g, cap, cur, rfl, hbg, hg, hnc, hcm, hcs, htake⟩
    · have c1 : w.drew.cell? ⟨bb, 1, none⟩ = some (.slice none 0 0) := by
        have : w.drew.heap[bb]? = some (.cells #[p, .slice none 0 0] 95 (0, 0)) := hb
        rw [cell_of_heap this]; rfl
      have hSD : (Builtin.unsafeSliceData_ #[35] 110 #[.slice none 0 0]).run Tryz.prog w.drew = .ok (.pointer none) w.drew := rfl
      replace hb := Lib.hid hb; replace hO := Lib.hid hO; replace hne := Lib.hid hne; replace hp := Lib.hid hp
      go_enter Tryz.func71, Tryz.ntmps71
      go_wp2_with fail
      go_region
      all_goals (go_wp2_with fail; go_ret; exact ⟨rfl, Fr.of_grown (g_drew (World.grownBy.refl w none)) (by intro b e; cases e)⟩)
    · by_cases hc0 : cap = 0
      · subst hc0
        have c1 : w.drew.cell? ⟨bb, 1, none⟩ = some (.slice (some ⟨g, 0, none⟩) 0 0) := by
          have : w.drew.heap[bb]? = some (.cells #[p, .slice (some ⟨g, 0, none⟩) 0 0] 95 (0, 0)) := hb
          rw [cell_of_heap this]; rfl
        have hSD : (Builtin.unsafeSliceData_ #[35] 110 #[.slice (some ⟨g, 0, none⟩) 0 0]).run Tryz.prog w.drew = .ok (.pointer (some ⟨w.drew.heap.size, 0, none⟩)) (w.drew.alloc (.view ⟨g, 0, none⟩ 5)) :=
          Lib.run_unsafeSliceData_zero w.drew _ _ 5 Tryz.underlying110 ⟨g, 0, none⟩ 0 (5, cur.size) (by have hg' : w.drew.heap[g]? = some (.cells cur 5 (0, 0)) := hg; simp [World.shape?, hg'])
        have c2 : (w.drew.alloc (.view ⟨g, 0, none⟩ 5)).cell? ⟨bb, 1, none⟩ = some (.slice (some ⟨g, 0, none⟩) 0 0) := by
          have : (w.drew.alloc (.view ⟨g, 0, none⟩ 5)).heap[bb]? = _ := (Lib.alloc_old w.drew _ bb hlt).trans hb
          rw [cell_of_heap this]; rfl
        have c3 : (w.alloc (.view ⟨g, 0, none⟩ 5)).drew.cell? ⟨bb, 1, none⟩ = some (.slice (some ⟨g, 0, none⟩) 0 0) := c2
        have c0 : w.cell? ⟨bb, 1, none⟩ = some (.slice (some ⟨g, 0, none⟩) 0 0) := c1
        replace hb := Lib.hid hb; replace hO := Lib.hid hO; replace hne := Lib.hid hne; replace hp := Lib.hid hp; replace hg := Lib.hid hg
        go_enter Tryz.func71, Tryz.ntmps71
        go_wp2_with fail
        go_region
        all_goals (go_wp2_with fail; go_ret; exact ⟨rfl, Fr.of_grown (g_alloc (g_drew (World.grownBy.refl w none)) _) (by intro b e; cases e)⟩)
      · have c1 : w.drew.cell? ⟨bb, 1, none⟩ = some (.slice (some ⟨g, 0, none⟩) 0 cap) := by
          have : w.drew.heap[bb]? = some (.cells #[p, .slice (some ⟨g, 0, none⟩) 0 cap] 95 (0, 0)) := hb
          rw [cell_of_heap this]; rfl
        have hSD : (Builtin.unsafeSliceData_ #[35] 110 #[.slice (some ⟨g, 0, none⟩) 0 cap]).run Tryz.prog w.drew = .ok (.pointer (some ⟨g, 0, none⟩)) w.drew :=
          Lib.run_unsafeSliceData_row _ _ _ _ _ _ hc0
        clear hc0
        replace hb := Lib.hid hb; replace hO := Lib.hid hO; replace hne := Lib.hid hne; replace hp := Lib.hid hp; replace hg := Lib.hid hg
        go_enter Tryz.func71, Tryz.ntmps71
        go_wp2_with fail
        go_region
        all_goals (go_wp2_with fail; go_ret; exact ⟨rfl, Fr.of_grown (g_drew (World.grownBy.refl w none)) (by intro b e; cases e)⟩)
  · obtain ⟨l, hl2⟩ : ∃ l, l = x :: r := ⟨_, rfl⟩
    have h0 : l ≠ [] := by rw [hl2]; simp
    rw [← hl2] at hO hl ⊢
    obtain ⟨n, hn⟩ : ∃ n, n = l.length := ⟨_, rfl⟩
    have hn0 : 0 < n := by rw [hn, hl2]; simp
    rw [← hn] at hO hl
    obtain ⟨g, cap, cur, rfl, hbg, hg, hnc, hcm, hcs, htake⟩ : ∃ g cap cur, v = .slice (some ⟨g, 0, none⟩) n cap ∧ base ≤ g ∧ w.heap[g]? = some (.cells cur 5 (0, 0)) ∧ n ≤ cap ∧ cap ≤ maxLen ∧ cur.size = cap * 1 ∧ cur.toList.take (n * 1) = bs l := by
      rcases hO.2 with ⟨_, hz⟩ | ⟨g, cap, cur, hv, r⟩
      · omega
      · exact ⟨g, cap, cur, hv, r⟩
    have c1 : w.drew.cell? ⟨bb, 1, none⟩ = some (.slice (some ⟨g, 0, none⟩) n cap) := by
      have : w.drew.heap[bb]? = some (.cells #[p, .slice (some ⟨g, 0, none⟩) n cap] 95 (0, 0)) := hb
      rw [cell_of_heap this]; rfl
    have hSD : (Builtin.unsafeSliceData_ #[35] 110 #[.slice (some ⟨g, 0, none⟩) n cap]).run Tryz.prog w.drew = .ok (.pointer (some ⟨g, 0, none⟩)) w.drew :=
      Lib.run_unsafeSliceData_row _ _ _ _ _ _ (by omega)
    have hUS : (Builtin.unsafeString_ #[110, 3] 9 #[.pointer (some ⟨g, 0, none⟩), .int .i64 n]).run Tryz.prog w.drew = .ok (.string (st l)) (w.drew.freeze ⟨g, 0, none⟩ n) := by
      rw [hn]
      refine Lib.run_unsafeString_row w.drew 110 3 9 5 Tryz.underlying110 (by kernel_rfl) g cur.size (by have hg' : w.drew.heap[g]? = some (.cells cur 5 (0, 0)) := hg; simp [World.shape?, hg']) l h0 (by omega) (by unfold maxLen at hcm; omega) ?_
      intro j x hx
      exact hO.cells (g := g) rfl j (.int .u8 x.toNat) (by simp [bs, b8, hx])
    have hfin : Fr (bdR bb (.slice (some ⟨g, 0, none⟩) n cap)) w (w.drew.freeze ⟨g, 0, none⟩ n) := (Fr.of_grown (g_drew (World.grownBy.refl w none)) (by intro b e; cases e)).trans (Fr.freeze _ ⟨g, 0, none⟩ n (.inr rfl))
    obtain ⟨SL, hSL⟩ : ∃ SL, SL = st l := ⟨_, rfl⟩
    rw [← hSL] at hUS ⊢
    clear hUN
    replace hfin := Lib.hid hfin; replace hSL := Lib.hid hSL; replace hl2 := Lib.hid hl2; replace hn := Lib.hid hn; replace hcs := Lib.hid hcs; replace htake := Lib.hid htake; replace hg := Lib.hid hg
    replace hb := Lib.hid hb; replace hO := Lib.hid hO; replace hne := Lib.hid hne; replace hp := Lib.hid hp; replace h0 := Lib.hid h0
    go_enter Tryz.func71, Tryz.ntmps71
    go_wp2_with fail
    go_region
    all_goals (go_wp2_with fail; go_ret; exact ⟨rfl, hfin.out⟩)
end Go.Proofs.YtfhdfhlabkeipaaGreatDoor
