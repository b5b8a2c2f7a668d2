/- Layout: all, leaf, Has. Layout: Has, may, New, wayOf, leafUp, pick. -/
import Derived.Test.YtcklmkjlbpjojaaGreatDoorC2
import Derived.BigQuiet
namespace Go.Proofs.YtcklmkjlbpjojaaGreatDoor
open Go.RowKit
set_option linter.unusedSimpArgs false
set_option linter.unusedVariables false

/-- A tree of the call's own, whole. -/
structure Tr (base : Nat) (w : World) (tr : Nat) (t : T) : Prop where
  h : w.heap[tr]? = some (.cells #[ptr t.g] 73 (0, 0))
  p : TP w none t
  nd : t.bl.Nodup
  nt : tr ∉ t.bl
  lo : base ≤ tr ∧ ∀ b ∈ t.bl, base ≤ b
theorem Tr.grown {base tr : Nat} {w w' : World} {t : T} (h : Tr base w tr t) (hg : w.grownBy w' none) : Tr base w' tr t :=
  ⟨(hg.block tr (lt_of_heap h.h) (by simp)).trans h.h, h.p.grown hg, h.nd, h.nt, h.lo⟩
theorem Tr.c0 {base tr : Nat} {w : World} {t : T} (h : Tr base w tr t) : w.cell? ⟨tr, 0, none⟩ = some (ptr t.g) := by simp [World.cell?, h.h]
theorem Tr.lt {base tr : Nat} {w : World} {t : T} (h : Tr base w tr t) : tr < w.heap.size := lt_of_heap h.h

set_option maxHeartbeats 400000 in
theorem all_any (base tr : Nat) (t : T) (w : World) (hT : Tr base w tr t) (hl : t.leaves.length ≤ 100000) :
    Calls Tryz.prog 27 #[ptr tr] w fun e w' => ∃ A c, e = .returned (.slice A t.leaves.length c) ∧ w'.ownsRow w.heap.size 58 1 (.slice A t.leaves.length c) t.leaves.length (ptrs t.leaves) ∧ w.grownBy w' none := by
  have c0 := hT.c0
  have hlt := hT.lt
  have hJ : J w.heap.size (w.alloc (.cells #[.slice none 0 0] 62)) w.heap.size [] :=
    ⟨⟨none, 0, heap_alloc_new w _, World.ownsRow_nil _ _ _ _, by simp [ablk]⟩, Nat.le_refl _⟩
  have CL := Lib.hid (leaves_any w.heap.size w.heap.size t none [] (w.alloc (.cells #[.slice none 0 0] 62)) (hT.p.grown (World.grownBy_alloc _ _ _)) (fun b hb => hT.p.lt _ _ b hb) hJ (by simpa using hl))
  replace hT := Lib.hid hT
  clear hJ
  unfold pusher ptr at *
  go_enter Tryz.func27, Tryz.ntmps27
  go_wp2_with fail
  refine CL.out.mono ?_
  rintro e w1 ⟨rfl, hJ, hB⟩
  obtain ⟨A, c, hh, hO, hne⟩ := hJ.r
  have q := hh
  have q0 : w1.cell? ⟨w.heap.size, 0, none⟩ = some (.slice A ([] ++ ptrs t.leaves).length c) := by simp [World.cell?, hh]
  replace hO := Lib.hid hO; replace hB := Lib.hid hB
  clear hh q hne hJ
  go_wp2_with fail
  go_ret
  have e1 : ([] ++ ptrs t.leaves).length = t.leaves.length := by simp [ptrs]
  refine ⟨A, c, (show Ending.returned (.slice A (ptrs t.leaves).length c) = _ by rw [ptrs_len]), ?_, ?_⟩
  · have := hO.out
    rw [e1, List.nil_append] at this
    exact this
  · have g0 := World.grownBy_alloc w (.cells #[.slice none 0 0] 62) none
    exact ⟨hB.out.os, hB.out.tape, hB.out.output, Nat.le_trans g0.size hB.out.size, fun k hk _ => (hB.out.block k hk).trans (g0.block k hk (by simp))⟩

theorem own_Rd {base n c : Nat} {w : World} {A : Option Addr} {xs : List Value} {e : TypeId} (h : w.ownsRow base e 1 (.slice A n c) n xs) : Rd w A xs := by
  obtain ⟨A', c', e, h1, _⟩ := Rd.of_own h
  injection e with e
  subst e; exact h1

/-- Where the first of a pane stands. -/
def IdxPost (w : World) (l : List T) (pane : Int) (e : Ending) (w' : World) : Prop :=
  ∃ r : Int, e = .returned (.int .i64 r) ∧ w.grownBy w' none ∧ ((r = -1 ∧ ∀ s ∈ l, s.n.p ≠ pane) ∨ ∃ (j : Nat) (s : T), r = j ∧ l[j]? = some s ∧ s.n.p = pane ∧ ∀ s' ∈ l.take j, s'.n.p ≠ pane)

theorem isp_any (g hp : Nat) (p pane : Int) (w : World) (h0 : w.cell? ⟨g, 0, none⟩ = some (.int .i64 p)) (h1 : w.cell? ⟨hp, 0, none⟩ = some (.int .i64 pane)) :
    Calls Tryz.prog 72 #[ptr g, ptr hp] w fun e w' => e = .returned (.bool (p == pane)) ∧ w.grownBy w' none := by
  unfold ptr
  go_enter Tryz.func72, Tryz.ntmps72
  go_wp2_with fail
  go_quiet (fail)
  go_wp2_with fail
  go_ret
  exact ⟨rfl, ⟨rfl, rfl, rfl, Nat.le_refl _, fun _ _ _ => rfl⟩⟩

set_option maxHeartbeats 400000 in
theorem idxf_any (A : Option Addr) (len c hp : Nat) (l : List T) (pane : Int) (w : World) (hn : len = l.length) (hb : len ≤ 100000) (hR : Rd w A (ptrs l)) (hc : ∀ s ∈ l, w.cell? ⟨s.g, 0, none⟩ = some (.int .i64 s.n.p))
    (hh : w.cell? ⟨hp, 0, none⟩ = some (.int .i64 pane)) :
    Calls Tryz.prog 71 #[.slice A len c, .func (.func 72) #[] #[ptr hp]] w (IdxPost w l pane) := by
  replace hn := Lib.hid hn; replace hR := Lib.hid hR; replace hc := Lib.hid hc; replace hh := Lib.hid hh
  unfold ptr
  go_enter Tryz.func71, Tryz.ntmps71
  go_wp2_with fail
  go_loopw [8] (fun iv wr => ∃ j : Nat, j ≤ len ∧ iv = .int .i64 j ∧ Hid (w.grownBy wr none ∧ ∀ s ∈ l.take j, s.n.p ≠ pane)) (fun iv _ => len - (intOf iv).toNat)
  case atStart => exact ⟨0, Nat.zero_le _, rfl, Lib.hid ⟨World.grownBy.refl _ _, by simp⟩⟩
  case round =>
    obtain ⟨j, hj, rfl, hI⟩ := hrel
    by_cases hlt : j < len
    · obtain ⟨s, hs⟩ : ∃ s, l[j]? = some s := ⟨l[j]'(by rw [← hn.out]; exact hlt), List.getElem?_eq_getElem _⟩
      obtain ⟨b, off, rfl, _, hcell⟩ := hR.out.at_ (j := j) (u := ptr s.g) (by simp [ptrs, hs])
      have hcell' := hI.out.1.cell hcell (by simp)
      have h0 := hI.out.1.cell (hc.out s (List.mem_of_getElem? hs)) (by simp)
      have h1 := hI.out.1.cell hh.out (by simp)
      unfold ptr at hcell'
      clear hcell
      replace hs := Lib.hid hs
      have CC := Lib.hid (isp_any s.g hp s.n.p pane wr h0 h1)
      unfold ptr at CC
      obtain ⟨bb, hbb⟩ : ∃ bb, bb = (s.n.p == pane) := ⟨_, rfl⟩
      rw [← hbb] at CC
      replace hbb := Lib.hid hbb
      go_wp2_with fail
      refine CC.out.mono ?_
      rintro e w1 ⟨rfl, g1⟩
      replace g1 := Lib.hid g1
      cases bb
      · go_wp2_with fail
        refine ⟨⟨j + 1, by omega, by go_num, Lib.hid ⟨hI.out.1.trans g1.out, ?_⟩⟩, by simp [intOf]; omega⟩
        rw [take_succ' hs.out]
        intro s' hs'
        rcases List.mem_append.1 hs' with h | h
        · exact hI.out.2 s' h
        · simp only [List.mem_singleton] at h; subst h
          have := hbb.out; simpa using this.symm
      · go_wp2_with fail
        go_ret
        exact ⟨j, rfl, hI.out.1.trans g1.out, .inr ⟨j, s, rfl, hs.out, by have := hbb.out; simpa using this.symm, hI.out.2⟩⟩
    · have : j = len := by omega
      subst this
      go_wp2_with fail
      go_ret
      refine ⟨-1, rfl, hI.out.1, .inl ⟨rfl, ?_⟩⟩
      have := hI.out.2
      rwa [List.take_of_length_le (by rw [hn.out]; exact Nat.le_refl _)] at this

/-- The first leaf of a pane. -/
def T.find (t : T) (pane : Int) : Option T := t.leaves.find? (fun s => s.n.p == pane)
theorem find_of {l : List T} {pane : Int} {j : Nat} {s : T} (h : l[j]? = some s) (hp : s.n.p = pane) (hn : ∀ s' ∈ l.take j, s'.n.p ≠ pane) : l.find? (fun s => s.n.p == pane) = some s := by
  rw [List.find?_eq_some_iff_append]
  refine ⟨by simpa using hp, l.take j, l.drop (j + 1), ?_, fun a ha => by simpa using hn a ha⟩
  obtain ⟨hlt, he⟩ := List.getElem?_eq_some_iff.1 h
  conv => lhs; rw [← List.take_append_drop j l, List.drop_eq_getElem_cons hlt, he]
theorem mem_leavesL {s : T} {ks : List T} : s ∈ leavesL ks ↔ ∃ k ∈ ks, s ∈ k.leaves := by
  induction ks with
  | nil => simp [leavesL_nil]
  | cons k ks ih => simp [leavesL_cons, ih]
theorem mem_leaves : ∀ (t : T) (w : World) (up : Option Nat), TP w up t → ∀ s ∈ t.leaves, ∃ up', TP w up' s ∧ s.ks = [] ∧ ∀ b ∈ s.bl, b ∈ t.bl := by
  intro t
  induction t using T.ind with
  | h n ks ih =>
    intro w up hT s hs
    rw [T.leaves_mk] at hs
    rcases List.mem_append.1 hs with hs | hs
    · split at hs
      · simp only [List.mem_singleton] at hs
        subst hs
        exact ⟨up, hT, List.eq_nil_of_length_eq_zero (by assumption), fun b hb => hb⟩
      · cases hs
    · have := mem_leavesL.1 hs
      obtain ⟨k, hk, hs⟩ := this
      obtain ⟨up', h1, h2, h3⟩ := ih k hk w _ (TPs_iff.1 hT.kids k hk) s hs
      exact ⟨up', h1, h2, fun b hb => by rw [T.bl_mk]; simp only [List.mem_cons, List.mem_append]; exact .inr (.inr (mem_blL.2 ⟨k, hk, h3 b hb⟩))⟩
theorem leaf_c0 {t s : T} {w : World} {up : Option Nat} (hT : TP w up t) (hs : s ∈ t.leaves) : w.cell? ⟨s.g, 0, none⟩ = some (.int .i64 s.n.p) := by
  obtain ⟨up', h, _, _⟩ := mem_leaves t w up hT s hs
  cases s
  exact h.at_.c0

set_option maxHeartbeats 400000 in
theorem leaf_any (base tr : Nat) (t : T) (pane : Int) (w : World) (hT : Tr base w tr t) (hl : t.leaves.length ≤ 100000) :
    Calls Tryz.prog 24 #[ptr tr, .int .i64 pane] w fun e w' => e = .returned (uptr ((t.find pane).map T.g)) ∧ w.grownBy w' none := by
  have g0 := World.grownBy_alloc w (.cells #[.int .i64 pane] 3) none
  have CA := Lib.hid (all_any base tr t (w.alloc (.cells #[.int .i64 pane] 3)) (hT.grown g0) hl)
  replace hT := Lib.hid hT
  have hq : (w.alloc (.cells #[.int .i64 pane] 3)).cell? ⟨w.heap.size, 0, none⟩ = some (.int .i64 pane) := by unfold World.cell?; rw [heap_alloc_new]; rfl
  replace hq := Lib.hid hq; replace g0 := Lib.hid g0
  unfold ptr at *
  go_enter Tryz.func24, Tryz.ntmps24
  go_wp2_with fail
  refine CA.out.mono ?_
  rintro e w1 ⟨A, c, rfl, hO, hG⟩
  have hT1 := (hT.out.grown g0.out).grown hG
  have CI := Lib.hid (idxf_any A t.leaves.length c w.heap.size t.leaves pane w1 rfl hl (own_Rd hO) (fun s hs => leaf_c0 hT1.p hs) (hG.cell hq.out (by simp)))
  have hR := own_Rd hO
  replace hO := Lib.hid hO; replace hG := Lib.hid hG; replace hT1 := Lib.hid hT1; replace hR := Lib.hid hR
  clear CA
  unfold ptr at CI
  go_wp2_with fail
  refine CI.out.mono ?_
  rintro e w2 ⟨r, rfl, g2, hr⟩
  have gA := (g0.out.trans hG.out).trans g2
  replace gA := Lib.hid gA
  rcases hr with ⟨rfl, hr⟩ | ⟨j, s, rfl, hs, hp, hn⟩
  · replace hr := Lib.hid hr
    clear CI
    go_wp2_with fail
    go_ret
    refine ⟨?_, gA.out⟩
    have : t.find pane = none := by
      unfold T.find; rw [List.find?_eq_none]; intro s hs; simpa using hr.out s hs
    rw [this]; rfl
  · have hf := find_of hs hp hn
    obtain ⟨b, off, rfl, _, hcell⟩ := hR.out.at_ (j := j) (u := ptr s.g) (by simp [ptrs, hs])
    have hcell' := g2.cell hcell (by simp)
    have hlt : j < t.leaves.length := (List.getElem?_eq_some_iff.1 hs).1
    unfold ptr at hcell'
    replace hf := Lib.hid hf; replace hn := Lib.hid hn; replace g2 := Lib.hid g2; replace hs := Lib.hid hs
    clear CI hcell
    go_wp2_with fail
    go_ret
    refine ⟨?_, gA.out⟩
    unfold T.find
    rw [hf.out]; rfl
end Go.Proofs.YtcklmkjlbpjojaaGreatDoor
namespace Go.Proofs.YtcklmkjlbpjojaaGreatDoor
open Go.RowKit
set_option linter.unusedSimpArgs false
set_option linter.unusedVariables false

theorem has_any (base tr : Nat) (t : T) (pane : Int) (w : World) (hT : Tr base w tr t) (hl : t.leaves.length ≤ 100000) :
    Calls Tryz.prog 26 #[ptr tr, .int .i64 pane] w fun e w' => e = .returned (.bool (t.find pane).isSome) ∧ w.grownBy w' none := by
  have CA := Lib.hid (leaf_any base tr t pane w hT hl)
  unfold ptr at *
  go_enter Tryz.func26, Tryz.ntmps26
  go_wp2_with fail
  refine CA.out.mono ?_
  rintro e w1 ⟨rfl, hG⟩
  replace hG := Lib.hid hG
  clear CA
  cases hf : t.find pane
  · have e1 := ret_bool (show false = (t.find pane).isSome by rw [hf]; rfl)
    replace e1 := Lib.hid e1
    simp only [hf, Option.map_none, uptr]
    replace hf := Lib.hid hf
    go_wp2_with fail
    go_ret
    exact ⟨e1.out, hG.out⟩
  · have e1 := ret_bool (show true = (t.find pane).isSome by rw [hf]; rfl)
    replace e1 := Lib.hid e1
    simp only [hf, Option.map_some, uptr, ptr]
    replace hf := Lib.hid hf
    go_wp2_with fail
    go_ret
    exact ⟨e1.out, hG.out⟩

def mayB (a b : Int) : Bool := decide (1 ≤ a) && decide (a ≤ 250) && decide (1 ≤ b) && decide (b ≤ 120)
theorem may_any (a b : Int) (w : World) : Calls Tryz.prog 44 #[.int .i64 a, .int .i64 b] w fun e w' => e = .returned (.bool (mayB a b)) ∧ w = w' := by
  go_enter Tryz.func44, Tryz.ntmps44
  go_wp2
  all_goals (go_ret; exact ⟨ret_bool (by unfold mayB; simp; try omega), rfl⟩)
theorem wayOf_any (b : Bool) (w : World) : Calls Tryz.prog 25 #[.bool b] w fun e w' => e = .returned (.int .i64 (if b then 0 else 1)) ∧ w = w' := by
  cases b <;>
  · go_enter Tryz.func25, Tryz.ntmps25
    go_wp2
    go_ret
    exact ⟨rfl, rfl⟩
theorem leafUp_any (v : Value) (g : Nat) (u : Value) (w : World) (h : w.cell? ⟨g, 7, none⟩ = some u) : Calls Tryz.prog 30 #[v, ptr g] w fun e w' => e = .returned u ∧ w = w' := by
  unfold ptr
  go_enter Tryz.func30, Tryz.ntmps30
  go_wp2
  go_ret
  exact ⟨rfl, rfl⟩
/-- One pane's node. -/
def nd1 (g : Nat) (p a b : Int) : T := .mk ⟨g, none, 0, p, 0, 0, a, b, 0⟩ []
theorem new_any (a b p : Int) (w : World) (hm : mayB a b = true) (hp : 1 ≤ p) :
    Calls Tryz.prog 16 #[.int .i64 a, .int .i64 b, .int .i64 p] w fun e w' => ∃ tr g, e = .returned (.tuple #[ptr tr, .int .i64 0]) ∧ Tr w.heap.size w' tr (nd1 g p a b) ∧ w.grownBy w' none := by
  have CM := Lib.hid (may_any a b w)
  rw [hm] at CM
  have hp2 : ¬ p < 1 := by omega
  go_enter Tryz.func16, Tryz.ntmps16
  go_wp2_with fail
  refine CM.out.mono ?_
  rintro e w1 ⟨rfl, rfl⟩
  go_wp2_with fail
  go_ret2
  have g1 := World.grownBy_alloc w (.cells #[.int .i64 p, .int .i64 0, .int .i64 0, .int .i64 a, .int .i64 b, .int .i64 0, .slice none 0 0, .pointer none] 66) none
  have g2 := World.grownBy_alloc (w.alloc (.cells #[.int .i64 p, .int .i64 0, .int .i64 0, .int .i64 a, .int .i64 b, .int .i64 0, .slice none 0 0, .pointer none] 66)) (.cells #[ptr w.heap.size] 73) none
  have hA : At (w.alloc (.cells #[.int .i64 p, .int .i64 0, .int .i64 0, .int .i64 a, .int .i64 b, .int .i64 0, .slice none 0 0, .pointer none] 66)) none ⟨w.heap.size, none, 0, p, 0, 0, a, b, 0⟩ [] :=
    ⟨heap_alloc_new w _, World.ownsRow_nil _ _ _ _⟩
  refine ⟨w.heap.size + 1, w.heap.size, rfl, ⟨?_, (TP.mk hA (by rw [TPs]; trivial)).grown g2, ?_, ?_, ?_⟩, g1.trans g2⟩
  · have := heap_alloc_new (w.alloc (.cells #[.int .i64 p, .int .i64 0, .int .i64 0, .int .i64 a, .int .i64 b, .int .i64 0, .slice none 0 0, .pointer none] 66)) (.cells #[ptr w.heap.size] 73)
    have e : (w.alloc (.cells #[.int .i64 p, .int .i64 0, .int .i64 0, .int .i64 a, .int .i64 b, .int .i64 0, .slice none 0 0, .pointer none] 66)).heap.size = w.heap.size + 1 := by simp
    rw [e] at this
    exact this
  · simp [nd1, T.bl_mk, blL_nil]
  · simp [nd1, T.bl_mk, blL_nil]
  · simp [nd1, T.bl_mk, blL_nil]
theorem new_not (a b p : Int) (w : World) (h : ¬ (mayB a b = true ∧ 1 ≤ p)) :
    Calls Tryz.prog 16 #[.int .i64 a, .int .i64 b, .int .i64 p] w fun e w' => e = .returned (.tuple #[.pointer none, .int .i64 1]) ∧ w = w' := by
  have CM := Lib.hid (may_any a b w)
  cases hm : mayB a b
  · rw [hm] at CM
    replace h := Lib.hid h; replace hm := Lib.hid hm
    go_enter Tryz.func16, Tryz.ntmps16
    go_wp2_with fail
    refine CM.out.mono ?_
    rintro e w1 ⟨rfl, rfl⟩
    go_wp2_with fail
    go_ret2
    exact ⟨rfl, rfl⟩
  · rw [hm] at CM
    have hp : p < 1 := by rcases Int.lt_or_le p 1 with h1 | h1; exact h1; exact absurd ⟨hm, h1⟩ h
    replace h := Lib.hid h; replace hm := Lib.hid hm
    go_enter Tryz.func16, Tryz.ntmps16
    go_wp2_with fail
    refine CM.out.mono ?_
    rintro e w1 ⟨rfl, rfl⟩
    go_wp2_with fail
    go_ret2
    exact ⟨rfl, rfl⟩
/-- Which of n things a raw number speaks of. -/
def pickN (c : Int) (n : Nat) : Nat := ((if c < 0 then -(c + 1) else c) % n).toNat
theorem pickN_lt (c : Int) {n : Nat} (h : 0 < n) : pickN c n < n := by
  unfold pickN
  have h1 := Int.emod_lt_of_pos (if c < 0 then -(c + 1) else c) (b := n) (by omega)
  have h2 := Int.emod_nonneg (if c < 0 then -(c + 1) else c) (b := n) (by omega)
  omega
theorem pick_any (c : Int) (n : Nat) (w : World) (h1 : -9223372036854775808 ≤ c) (h2 : c ≤ 9223372036854775807) (hn : 0 < n) (hn2 : n ≤ 9223372036854775807) :
    Calls Tryz.prog 8 #[.int .i64 c, .int .i64 n] w fun e w' => e = .returned (.int .i64 (pickN c n)) ∧ w = w' := by
  have hp := Int.emod_nonneg (if c < 0 then -(c + 1) else c) (b := n) (by omega)
  have hq : (pickN c n : Int) = (if c < 0 then -(c + 1) else c) % n := by unfold pickN; omega
  have hn0 : ¬ ((n : Int) = 0) := by omega
  by_cases h : c < 0
  · rw [if_pos h] at hq
    have i1 : 0 ≤ -(c + 1) := by omega
    have i2 : -(c + 1) ≤ 9223372036854775807 := by omega
    replace hq := Lib.hid hq; replace hp := Lib.hid hp
    go_enter Tryz.func8, Tryz.ntmps8
    go_wp2
    go_ret
    exact ⟨ret_int (by have h2 := hq.out; rw [← Int.tmod_eq_emod_of_nonneg i1, Int.neg_tmod] at h2; exact h2.symm), rfl⟩
  · rw [if_neg h] at hq
    replace hq := Lib.hid hq; replace hp := Lib.hid hp
    go_enter Tryz.func8, Tryz.ntmps8
    go_wp2
    go_ret
    exact ⟨ret_int hq.out.symm, rfl⟩
end Go.Proofs.YtcklmkjlbpjojaaGreatDoor
