/- Layout: a place in a tree, and what is turned there. No walk. Layout: put. Layout: split (a new node of one kid). -/
import Derived.Test.YtcklmkjlbpjojaaDoorC4
import Derived.Test.YtcklmkjlbpjojaaDoorC5
import Derived.Test.YtcklmkjlbpjojaaDoorD3
import Derived.Deep.RegionHeld3
namespace Go.Proofs.YtcklmkjlbpjojaaDoor
open Go.RowKit
set_option linter.unusedSimpArgs false
set_option linter.unusedVariables false

/-- A node above a place: the kids ahead of it, those behind it. -/
structure Fr where
  n : Nd
  L : List T
  R : List T
def plug : List Fr → T → T
  | [], t => t
  | f :: c, t => plug c (.mk f.n (f.L ++ t :: f.R))
def upOf : List Fr → Option Nat
  | [] => none
  | f :: _ => some f.n.g
/-- The blocks round a place. -/
def cbl : List Fr → List Nat
  | [] => []
  | f :: c => (f.n.g :: f.n.A.toList) ++ (blL f.L ++ blL f.R) ++ cbl c
theorem At.congr {w : World} {up : Option Nat} {n : Nd} {ks ks' : List T} (h : At w up n ks) (e : ptrs ks' = ptrs ks) : At w up n ks' := by
  have hl : ks'.length = ks.length := by have := congrArg List.length e; simpa [ptrs] using this
  exact ⟨by rw [hl]; exact h.h, by rw [hl, e]; exact h.r⟩
theorem perm_plug : ∀ (c : List Fr) (t : T), (plug c t).bl.Perm (cbl c ++ t.bl)
  | [], t => by simp [plug, cbl]
  | f :: c, t => by
    rw [plug]
    refine (perm_plug c _).trans ?_
    rw [T.bl_mk, blL_app, blL_cons, cbl]
    have h1 : (blL f.L ++ (t.bl ++ blL f.R)).Perm ((blL f.L ++ blL f.R) ++ t.bl) := by
      rw [List.append_assoc]
      exact List.Perm.append_left _ List.perm_append_comm
    have h2 : (f.n.g :: (f.n.A.toList ++ (blL f.L ++ (t.bl ++ blL f.R)))).Perm (((f.n.g :: f.n.A.toList) ++ (blL f.L ++ blL f.R)) ++ t.bl) := by
      show ((f.n.g :: f.n.A.toList) ++ (blL f.L ++ (t.bl ++ blL f.R))).Perm _
      rw [List.append_assoc (f.n.g :: f.n.A.toList)]
      exact List.Perm.append_left _ h1
    exact (List.Perm.append_left _ h2).trans (by
      rw [← List.append_assoc]
      exact List.Perm.append_right _ List.perm_append_comm)
/-- What lies round a place whose node is at g. -/
def CP (w : World) : List Fr → T → Prop
  | [], _ => True
  | f :: c, t => At w (upOf c) f.n (f.L ++ t :: f.R) ∧ TPs w (some f.n.g) f.L ∧ TPs w (some f.n.g) f.R ∧ CP w c (.mk f.n (f.L ++ t :: f.R))
theorem TP_plug {w : World} : ∀ (c : List Fr) (t : T), TP w none (plug c t) ↔ CP w c t ∧ TP w (upOf c) t
  | [], t => by simp [plug, CP, upOf]
  | f :: c, t => by
    rw [plug, TP_plug c, CP]
    constructor
    · rintro ⟨h1, h2⟩
      have hk := h2.kids
      rw [TPs_app, TPs] at hk
      exact ⟨⟨h2.at_, hk.1, hk.2.2, h1⟩, hk.2.1⟩
    · rintro ⟨⟨h1, h2, h3, h4⟩, h5⟩
      exact ⟨h4, .mk h1 (by rw [TPs_app, TPs]; exact ⟨h2, h5, h3⟩)⟩
theorem CP.other {w w' : World} : ∀ (c : List Fr) (t t' : T), CP w c t → t'.g = t.g → (∀ b ∈ cbl c, w'.heap[b]? = w.heap[b]?) → CP w' c t'
  | [], t, t', _, _, _ => trivial
  | f :: c, t, t', ⟨h1, h2, h3, h4⟩, hg, hs => by
    rw [cbl] at hs
    refine ⟨(h1.same fun b hb => hs b (by simp only [List.mem_append]; exact .inl (.inl hb))).congr (by simp [ptrs, hg]), TPs_iff.2 fun k hk => (TPs_iff.1 h2 k hk).same _ _ fun b hb => hs b ?_, TPs_iff.2 fun k hk => (TPs_iff.1 h3 k hk).same _ _ fun b hb => hs b ?_, CP.other c _ _ h4 rfl fun b hb => hs b (by simp [hb])⟩
    · simp only [List.mem_append]; exact .inl (.inr (.inl (mem_blL.2 ⟨k, hk, hb⟩)))
    · simp only [List.mem_append]; exact .inl (.inr (.inr (mem_blL.2 ⟨k, hk, hb⟩)))
theorem leaf_plug : ∀ (t s : T), s ∈ t.leaves → ∃ c, t = plug c s := by
  intro t
  induction t using T.ind with
  | h n ks ih =>
    intro s hs
    rw [T.leaves_mk] at hs
    rcases List.mem_append.1 hs with hs | hs
    · split at hs
      · simp only [List.mem_singleton] at hs
        exact ⟨[], hs.symm⟩
      · cases hs
    · obtain ⟨k, hk, hs⟩ := mem_leavesL.1 hs
      obtain ⟨c, rfl⟩ := ih k hk s hs
      obtain ⟨L, R, rfl⟩ := List.append_of_mem hk
      refine ⟨c ++ [⟨n, L, R⟩], ?_⟩
      have : ∀ (c : List Fr) (s : T), plug (c ++ [⟨n, L, R⟩]) s = .mk n (L ++ plug c s :: R) := by
        intro c
        induction c with
        | nil => intro s; rfl
        | cons f c ih => intro s; rw [List.cons_append, plug, ih, plug]
      rw [this]

/-- What is turned at a place, the node's block kept. -/
theorem Tr.focus {base tr : Nat} {w w' : World} {c : List Fr} {t t' : T} {S : List Nat} (h : Tr base w tr (plug c t)) (ho : Off S w w') (hS : ∀ b ∈ S, b ∈ t.bl ∨ w.heap.size ≤ b)
    (hT : TP w' (upOf c) t') (hg : t'.g = t.g) (hN : t'.bl.Nodup) (hb : ∀ b ∈ t'.bl, b ∈ t.bl ∨ w.heap.size ≤ b) (hbase : base ≤ w.heap.size) : Tr base w' tr (plug c t') := by
  have hp := perm_plug c t
  have hp' := perm_plug c t'
  have hnd := hp.nodup_iff.1 h.nd
  obtain ⟨n1, n2, n3⟩ := List.nodup_append.1 hnd
  have hlt : ∀ b ∈ cbl c ++ t.bl, b < w.heap.size := fun b hb' => h.p.lt _ _ b (hp.mem_iff.2 hb')
  have hcS : ∀ b ∈ cbl c, b ∉ S := fun b hb' hm => by
    rcases hS b hm with h1 | h1
    · exact n3 b hb' b h1 rfl
    · have := hlt b (by simp [hb']); omega
  have hcl : ∀ b ∈ cbl c, w'.heap[b]? = w.heap[b]? := fun b hb' => ho.block b (hlt b (by simp [hb'])) (hcS b hb')
  have htr := h.lt
  have htrS : tr ∉ S := fun hm => by
    rcases hS tr hm with h1 | h1
    · exact h.nt (hp.mem_iff.2 (by simp [h1]))
    · omega
  have hpt := (TP_plug c t).1 h.p
  refine ⟨?_, (TP_plug c t').2 ⟨CP.other c t t' hpt.1 hg hcl, hT⟩, ?_, ?_, h.lo.1, ?_⟩
  · have e : (plug c t').g = (plug c t).g := by
      rcases c with _ | ⟨f, c⟩
      · exact hg
      · have : ∀ (c : List Fr) (a b : T), a.g = b.g → (plug c a).g = (plug c b).g := by
          intro c
          induction c with
          | nil => intro a b h; exact h
          | cons f c ih => intro a b _; rw [plug, plug]; exact ih _ _ rfl
        exact this _ _ _ hg
    rw [e, ho.block tr htr htrS]; exact h.h
  · refine hp'.nodup_iff.2 (List.nodup_append.2 ⟨n1, hN, ?_⟩)
    rintro b hb1 b' hb2 rfl
    rcases hb b hb2 with h1 | h1
    · exact n3 b hb1 b h1 rfl
    · have := hlt b (by simp [hb1]); omega
  · intro hm
    rcases List.mem_append.1 (hp'.mem_iff.1 hm) with h1 | h1
    · exact h.nt (hp.mem_iff.2 (by simp [h1]))
    · rcases hb tr h1 with h2 | h2
      · exact h.nt (hp.mem_iff.2 (by simp [h2]))
      · omega
  · intro b hm
    rcases List.mem_append.1 (hp'.mem_iff.1 hm) with h1 | h1
    · exact h.lo.2 b (hp.mem_iff.2 (by simp [h1]))
    · rcases hb b h1 with h2 | h2
      · exact h.lo.2 b (hp.mem_iff.2 (by simp [h2]))
      · omega
end Go.Proofs.YtcklmkjlbpjojaaDoor
namespace Go.Proofs.YtcklmkjlbpjojaaDoor
open Go.RowKit
set_option linter.unusedSimpArgs false
set_option linter.unusedVariables false

theorem cell_of_heap {w : World} {g : Nat} {c : Array Value} {e : TypeId} (h : w.heap[g]? = some (.cells c e (0, 0))) (j : Nat) : w.cell? ⟨g, j, none⟩ = c[j]? := by
  unfold World.cell?; rw [h]; simp
theorem free_of_heap {w : World} {g : Nat} {c : Array Value} {e : TypeId} (h : w.heap[g]? = some (.cells c e (0, 0))) (j : Nat) : w.frozen? ⟨g, j, none⟩ = false := by
  unfold World.frozen?; rw [h]; simp

set_option maxHeartbeats 1000000 in
theorem put_root (tr old new : Nat) (u : Value) (r : Value) (w : World) (ho : w.cell? ⟨old, 7, none⟩ = some (.pointer none)) (hne : old ≠ new) (h7 : w.cell? ⟨new, 7, none⟩ = some u) (hf : w.frozen? ⟨new, 7, none⟩ = false)
    (ht : w.cell? ⟨tr, 0, none⟩ = some r) (htf : w.frozen? ⟨tr, 0, none⟩ = false) (hnt : new ≠ tr) :
    Calls Tryd.prog 31 #[ptr tr, ptr old, ptr new] w fun e w' => e = .returned (.tuple #[]) ∧ w' = (w.setCell ⟨new, 7, none⟩ (.pointer none)).setCell ⟨tr, 0, none⟩ (ptr new) := by
  have hne2 : new ≠ old := fun e => hne e.symm
  have hnt2 : tr ≠ new := fun e => hnt e.symm
  unfold ptr
  go_enter Tryd.func31, Tryd.ntmps31
  go_wp2_with fail
  first | go_end0 | refine bodyPost_ret (results_none rfl _ _ _) rfl ?_
  exact ⟨rfl, rfl⟩

set_option maxHeartbeats 4000000 in
set_option maxRecDepth 100000 in
theorem put_in (tr new b : Nat) (up : Option Nat) (u : Value) (n : Nd) (L R : List T) (t : T) (w : World) (hAt : At w up n (L ++ t :: R)) (hA : n.A = some b)
    (ho : w.cell? ⟨t.g, 7, none⟩ = some (ptr n.g)) (h7 : w.cell? ⟨new, 7, none⟩ = some u) (hf : w.frozen? ⟨new, 7, none⟩ = false)
    (hC : ∀ s ∈ L ++ t :: R, IsC w s.g) (hnew : IsC w new) (hd : ∀ s ∈ L, s.g ≠ t.g) (hn1 : new ≠ t.g) (hn2 : new ≠ n.g) (hn3 : new ≠ b) (hn4 : b ≠ n.g) (hn6 : b ≠ t.g) (hn5 : ∀ s ∈ L ++ t :: R, s.g ≠ new ) :
    Calls Tryd.prog 31 #[ptr tr, ptr t.g, ptr new] w fun e w' => e = .returned (.tuple #[]) ∧ w' = ((w.setCell ⟨new, 7, none⟩ (ptr n.g)).setCell ⟨b, L.length, none⟩ (ptr new)).drew := by
  obtain ⟨W, hW⟩ : ∃ W, W = w.setCell ⟨new, 7, none⟩ (ptr n.g) := ⟨_, rfl⟩
  have oW : Off [new] w W := by rw [hW]; exact Off.set w ⟨new, 7, none⟩ _
  have hAtW : At W up n (L ++ t :: R) := hAt.same fun x hx => oW.block x (hAt.lt x hx) (by
    simp only [List.mem_singleton]
    rintro rfl
    rcases List.mem_cons.1 hx with h | h
    · exact hn2 h
    · rw [hA] at h; simp at h; exact hn3 h)
  have hCW : ∀ s ∈ L ++ t :: R, IsC W s.g := fun s hs => by
    obtain ⟨c, e, h⟩ := hC s hs
    exact ⟨c, e, (oW.block _ (lt_of_heap h) (by simpa using hn5 s hs)).trans h⟩
  have c6 := hAtW.c6
  have hrow : n.row (L ++ t :: R).length = .slice (some ⟨b, 0, none⟩) (L ++ t :: R).length n.c := by unfold Nd.row adr; rw [hA]; rfl
  have hO := hAtW.r
  rw [hrow] at hO
  have hR := own_Rd hO
  have hsm := hAtW.small
  have CI := index_any (some ⟨b, 0, none⟩) (L ++ t :: R).length n.c t.g L.length (L ++ t :: R) t W.drew rfl hsm hR (by simp) rfl (by simpa using hd) hCW
  have hbc : ∃ v, W.cell? ⟨b, L.length, none⟩ = some v := by
    obtain ⟨b', e1, h⟩ := hAtW.kid (i := L.length) (k := t) (by simp)
    rw [hA] at e1; injection e1 with e1; subst e1; exact ⟨_, h⟩
  obtain ⟨v0, hb0⟩ := hbc
  have hbf : W.frozen? ⟨b, L.length, none⟩ = false := by
    rcases hO.2 with ⟨h, _⟩ | ⟨g', cap, cur, h, h1, h2, _⟩
    · cases h
    · injection h with h _ _
      injection h with h; injection h with h
      subst h
      exact free_of_heap h2 _
  have o7 : W.cell? ⟨t.g, 7, none⟩ = some (ptr n.g) := by
    rw [hW, World.cell?_setCell_other]
    · exact ho
    · intro e; injection e with e; exact hn1 e
  have hlen : L.length < (L ++ t :: R).length := by simp
  obtain ⟨len, hln⟩ : ∃ len, len = (L ++ t :: R).length := ⟨_, rfl⟩
  have hAr : adr n.A = some ⟨b, 0, none⟩ := by rw [hA]; rfl
  rw [← hln] at c6 hrow hO CI hlen hsm
  rw [hAr] at c6
  replace CI := Lib.hid CI; replace hO := Lib.hid hO; replace hR := Lib.hid hR; replace hrow := Lib.hid hrow; replace hAt := Lib.hid hAt; replace hAtW := Lib.hid hAtW; replace hC := Lib.hid hC; replace hCW := Lib.hid hCW; replace hln := Lib.hid hln; replace hd := Lib.hid hd; replace hn5 := Lib.hid hn5; replace oW := Lib.hid oW; replace hnew := Lib.hid hnew; replace hA := Lib.hid hA; replace hAr := Lib.hid hAr
  have hn1' : t.g ≠ new := fun e => hn1 e.symm
  have hn6' : t.g ≠ b := fun e => hn6 e.symm
  have hn4' : n.g ≠ b := fun e => hn4 e.symm
  have hWh := Lib.hid hW
  unfold ptr at *
  go_enter Tryd.func31, Tryd.ntmps31
  go_upto_region 3 with fail
  rw [← hWh.out]
  clear ho h7 hf hW
  go_region_held3 (fun w' => w'.cell? ⟨t.g, 7, none⟩ = some (.pointer (some ⟨n.g, 0, none⟩)) ∧ w'.cell? ⟨n.g, 6, none⟩ = some (.slice (some ⟨b, 0, none⟩) len n.c))
    (first | go_keep | fail)
    ((first
      | (refine CI.out.mono ?_; rintro e w2 ⟨rfl, rfl⟩)
      | fail))
  all_goals
    go_wp2_with fail
    go_end0
    refine ⟨rfl, ?_⟩
    rw [hWh.out]
end Go.Proofs.YtcklmkjlbpjojaaDoor
namespace Go.Proofs.YtcklmkjlbpjojaaDoor
open Go.RowKit
set_option linter.unusedSimpArgs false
set_option linter.unusedVariables false

/-- A node's cells. -/
def nodeC (p x y a b way : Int) (row up : Value) : Array Value := #[.int .i64 p, .int .i64 x, .int .i64 y, .int .i64 a, .int .i64 b, .int .i64 way, row, up]

set_option maxHeartbeats 1000000 in
set_option maxRecDepth 100000 in
theorem split1_any (way a b : Int) (ab gi : Nat) (p ix iy ia ib iw : Int) (ir iu : Value) (w : World) (hA : w.heap[ab]? = some (.cells #[ptr gi] 55 (0, 0))) (hi : w.heap[gi]? = some (.cells (nodeC p ix iy ia ib iw ir iu) 58 (0, 0))) (hne : ab ≠ gi) :
    Calls Tryd.prog 32 #[.int .i64 way, .agg #[.int .i64 a, .int .i64 b], .slice (some ⟨ab, 0, none⟩) 1 1] w fun e w' => ∃ s, w.heap.size ≤ s ∧ e = .returned (ptr s) ∧
      w'.heap[s]? = some (.cells (nodeC 0 0 0 a b way (.slice (some ⟨ab, 0, none⟩) 1 1) (.pointer none)) 58 (0, 0)) ∧ w'.heap[gi]? = some (.cells (nodeC p ix iy ia ib iw ir (ptr s)) 58 (0, 0)) ∧ Off [gi] w w' := by
  have hgl := lt_of_heap hi
  have hal := lt_of_heap hA
  obtain ⟨W, hW⟩ : ∃ W, W = (w.alloc (.cells #[.int .i64 a, .int .i64 b] 56)).alloc (.cells #[.int .i64 0, .int .i64 0, .int .i64 0, .int .i64 a, .int .i64 b, .int .i64 way, .slice (some ⟨ab, 0, none⟩) 1 1, .pointer none] 58) := ⟨_, rfl⟩
  have g1 : w.grownBy W none := by rw [hW]; exact (World.grownBy_alloc w _ none).trans (World.grownBy_alloc _ _ none)
  have hs : W.heap[w.heap.size + 1]? = some (.cells (nodeC 0 0 0 a b way (.slice (some ⟨ab, 0, none⟩) 1 1) (.pointer none)) 58 (0, 0)) := by
    rw [hW]
    have := heap_alloc_new (w.alloc (.cells #[.int .i64 a, .int .i64 b] 56)) (.cells #[.int .i64 0, .int .i64 0, .int .i64 0, .int .i64 a, .int .i64 b, .int .i64 way, .slice (some ⟨ab, 0, none⟩) 1 1, .pointer none] 58)
    have e : (w.alloc (.cells #[.int .i64 a, .int .i64 b] 56)).heap.size = w.heap.size + 1 := by simp
    rw [e] at this
    exact this
  have hAW := (g1.block ab hal (by simp)).trans hA
  have hiW := (g1.block gi hgl (by simp)).trans hi
  have a0 : W.cell? ⟨ab, 0, none⟩ = some (.pointer (some ⟨gi, 0, none⟩)) := by rw [cell_of_heap hAW]; rfl
  have i7 : W.cell? ⟨gi, 7, none⟩ = some iu := by rw [cell_of_heap hiW]; rfl
  have f7 := free_of_heap hiW 7
  have hsg : w.heap.size + 1 ≠ gi := by omega
  have hfin : ∀ W', W' = W.setCell ⟨gi, 7, none⟩ (ptr (w.heap.size + 1)) → W'.heap[w.heap.size + 1]? = some (.cells (nodeC 0 0 0 a b way (.slice (some ⟨ab, 0, none⟩) 1 1) (.pointer none)) 58 (0, 0)) ∧ W'.heap[gi]? = some (.cells (nodeC p ix iy ia ib iw ir (ptr (w.heap.size + 1))) 58 (0, 0)) ∧ Off [gi] w W' := by
    rintro W' rfl
    refine ⟨?_, ?_, ?_⟩
    · rw [Below.heap_setCell _ _ _ _ (by exact hsg)]; exact hs
    · have := heap_set (j := 7) hiW (ptr (w.heap.size + 1))
      rw [this]; rfl
    · exact (Off.of_grown (S := [gi]) g1).trans (Off.set W ⟨gi, 7, none⟩ _) (by simp)
  replace hfin := Lib.hid hfin; replace hs := Lib.hid hs; replace hAW := Lib.hid hAW; replace hiW := Lib.hid hiW; replace g1 := Lib.hid g1; replace hA := Lib.hid hA; replace hi := Lib.hid hi
  have hWh := Lib.hid hW
  go_enter Tryd.func32, Tryd.ntmps32
  go_upto_region 2 with fail
  rw [← hWh.out]
  clear hW
  go_wp2_with fail
  go_loopw [17] (fun iv wr => (iv = .int .i64 0 ∧ wr = W) ∨ (iv = .int .i64 1 ∧ wr = W.setCell ⟨gi, 7, none⟩ (ptr (w.heap.size + 1)))) (fun iv _ => 1 - (intOf iv).toNat)
  case atStart => exact .inl ⟨rfl, rfl⟩
  case round =>
    rcases hrel with ⟨rfl, rfl⟩ | ⟨rfl, rfl⟩
    · go_wp2_with fail
      refine ⟨.inr ⟨rfl, rfl⟩, by simp [intOf]⟩
    · go_wp2_with fail
      go_ret
      exact ⟨w.heap.size + 1, by omega, rfl, (hfin.out _ rfl)⟩
end Go.Proofs.YtcklmkjlbpjojaaDoor
