/- Format: a name's value in a scope. Format: the expander in memory: its stack of scopes; a name's value. -/
import Derived.Test.YtfhdfhlabkeipaaGreatDoorC7
import Derived.Test.YtfhdfhlabkeipaaGreatDoorV1
namespace Go.Proofs.YtfhdfhlabkeipaaGreatDoor
open Go.RowKit
set_option linter.unusedSimpArgs false
set_option linter.unusedVariables false

/-- Pairs as they lie. -/
def pc (l : List (B × B)) : List Value := l.flatMap fun p => [.string (st p.1), .string (st p.2)]
theorem pc_at : ∀ (l : List (B × B)) (j : Nat) {p : B × B}, l[j]? = some p → (pc l)[j * 2]? = some (.string (st p.1)) ∧ (pc l)[j * 2 + 1]? = some (.string (st p.2))
  | [], j, p, h => by simp at h
  | a :: l, j, p, h => by
    rcases j with _ | j
    · simp at h; subst h; exact ⟨rfl, rfl⟩
    · have := pc_at l j (by simpa using h)
      rw [show (j + 1) * 2 = j * 2 + 2 by omega]
      exact this
theorem inL_cons (p : B × B) (r : List (B × B)) (name : B) : inL (p :: r) name = if p.1 = name then some p.2 else inL r name := rfl
theorem inL_at {l : List (B × B)} {j : Nat} {p : B × B} (h : l[j]? = some p) (name : B) : inL (l.drop j) name = if p.1 = name then some p.2 else inL (l.drop (j + 1)) name := by
  obtain ⟨h1, h2⟩ := List.getElem?_eq_some_iff.1 h
  rw [List.drop_eq_getElem_cons h1, h2, inL_cons]
def inV (o : Option B) : Value := .tuple #[.string (st (o.getD [])), .bool o.isSome]

set_option maxHeartbeats 1000000 in
set_option maxRecDepth 100000 in
theorem in_any (Av Al : Option Addr) (nv cv nl cl : Nat) (vars : List (B × B)) (name : B) (w : World) (hn : nv = vars.length) (h63 : nv ≤ 9223372036854775807) (hR : Rd w Av (pc vars)) :
    Calls Tryz.prog 48 #[.agg #[.slice Av nv cv, .slice Al nl cl], .string (st name)] w fun e w' => e = .returned (inV (inL vars name)) ∧ w.grownBy w' none := by
  replace hn := Lib.hid hn; replace hR := Lib.hid hR
  go_enter Tryz.func48, Tryz.ntmps48
  go_wp2_with fail
  go_loopw [11] (fun jv wr => ∃ j : Nat, jv = .int .i64 j ∧ j ≤ nv ∧ Hid (w.grownBy wr none ∧ inL vars name = inL (vars.drop j) name)) (fun jv _ => nv - (intOf jv).toNat)
  case atStart => exact ⟨0, rfl, Nat.zero_le _, Lib.hid ⟨g_alloc (World.grownBy.refl _ _) _, by simp⟩⟩
  case round =>
    obtain ⟨j, rfl, hj, hI⟩ := hrel
    by_cases hlt : j < nv
    · obtain ⟨p, hp⟩ : ∃ p, vars[j]? = some p := ⟨vars[j]'(by rw [← hn.out]; exact hlt), List.getElem?_eq_getElem _⟩
      obtain ⟨q1, q2⟩ := pc_at vars j hp
      obtain ⟨b1, off, hA, hbl, _⟩ := hR.out.at_ q1
      subst hA
      have hcell : ∀ (i : Nat) (u : Value), (pc vars)[i]? = some u → wr.cell? ⟨b1, off + i, none⟩ = some u := by
        intro i u hu
        obtain ⟨b', off', e, hb', h⟩ := hR.out.at_ hu
        cases e
        exact (g_below hI.out.1).cell (p := ⟨b1, off + i, none⟩) hb' |>.trans h
      have k0 := hcell _ _ q1
      have k1 := hcell _ _ q2
      rw [← Nat.add_assoc] at k1
      have hst := hI.out.2.trans (inL_at hp name)
      have hlti : (j : Int) < (nv : Int) := by omega
      obtain ⟨s1, hs1⟩ : ∃ s1, s1 = st p.1 := ⟨_, rfl⟩
      obtain ⟨s2, hs2⟩ : ∃ s2, s2 = st p.2 := ⟨_, rfl⟩
      rw [← hs1] at k0
      rw [← hs2] at k1
      have heq : (s1.toList == (st name).toList) = decide (p.1 = name) := by
        rw [hs1, st_toList, st_toList, Bool.eq_iff_iff, beq_iff_eq, decide_eq_true_eq]
      obtain ⟨nm, hnm⟩ : ∃ nm, nm = st name := ⟨_, rfl⟩
      rw [← hnm] at heq ⊢
      replace hnm := Lib.hid hnm; replace hs1 := Lib.hid hs1; replace hs2 := Lib.hid hs2; replace hp := Lib.hid hp; replace q1 := Lib.hid q1; replace q2 := Lib.hid q2
      clear hcell
      by_cases he : p.1 = name
      · rw [decide_eq_true he] at heq
        rw [if_pos he] at hst
        replace hst := Lib.hid hst; replace hI := Lib.hid hI.out; replace he := Lib.hid he
        go_wp2_with fail
        go_ret2
        exact ⟨by rw [hst.out, hs2.out]; rfl, g_alloc hI.out.1 _⟩
      · rw [decide_eq_false he] at heq
        rw [if_neg he] at hst
        replace hst := Lib.hid hst; replace hI := Lib.hid hI.out; replace he := Lib.hid he
        go_wp2_with fail
        exact ⟨⟨j + 1, rfl, by omega, Lib.hid ⟨g_alloc hI.out.1 _, hst.out⟩⟩, by simp [intOf]; omega⟩
    · have hlti : ¬ ((j : Int) < (nv : Int)) := by omega
      have hres : inL vars name = none := by
        rw [hI.out.2, List.drop_eq_nil_of_le (by rw [← hn.out]; omega)]
        rfl
      replace hI := Lib.hid hI.out; replace hres := Lib.hid hres
      go_wp2_with fail
      go_ret2
      exact ⟨by rw [hres.out]; rfl, hI.out.1⟩
end Go.Proofs.YtfhdfhlabkeipaaGreatDoor
namespace Go.Proofs.YtfhdfhlabkeipaaGreatDoor
open Go.RowKit
set_option linter.unusedSimpArgs false
set_option linter.unusedVariables false

/-- Pairs at a slice, below base. -/
def VarsAt (base : Nat) (w : World) (v : Value) (vs : List (B × B)) : Prop :=
  ∃ A n c, v = .slice A n c ∧ n = vs.length ∧ n ≤ 9223372036854775807 ∧ Rd w A (pc vs) ∧ ∀ b, ablk A = some b → b < base
/-- The scopes of a loop, below base. -/
def InsAt (base : Nat) (w : World) (A : Option Addr) (l : List (List (B × B))) : Prop :=
  ∃ cs : List Value, Rd w A cs ∧ (∀ b, ablk A = some b → b < base) ∧ ∀ j vs, l[j]? = some vs → ∃ v, cs[j * 2]? = some v ∧ cs[j * 2 + 1]? = some (.slice none 0 0) ∧ VarsAt base w v vs
/-- The loops of a scope, below base. -/
def LoopsAt (base : Nat) (w : World) (v : Value) (l : List (UInt8 × List (List (B × B)))) : Prop :=
  ∃ A n c, v = .slice A n c ∧ n = l.length ∧ n ≤ 9223372036854775807 ∧ ∃ cs : List Value, Rd w A cs ∧ (∀ b, ablk A = some b → b < base) ∧
    ∀ j p, l[j]? = some p → ∃ A' n' c', cs[j * 2]? = some (.int .u8 (p.1.toNat : Int)) ∧ cs[j * 2 + 1]? = some (.slice A' n' c') ∧ n' = p.2.length ∧ n' ≤ 9223372036854775807 ∧ InsAt base w A' p.2
def ScAt (base : Nat) (w : World) (sc : Sc) (v1 v2 : Value) : Prop := VarsAt base w v1 sc.vars ∧ LoopsAt base w v2 sc.loops
section
variable {base : Nat} {w w' : World}
theorem VarsAt.below {v : Value} {vs : List (B × B)} (h : VarsAt base w v vs) (hb : Below base w w') : VarsAt base w' v vs := by
  obtain ⟨A, n, c, h1, h2, h3, h4, h5⟩ := h
  exact ⟨A, n, c, h1, h2, h3, h4.below hb h5, h5⟩
theorem InsAt.below {A : Option Addr} {l : List (List (B × B))} (h : InsAt base w A l) (hb : Below base w w') : InsAt base w' A l := by
  obtain ⟨cs, h1, h2, h3⟩ := h
  refine ⟨cs, h1.below hb h2, h2, fun j vs hj => ?_⟩
  obtain ⟨v, q1, q2, q3⟩ := h3 j vs hj
  exact ⟨v, q1, q2, q3.below hb⟩
theorem LoopsAt.below {v : Value} {l : List (UInt8 × List (List (B × B)))} (h : LoopsAt base w v l) (hb : Below base w w') : LoopsAt base w' v l := by
  obtain ⟨A, n, c, h1, h2, h3, cs, h4, h5, h6⟩ := h
  refine ⟨A, n, c, h1, h2, h3, cs, h4.below hb h5, h5, fun j p hj => ?_⟩
  obtain ⟨A', n', c', q1, q2, q3, q4, q5⟩ := h6 j p hj
  exact ⟨A', n', c', q1, q2, q3, q4, q5.below hb⟩
theorem ScAt.below {sc : Sc} {v1 v2 : Value} (h : ScAt base w sc v1 v2) (hb : Below base w w') : ScAt base w' sc v1 v2 := ⟨h.1.below hb, h.2.below hb⟩
end
/-- The expander: its box mb, its stack's block ab (the innermost scope last), how deep, how many steps. -/
structure Mk (base mb : Nat) (w : World) (ab cap : Nat) (scs : List (Option Sc)) (deep steps : Nat) : Prop where
  h : w.heap[mb]? = some (.cells #[.slice (some ⟨ab, 0, none⟩) scs.length cap, .int .i64 deep, .int .i64 steps] 56 (0, 0))
  lo : base ≤ mb
  dl : deep ≤ 16
  sl : steps ≤ 10000
  ne : ab ≠ mb
  tb : TB base w
  sc : ∃ cs : List Value, w.ownsRow base 28 2 (.slice (some ⟨ab, 0, none⟩) scs.length cap) scs.length cs ∧
    ∀ j o, scs.reverse[j]? = some o → ∃ v1 v2, cs[j * 2]? = some v1 ∧ cs[j * 2 + 1]? = some v2 ∧ v1.oneCell' = true ∧ v2.oneCell' = true ∧ ∀ s, o = some s → ScAt base w s v1 v2
section
variable {base mb ab cap deep steps : Nat} {w w' : World} {scs : List (Option Sc)}
theorem Mk.lt (h : Mk base mb w ab cap scs deep steps) : mb < w.heap.size := (Array.getElem?_eq_some_iff.1 h.h).1
theorem Mk.c0 (h : Mk base mb w ab cap scs deep steps) : w.cell? ⟨mb, 0, none⟩ = some (.slice (some ⟨ab, 0, none⟩) scs.length cap) := by rw [cell_of_heap h.h]; rfl
theorem Mk.c1 (h : Mk base mb w ab cap scs deep steps) : w.cell? ⟨mb, 1, none⟩ = some (.int .i64 deep) := by rw [cell_of_heap h.h]; rfl
theorem Mk.c2 (h : Mk base mb w ab cap scs deep steps) : w.cell? ⟨mb, 2, none⟩ = some (.int .i64 steps) := by rw [cell_of_heap h.h]; rfl
theorem Mk.grown (h : Mk base mb w ab cap scs deep steps) (hB : base ≤ w.heap.size) (g : w.grownBy w' none) : Mk base mb w' ab cap scs deep steps := by
  obtain ⟨cs, h1, h2⟩ := h.sc
  refine ⟨(g.block mb h.lt (by simp)).trans h.h, h.lo, h.dl, h.sl, h.ne, h.tb.below ⟨g.os, g.tape, g.output, g.size, fun k hk => g.block k (by omega) (by simp)⟩, cs, own_keep h1 g, fun j o hj => ?_⟩
  obtain ⟨v1, v2, q1, q2, q3, q4, q5⟩ := h2 j o hj
  exact ⟨v1, v2, q1, q2, q3, q4, fun s hs => (q5 s hs).below ⟨g.os, g.tape, g.output, g.size, fun k hk => g.block k (by omega) (by simp)⟩⟩
end
end Go.Proofs.YtfhdfhlabkeipaaGreatDoor
