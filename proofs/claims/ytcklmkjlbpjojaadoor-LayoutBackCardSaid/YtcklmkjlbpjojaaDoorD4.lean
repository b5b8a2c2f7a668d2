/- Layout: a place in a tree, and what is turned there. No walk. -/
import Derived.Test.YtcklmkjlbpjojaaDoorC3
namespace Go.Proofs.YtcklmkjlbpjojaaDoor
open Go.RowKit
set_option linter.unusedSimpArgs false
set_option linter.unusedVariables false

/-- A node above a place: the kids ahead of it, those behind it. -/
structure Fr where
  n : Nd
  L : List T
  R : List T
def plug : List Fr → T → T
  | [], t => t
  | f :: c, t => plug c (.mk f.n (f.L ++ t :: f.R))
def upOf : List Fr → Option Nat
  | [] => none
  | f :: _ => some f.n.g
/-- The blocks round a place. -/
def cbl : List Fr → List Nat
  | [] => []
  | f :: c => (f.n.g :: f.n.A.toList) ++ (blL f.L ++ blL f.R) ++ cbl c
theorem At.congr {w : World} {up : Option Nat} {n : Nd} {ks ks' : List T} (h : At w up n ks) (e : ptrs ks' = ptrs ks) : At w up n ks' := by
  have hl : ks'.length = ks.length := by have := congrArg List.length e; simpa [ptrs] using this
  exact ⟨by rw [hl]; exact h.h, by rw [hl, e]; exact h.r⟩
theorem perm_plug : ∀ (c : List Fr) (t : T), (plug c t).bl.Perm (cbl c ++ t.bl)
  | [], t => by simp [plug, cbl]
  | f :: c, t => by
    rw [plug]
    refine (perm_plug c _).trans ?_
    rw [T.bl_mk, blL_app, blL_cons, cbl]
    have h1 : (blL f.L ++ (t.bl ++ blL f.R)).Perm ((blL f.L ++ blL f.R) ++ t.bl) := by
      rw [List.append_assoc]
      exact List.Perm.append_left _ List.perm_append_comm
    have h2 : (f.n.g :: (f.n.A.toList ++ (blL f.L ++ (t.bl ++ blL f.R)))).Perm (((f.n.g :: f.n.A.toList) ++ (blL f.L ++ blL f.R)) ++ t.bl) := by
      show ((f.n.g :: f.n.A.toList) ++ (blL f.L ++ (t.bl ++ blL f.R))).Perm _
      rw [List.append_assoc (f.n.g :: f.n.A.toList)]
      exact List.Perm.append_left _ h1
    exact (List.Perm.append_left _ h2).trans (by
      rw [← List.append_assoc]
      exact List.Perm.append_right _ List.perm_append_comm)
/-- What lies round a place whose node is at g. -/
def CP (w : World) : List Fr → T → Prop
  | [], _ => True
  | f :: c, t => At w (upOf c) f.n (f.L ++ t :: f.R) ∧ TPs w (some f.n.g) f.L ∧ TPs w (some f.n.g) f.R ∧ CP w c (.mk f.n (f.L ++ t :: f.R))
theorem TP_plug {w : World} : ∀ (c : List Fr) (t : T), TP w none (plug c t) ↔ CP w c t ∧ TP w (upOf c) t
  | [], t => by simp [plug, CP, upOf]
  | f :: c, t => by
    rw [plug, TP_plug c, CP]
    constructor
    · rintro ⟨h1, h2⟩
      have hk := h2.kids
      rw [TPs_app, TPs] at hk
      exact ⟨⟨h2.at_, hk.1, hk.2.2, h1⟩, hk.2.1⟩
    · rintro ⟨⟨h1, h2, h3, h4⟩, h5⟩
      exact ⟨h4, .mk h1 (by rw [TPs_app, TPs]; exact ⟨h2, h5, h3⟩)⟩
theorem CP.other {w w' : World} : ∀ (c : List Fr) (t t' : T), CP w c t → t'.g = t.g → (∀ b ∈ cbl c, w'.heap[b]? = w.heap[b]?) → CP w' c t'
  | [], t, t', _, _, _ => trivial
  | f :: c, t, t', ⟨h1, h2, h3, h4⟩, hg, hs => by
    rw [cbl] at hs
    refine ⟨(h1.same fun b hb => hs b (by simp only [List.mem_append]; exact .inl (.inl hb))).congr (by simp [ptrs, hg]), TPs_iff.2 fun k hk => (TPs_iff.1 h2 k hk).same _ _ fun b hb => hs b ?_, TPs_iff.2 fun k hk => (TPs_iff.1 h3 k hk).same _ _ fun b hb => hs b ?_, CP.other c _ _ h4 rfl fun b hb => hs b (by simp [hb])⟩
    · simp only [List.mem_append]; exact .inl (.inr (.inl (mem_blL.2 ⟨k, hk, hb⟩)))
    · simp only [List.mem_append]; exact .inl (.inr (.inr (mem_blL.2 ⟨k, hk, hb⟩)))
theorem leaf_plug : ∀ (t s : T), s ∈ t.leaves → ∃ c, t = plug c s := by
  intro t
  induction t using T.ind with
  | h n ks ih =>
    intro s hs
    rw [T.leaves_mk] at hs
    rcases List.mem_append.1 hs with hs | hs
    · split at hs
      · simp only [List.mem_singleton] at hs
        exact ⟨[], hs.symm⟩
      · cases hs
    · obtain ⟨k, hk, hs⟩ := mem_leavesL.1 hs
      obtain ⟨c, rfl⟩ := ih k hk s hs
      obtain ⟨L, R, rfl⟩ := List.append_of_mem hk
      refine ⟨c ++ [⟨n, L, R⟩], ?_⟩
      have : ∀ (c : List Fr) (s : T), plug (c ++ [⟨n, L, R⟩]) s = .mk n (L ++ plug c s :: R) := by
        intro c
        induction c with
        | nil => intro s; rfl
        | cons f c ih => intro s; rw [List.cons_append, plug, ih, plug]
      rw [this]

/-- What is turned at a place, the node's block kept. -/
theorem Tr.focus {base tr : Nat} {w w' : World} {c : List Fr} {t t' : T} {S : List Nat} (h : Tr base w tr (plug c t)) (ho : Off S w w') (hS : ∀ b ∈ S, b ∈ t.bl ∨ w.heap.size ≤ b)
    (hT : TP w' (upOf c) t') (hg : t'.g = t.g) (hN : t'.bl.Nodup) (hb : ∀ b ∈ t'.bl, b ∈ t.bl ∨ w.heap.size ≤ b) (hbase : base ≤ w.heap.size) : Tr base w' tr (plug c t') := by
  have hp := perm_plug c t
  have hp' := perm_plug c t'
  have hnd := hp.nodup_iff.1 h.nd
  obtain ⟨n1, n2, n3⟩ := List.nodup_append.1 hnd
  have hlt : ∀ b ∈ cbl c ++ t.bl, b < w.heap.size := fun b hb' => h.p.lt _ _ b (hp.mem_iff.2 hb')
  have hcS : ∀ b ∈ cbl c, b ∉ S := fun b hb' hm => by
    rcases hS b hm with h1 | h1
    · exact n3 b hb' b h1 rfl
    · have := hlt b (by simp [hb']); omega
  have hcl : ∀ b ∈ cbl c, w'.heap[b]? = w.heap[b]? := fun b hb' => ho.block b (hlt b (by simp [hb'])) (hcS b hb')
  have htr := h.lt
  have htrS : tr ∉ S := fun hm => by
    rcases hS tr hm with h1 | h1
    · exact h.nt (hp.mem_iff.2 (by simp [h1]))
    · omega
  have hpt := (TP_plug c t).1 h.p
  refine ⟨?_, (TP_plug c t').2 ⟨CP.other c t t' hpt.1 hg hcl, hT⟩, ?_, ?_, h.lo.1, ?_⟩
  · have e : (plug c t').g = (plug c t).g := by
      rcases c with _ | ⟨f, c⟩
      · exact hg
      · have : ∀ (c : List Fr) (a b : T), a.g = b.g → (plug c a).g = (plug c b).g := by
          intro c
          induction c with
          | nil => intro a b h; exact h
          | cons f c ih => intro a b _; rw [plug, plug]; exact ih _ _ rfl
        exact this _ _ _ hg
    rw [e, ho.block tr htr htrS]; exact h.h
  · refine hp'.nodup_iff.2 (List.nodup_append.2 ⟨n1, hN, ?_⟩)
    rintro b hb1 b' hb2 rfl
    rcases hb b hb2 with h1 | h1
    · exact n3 b hb1 b h1 rfl
    · have := hlt b (by simp [hb1]); omega
  · intro hm
    rcases List.mem_append.1 (hp'.mem_iff.1 hm) with h1 | h1
    · exact h.nt (hp.mem_iff.2 (by simp [h1]))
    · rcases hb tr h1 with h2 | h2
      · exact h.nt (hp.mem_iff.2 (by simp [h2]))
      · omega
  · intro b hm
    rcases List.mem_append.1 (hp'.mem_iff.1 hm) with h1 | h1
    · exact h.lo.2 b (hp.mem_iff.2 (by simp [h1]))
    · rcases hb b h1 with h2 | h2
      · exact h.lo.2 b (hp.mem_iff.2 (by simp [h2]))
      · omega
end Go.Proofs.YtcklmkjlbpjojaaDoor
