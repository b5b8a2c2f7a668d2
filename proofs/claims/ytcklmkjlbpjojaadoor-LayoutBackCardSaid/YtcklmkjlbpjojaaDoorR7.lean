/- Layout: strings.Trim of a text's head. Layout: what is read, told by its parts alone; the panes of a tree given anew. No walk. Layout: what a body is read as. No walk. Layout: a tree's own text is read as that tree; what Apply asks of a text. No walk. Layout: Apply: what it leaves; the panes given anew, leaf by leaf. No walk. -/
import Derived.Shelf.Strings.SlTrimAscii
import Derived.Test.YtcklmkjlbpjojaaDoorR3b
import Derived.Test.YtcklmkjlbpjojaaDoorR5b
import Derived.Test.YtcklmkjlbpjojaaDoorM1
import Derived.Test.YtcklmkjlbpjojaaDoorL1
namespace Go.Proofs.YtcklmkjlbpjojaaDoor
open Go.RowKit Go.Shelf
set_option linter.unusedSimpArgs false
set_option linter.unusedVariables false
def hexSigns : List UInt8 := [48, 49, 50, 51, 52, 53, 54, 55, 56, 57, 97, 98, 99, 100, 101, 102]
theorem trim_any (s : List UInt8) (w : World) (hs : s.length ≤ 9223372036854775807) :
    Calls Tryd.prog 50 #[.string (st s), .string ⟨#[48, 49, 50, 51, 52, 53, 54, 55, 56, 57, 97, 98, 99, 100, 101, 102]⟩] w fun e w' => e = .returned (.string (st (Lib.trimS s hexSigns))) ∧ w.grownBy w' none := by
  have hcon := Any.strings_Trim_laid Tryd.lays160 (by kernel_rfl) (st s) ⟨#[48, 49, 50, 51, 52, 53, 54, 55, 56, 57, 97, 98, 99, 100, 101, 102]⟩ w (by rw [st_size]; exact hs) (by decide) (ascii_of_all (by decide))
  refine Calls.mono hcon ?_
  rintro e w' ⟨rfl, h⟩
  exact ⟨rfl, h.os, h.tape, h.output, h.size, fun k hk _ => h.block k hk⟩
end Go.Proofs.YtcklmkjlbpjojaaDoor
namespace Go.Proofs.YtcklmkjlbpjojaaDoor
open Go.RowKit
set_option linter.unusedSimpArgs false
set_option linter.unusedVariables false

mutual
/-- The panes given anew, by their blocks. -/
def T.reg (f : Nat → Int) : T → T
  | .mk n ks => .mk (if ks.length = 0 then { n with p := f n.g } else n) (regL f ks)
def regL (f : Nat → Int) : List T → List T
  | [] => []
  | k :: ks => k.reg f :: regL f ks
end
section
variable {f : Nat → Int}
theorem T.reg_mk (n : Nd) (ks : List T) : (T.mk n ks).reg f = .mk (if ks.length = 0 then { n with p := f n.g } else n) (regL f ks) := by rw [T.reg]
theorem regL_map : ∀ ks : List T, regL f ks = ks.map (T.reg f)
  | [] => by rw [regL]; rfl
  | k :: ks => by rw [regL, regL_map ks]; rfl
theorem regL_len (ks : List T) : (regL f ks).length = ks.length := by rw [regL_map]; simp
theorem T.reg_g (t : T) : (t.reg f).g = t.g := by
  cases t; rw [T.reg_mk]; simp only [T.g, T.n]; split <;> rfl
theorem T.reg_bl (t : T) : (t.reg f).bl = t.bl := by
  induction t using T.ind with
  | h n ks ih =>
    rw [T.reg_mk, T.bl_mk, T.bl_mk]
    have : ∀ l : List T, (∀ k ∈ l, (k.reg f).bl = k.bl) → blL (regL f l) = blL l := by
      intro l
      induction l with
      | nil => intro _; rw [regL]
      | cons k l ih2 => intro h; rw [regL, blL_cons, blL_cons, h k (by simp), ih2 fun k hk => h k (by simp [hk])]
    rw [this ks ih]
    split <;> rfl
theorem regL_ptrs (ks : List T) : ptrs (regL f ks) = ptrs ks := by
  rw [regL_map]; simp [ptrs, T.reg_g]
theorem T.reg_leaves (t : T) : (t.reg f).leaves = t.leaves.map (T.reg f) := by
  induction t using T.ind with
  | h n ks ih =>
    rw [T.reg_mk, T.leaves_mk, T.leaves_mk, regL_len, List.map_append]
    have : ∀ l : List T, (∀ k ∈ l, (k.reg f).leaves = k.leaves.map (T.reg f)) → leavesL (regL f l) = (leavesL l).map (T.reg f) := by
      intro l
      induction l with
      | nil => intro _; rw [regL, leavesL_nil]; rfl
      | cons k l ih2 => intro h; rw [regL, leavesL_cons, leavesL_cons, List.map_append, h k (by simp), ih2 fun k hk => h k (by simp [hk])]
    rw [this ks ih]
    split
    · rename_i h; simp [T.reg_mk, h]
    · rfl
theorem leaf_reg {t s : T} {w : World} {up : Option Nat} (hT : TP w up t) (hs : s ∈ t.leaves) : (s.reg f).n.p = f s.g := by
  obtain ⟨_, _, h, _⟩ := mem_leaves t w up hT s hs
  cases s with | mk n ks => cases h; rw [T.reg_mk]; simp [T.n, T.g]
theorem TP_reg : ∀ (t : T) (up : Option Nat) (w w' : World), TP w up t → t.bl.Nodup →
    (∀ s ∈ t.leaves, ∀ c e z, w.heap[s.g]? = some (.cells c e z) → w'.heap[s.g]? = some (.cells (c.setIfInBounds 0 (.int .i64 (f s.g))) e z)) →
    (∀ b ∈ t.bl, (∀ s ∈ t.leaves, s.g ≠ b) → w'.heap[b]? = w.heap[b]?) → TP w' up (t.reg f) := by
  intro t
  induction t using T.ind with
  | h n ks ih =>
    intro up w w' hT hN h1 h2
    have hA := hT.at_
    rw [T.bl_mk] at hN h2
    have hgA : ∀ b, n.A = some b → b ≠ n.g := fun b hb e => (List.nodup_cons.1 hN).1 (by subst e; simp [hb])
    rw [T.reg_mk]
    by_cases hk : ks.length = 0
    · have := List.eq_nil_of_length_eq_zero hk
      subst this
      rw [if_pos hk, regL]
      have hlv : (T.mk n []).leaves = [.mk n []] := by rw [T.leaves_mk, leavesL_nil]; rfl
      rw [hlv] at h1 h2
      refine .mk ⟨?_, ?_⟩ (by rw [TPs]; trivial)
      · exact h1 (.mk n []) (by simp) _ _ _ hA.h
      · refine own_same hA.r fun b hb => ?_
        rw [ownBlock_row] at hb
        replace hb : n.A = some b := hb
        exact h2 b (by simp [hb]) (by intro s hs; simp at hs; subst hs; exact fun e => hgA b hb e.symm)
    · rw [if_neg hk]
      have hlv : (T.mk n ks).leaves = leavesL ks := by rw [T.leaves_mk, if_neg hk]; rfl
      rw [hlv] at h1 h2
      have hsb : ∀ s ∈ leavesL ks, s.g ∈ blL ks := fun s hs => by
        obtain ⟨k, hk, hs⟩ := mem_leavesL.1 hs
        obtain ⟨_, _, _, h⟩ := mem_leaves k w _ (TPs_iff.1 hT.kids k hk) s hs
        exact mem_blL.2 ⟨k, hk, h _ s.g_mem⟩
      have hn1 := (List.nodup_cons.1 hN)
      have hn2 := List.nodup_append.1 hn1.2
      refine .mk ⟨?_, ?_⟩ (TPs_iff.2 fun k' hk' => ?_)
      · rw [regL_len, h2 n.g (by simp) (fun s hs e => hn1.1 (by rw [← e]; simp [hsb s hs]))]; exact hA.h
      · rw [regL_len, regL_ptrs]
        refine own_same hA.r fun b hb => ?_
        rw [ownBlock_row] at hb
        exact h2 b (by simp [hb]) (fun s hs e => hn2.2.2 b (by simp [hb]) _ (hsb s hs) e.symm)
      · rw [regL_map] at hk'
        obtain ⟨k, hk, rfl⟩ := List.mem_map.1 hk'
        have hsub : ∀ s ∈ k.leaves, s ∈ leavesL ks := fun s hs => mem_leavesL.2 ⟨k, hk, hs⟩
        have hkT := TPs_iff.1 hT.kids k hk
        obtain ⟨L, R, rfl⟩ := List.append_of_mem hk
        rw [blL_app, blL_cons] at hn2
        have hn3 := List.nodup_append.1 hn2.2.1
        have hn4 := List.nodup_append.1 hn3.2.1
        refine ih k hk _ w w' hkT hn4.1 (fun s hs => h1 s (hsub s hs)) fun b hb hs => h2 b ?_ ?_
        · simp [blL_app, blL_cons, hb]
        · intro s hs' e
          rw [leavesL_app, leavesL_cons] at hs'
          simp only [List.mem_append] at hs'
          have hx : ∀ l : List T, (∀ k ∈ l, k ∈ L ++ k :: R ∨ True) → s ∈ leavesL l → (∀ j ∈ l, TP w (some n.g) j) → s.g ∈ blL l := fun l _ hs hj => by
            obtain ⟨j, hjl, hs⟩ := mem_leavesL.1 hs
            obtain ⟨_, _, _, h⟩ := mem_leaves j w _ (hj j hjl) s hs
            exact mem_blL.2 ⟨j, hjl, h _ s.g_mem⟩
          rcases hs' with h | h | h
          · have := hx L (fun _ _ => .inr trivial) h (fun j hj => TPs_iff.1 hT.kids j (by simp [hj]))
            rw [e] at this
            exact hn3.2.2 b this b (by simp [hb]) rfl
          · exact hs s h e
          · have := hx R (fun _ _ => .inr trivial) h (fun j hj => TPs_iff.1 hT.kids j (by simp [hj]))
            rw [e] at this
            exact hn4.2.2 b hb b this rfl
end

theorem pt_inj {n n' : Nd} {ks ks' : List T} (h : (T.mk n ks).pt = (T.mk n' ks').pt) : n.p = n'.p ∧ n.x = n'.x ∧ n.y = n'.y ∧ n.a = n'.a ∧ n.b = n'.b ∧ n.way = n'.way ∧ ks.map T.pt = ks'.map T.pt := by
  rw [T.pt_mk, T.pt_mk] at h
  injection h with h1 h2 h3 h4 h5 h6 h7
  rw [ptL_map, ptL_map] at h7
  exact ⟨h1, h2, h3, h4, h5, h6, h7⟩
theorem pt_len {ks ks' : List T} (h : ks.map T.pt = ks'.map T.pt) : ks.length = ks'.length := by
  have := congrArg List.length h; simpa using this
theorem pt_n {t t' : T} (h : t.pt = t'.pt) : t.n.p = t'.n.p ∧ t.n.x = t'.n.x ∧ t.n.y = t'.n.y ∧ t.n.a = t'.n.a ∧ t.n.b = t'.n.b ∧ t.n.way = t'.n.way ∧ t.ks.length = t'.ks.length := by
  cases t; cases t'
  obtain ⟨h1, h2, h3, h4, h5, h6, h7⟩ := pt_inj h
  exact ⟨h1, h2, h3, h4, h5, h6, pt_len h7⟩
theorem sz_pt {m m' : Nd} (ha : m.a = m'.a) (hb : m.b = m'.b) (way : Int) : m.sz way = m'.sz way := by unfold Nd.sz; rw [ha, hb]
theorem right_congr : ∀ (t t' : T) (x y : Int), t.pt = t'.pt → t.right x y = t'.right x y := by
  intro t
  induction t using T.ind with
  | h n ks ih =>
    intro t' x y h
    obtain ⟨n', ks'⟩ := t'
    obtain ⟨h1, h2, h3, h4, h5, h6, h7⟩ := pt_inj h
    rw [T.right_mk, T.right_mk, h2, h3, h4, h5, pt_len h7]
    have hs : ∀ l l' : List T, l.map T.pt = l'.map T.pt → (l.map fun k => k.sz n.way + 1).sum = (l'.map fun k => k.sz n'.way + 1).sum := by
      intro l
      induction l with
      | nil => intro l' e; have := (pt_len e).symm; simp at this; subst this; rfl
      | cons k l ih2 =>
        intro l' e
        cases l' with
        | nil => simp at e
        | cons k' l' =>
          simp only [List.map_cons, List.cons.injEq] at e
          obtain ⟨_, _, _, q4, q5, _, _⟩ := pt_n e.1
          simp only [List.map_cons, List.sum_cons]
          rw [ih2 l' e.2, show k.sz n.way = k'.sz n'.way by unfold T.sz; rw [h6]; exact sz_pt q4 q5 _]
    have hr : ∀ (l l' : List T) (x y : Int), (∀ k ∈ l, ∀ (t' : T) (x y : Int), k.pt = t'.pt → k.right x y = t'.right x y) → l.map T.pt = l'.map T.pt → rightL n l x y = rightL n' l' x y := by
      intro l
      induction l with
      | nil => intro l' x y _ e; have := (pt_len e).symm; simp at this; subst this; rw [rightL_nil, rightL_nil]
      | cons k l ih2 =>
        intro l' x y hk e
        cases l' with
        | nil => simp at e
        | cons k' l' =>
          simp only [List.map_cons, List.cons.injEq] at e
          obtain ⟨_, _, _, q4, q5, q6, q7⟩ := pt_n e.1
          rw [rightL_cons, rightL_cons, hk k (by simp) k' x y e.1, q7, q6, h6]
          have z1 : k.sz (1 - n'.way) = k'.sz (1 - n'.way) := sz_pt q4 q5 _
          have z2 : k.sz n'.way = k'.sz n'.way := sz_pt q4 q5 _
          have z3 : n.sz (1 - n'.way) = n'.sz (1 - n'.way) := sz_pt h4 h5 _
          rw [z1, z2, z3, ih2 l' _ _ (fun k hk' => hk k (by simp [hk'])) e.2]
    rw [hr ks ks' x y ih h7, hs ks ks' h7, h6, sz_pt h4 h5 n'.way]
def box6 (t : T) : Int × Int × Int × Int × Int := (t.n.p, t.n.x, t.n.y, t.n.a, t.n.b)
theorem leaves_congr : ∀ (t t' : T), t.pt = t'.pt → t.leaves.map box6 = t'.leaves.map box6 := by
  intro t
  induction t using T.ind with
  | h n ks ih =>
    intro t' h
    obtain ⟨n', ks'⟩ := t'
    obtain ⟨h1, h2, h3, h4, h5, h6, h7⟩ := pt_inj h
    have hl : ∀ l l' : List T, (∀ k ∈ l, ∀ t' : T, k.pt = t'.pt → k.leaves.map box6 = t'.leaves.map box6) → l.map T.pt = l'.map T.pt → (leavesL l).map box6 = (leavesL l').map box6 := by
      intro l
      induction l with
      | nil => intro l' _ e; have := (pt_len e).symm; simp at this; subst this; rfl
      | cons k l ih2 =>
        intro l' hk e
        cases l' with
        | nil => simp at e
        | cons k' l' =>
          simp only [List.map_cons, List.cons.injEq] at e
          rw [leavesL_cons, leavesL_cons, List.map_append, List.map_append, hk k (by simp) k' e.1, ih2 l' (fun k hk' => hk k (by simp [hk'])) e.2]
    rw [T.leaves_mk, T.leaves_mk, List.map_append, List.map_append, hl ks ks' ih h7, pt_len h7]
    congr 1
    split
    · simp [box6, T.n, h1, h2, h3, h4, h5]
    · rfl
theorem leaves_len_congr {t t' : T} (h : t.pt = t'.pt) : t.leaves.length = t'.leaves.length := by
  have := congrArg List.length (leaves_congr t t' h); simpa using this
mutual
def P.ok : P → Prop
  | .mk p x y a b way ks => (0 ≤ x ∧ x < 1000000000) ∧ (0 ≤ y ∧ y < 1000000000) ∧ (0 ≤ a ∧ a < 1000000000) ∧ (0 ≤ b ∧ b < 1000000000) ∧ (way = 0 ∨ way = 1) ∧ (0 ≤ p ∧ p < 1000000000) ∧ okPL ks
def okPL : List P → Prop
  | [] => True
  | k :: ks => k.ok ∧ okPL ks
end
theorem P.ok_mk {p x y a b way : Int} {ks : List P} : (P.mk p x y a b way ks).ok ↔ (0 ≤ x ∧ x < 1000000000) ∧ (0 ≤ y ∧ y < 1000000000) ∧ (0 ≤ a ∧ a < 1000000000) ∧ (0 ≤ b ∧ b < 1000000000) ∧ (way = 0 ∨ way = 1) ∧ (0 ≤ p ∧ p < 1000000000) ∧ okPL ks := by rw [P.ok]
theorem okPL_iff : ∀ {l : List P}, okPL l ↔ ∀ k ∈ l, k.ok
  | [] => by simp [okPL]
  | k :: ks => by rw [okPL, okPL_iff]; simp
theorem bd_of_ok : ∀ t : T, t.pt.ok → t.bd ∧ ∀ m ∈ t.nds, 0 ≤ m.p ∧ m.p < 1000000000 := by
  intro t
  induction t using T.ind with
  | h n ks ih =>
    intro h
    rw [T.pt_mk, P.ok_mk, ptL_map] at h
    obtain ⟨h1, h2, h3, h4, h5, h6, h7⟩ := h
    refine ⟨fun m hm => ?_, fun m hm => ?_⟩
    all_goals
      rw [T.nds_mk] at hm
      rcases List.mem_cons.1 hm with rfl | hm
    · exact ⟨h1, h2, h3, h4, h5⟩
    · obtain ⟨k, hk, hm⟩ := mem_ndsL.1 hm
      exact (ih k hk (okPL_iff.1 h7 _ (List.mem_map_of_mem hk))).1 m hm
    · exact h6
    · obtain ⟨k, hk, hm⟩ := mem_ndsL.1 hm
      exact (ih k hk (okPL_iff.1 h7 _ (List.mem_map_of_mem hk))).2 m hm
theorem numP_int (s : List UInt8) (bad : Bool) : (0 : Int) ≤ ((numP s bad).1 : Int) ∧ ((numP s bad).1 : Int) < 1000000000 := by
  have := numP_lt s bad; omega
theorem hdP_ok (s : List UInt8) (bad : Bool) : ((0 : Int) ≤ ((hdP s bad).x : Int) ∧ ((hdP s bad).x : Int) < 1000000000) ∧ ((0 : Int) ≤ ((hdP s bad).y : Int) ∧ ((hdP s bad).y : Int) < 1000000000) ∧ ((0 : Int) ≤ ((hdP s bad).a : Int) ∧ ((hdP s bad).a : Int) < 1000000000) ∧ ((0 : Int) ≤ ((hdP s bad).b : Int) ∧ ((hdP s bad).b : Int) < 1000000000) := by
  unfold hdP
  dsimp only
  generalize h1 : numP s bad = r1
  generalize h2 : nextP [120] r1.2.1 r1.2.2 = r2
  generalize h3 : numP r2.2.1 r2.2.2 = r3
  generalize h4 : nextP [44] r3.2.1 r3.2.2 = r4
  generalize h5 : numP r4.2.1 r4.2.2 = r5
  generalize h6 : nextP [44] r5.2.1 r5.2.2 = r6
  generalize h7 : numP r6.2.1 r6.2.2 = r7
  have a1 := numP_int s bad
  have a3 := numP_int r2.2.1 r2.2.2
  have a5 := numP_int r4.2.1 r4.2.2
  have a7 := numP_int r6.2.1 r6.2.2
  rw [h1] at a1; rw [h3] at a3; rw [h5] at a5; rw [h7] at a7
  exact ⟨a5, a7, a1, a3⟩
theorem nodeP_ok : ∀ n : Nat, (∀ s bad, (nodeP n s bad).1.ok) ∧ ∀ way s bad, okPL (kidsP n way s bad).1 := by
  intro n
  induction n with
  | zero => exact ⟨fun s bad => by rw [nodeP, P.ok_mk, okPL]; simp, fun way s bad => by rw [kidsP, okPL]; trivial⟩
  | succ n ih =>
    obtain ⟨i1, i2⟩ := ih
    constructor
    · intro s bad
      have H := hdP_ok s bad
      rw [nodeP_succ]
      generalize hdP s bad = hd at H ⊢
      have h1 := H.1
      have h2 := H.2.1
      have h3 := H.2.2.1
      have h4 := H.2.2.2
      have h5 := numP_int hd.s hd.bad
      have h6 := i2 0 hd.s hd.bad
      have h7 := i2 1 hd.s hd.bad
      unfold nodeH
      generalize numP hd.s hd.bad = r1 at h5
      generalize kidsP n 0 hd.s hd.bad = r2 at h6
      generalize kidsP n 1 hd.s hd.bad = r3 at h7
      by_cases c1 : hd.c = 44
      · rw [if_pos c1]; exact P.ok_mk.2 ⟨h1, h2, h3, h4, .inl rfl, h5, by rw [okPL]; trivial⟩
      · rw [if_neg c1]
        by_cases c2 : hd.c = 123
        · rw [if_pos c2]; exact P.ok_mk.2 ⟨h1, h2, h3, h4, .inl rfl, by decide, h6⟩
        · rw [if_neg c2]
          by_cases c3 : hd.c = 91
          · rw [if_pos c3]; exact P.ok_mk.2 ⟨h1, h2, h3, h4, .inr rfl, by decide, h7⟩
          · rw [if_neg c3]; exact P.ok_mk.2 ⟨h1, h2, h3, h4, .inl rfl, by decide, by rw [okPL]; trivial⟩
    · intro way s bad
      rw [kidsP_succ]
      unfold kidsH
      split
      · rw [okPL]; exact ⟨i1 _ _, i2 _ _ _⟩
      · rw [okPL, okPL]; exact ⟨i1 _ _, trivial⟩
mutual
def P.lv : P → Nat
  | .mk _ _ _ _ _ _ ks => (if ks.length = 0 then 1 else 0) + lvL ks
def lvL : List P → Nat
  | [] => 0
  | k :: ks => k.lv + lvL ks
end
theorem P.lv_mk (p x y a b way : Int) (ks : List P) : (P.mk p x y a b way ks).lv = (if ks.length = 0 then 1 else 0) + lvL ks := by rw [P.lv]
theorem lvL_nil : lvL [] = 0 := by rw [lvL]
theorem lvL_cons (k : P) (ks : List P) : lvL (k :: ks) = k.lv + lvL ks := by rw [lvL]
theorem lv_pt : ∀ t : T, t.leaves.length = t.pt.lv := by
  intro t
  induction t using T.ind with
  | h n ks ih =>
    have : ∀ l : List T, (∀ k ∈ l, k.leaves.length = k.pt.lv) → (leavesL l).length = lvL (l.map T.pt) := by
      intro l
      induction l with
      | nil => intro _; rw [leavesL_nil, List.map_nil, lvL_nil]; rfl
      | cons k l ih2 => intro h; rw [leavesL_cons, List.length_append, List.map_cons, lvL_cons, h k (by simp), ih2 fun k hk => h k (by simp [hk])]
    rw [T.leaves_mk, List.length_append, this ks ih, T.pt_mk, P.lv_mk, ptL_map, List.length_map]
    split <;> rfl
theorem nodeP_lv : ∀ n : Nat, (∀ s bad, (nodeP n s bad).1.lv + (nodeP n s bad).2.1.length ≤ 1 + s.length) ∧ ∀ way s bad, lvL (kidsP n way s bad).1 + (kidsP n way s bad).2.1.length ≤ 1 + s.length := by
  intro n
  induction n with
  | zero => exact ⟨fun s bad => by rw [nodeP, P.lv_mk, lvL]; simp, fun way s bad => by rw [kidsP, lvL]; simp⟩
  | succ n ih =>
    obtain ⟨i1, i2⟩ := ih
    constructor
    · intro s bad
      obtain ⟨h1, h2⟩ := hdP_len s bad
      rw [nodeP_succ]
      generalize hdP s bad = hd at h1 h2
      unfold nodeH
      split
      · have := numP_len hd.s hd.bad
        rw [P.lv_mk, lvL_nil]
        simp only [List.length_nil, if_true]
        omega
      · split
        · rename_i hc
          have := i2 0 hd.s hd.bad
          have h3 := h2 (by rw [hc]; decide)
          rw [P.lv_mk]
          show (if _ then 1 else 0) + lvL _ + _ ≤ _
          split
          · rename_i h0
            have e := List.eq_nil_of_length_eq_zero h0
            rw [e, lvL_nil] at this ⊢
            show 1 + 0 + (kidsP n 0 hd.s hd.bad).2.1.length ≤ _
            omega
          · show 0 + lvL _ + (kidsP n 0 hd.s hd.bad).2.1.length ≤ _
            omega
        · split
          · rename_i _ hc
            have := i2 1 hd.s hd.bad
            have h3 := h2 (by rw [hc]; decide)
            rw [P.lv_mk]
            show (if _ then 1 else 0) + lvL _ + _ ≤ _
            split
            · rename_i h0
              have e := List.eq_nil_of_length_eq_zero h0
              rw [e, lvL_nil] at this ⊢
              show 1 + 0 + (kidsP n 1 hd.s hd.bad).2.1.length ≤ _
              omega
            · show 0 + lvL _ + (kidsP n 1 hd.s hd.bad).2.1.length ≤ _
              omega
          · rw [P.lv_mk, lvL_nil]
            simp only [List.length_nil, if_true]
            omega
    · intro way s bad
      rw [kidsP_succ]
      have a1 := i1 s bad
      generalize nodeP n s bad = r at a1
      obtain ⟨a2, a3⟩ := nextP_len [44, endB way] r.2.1 r.2.2
      generalize nextP [44, endB way] r.2.1 r.2.2 = e at a2 a3
      unfold kidsH
      split
      · rename_i hc
        have a4 := i2 way e.2.1 e.2.2
        have a5 := a3 (by rw [hc]; decide)
        rw [lvL_cons]
        show r.1.lv + lvL _ + (kidsP n way e.2.1 e.2.2).2.1.length ≤ _
        omega
      · rw [lvL_cons, lvL_nil]
        show r.1.lv + 0 + e.2.1.length ≤ _
        omega
end Go.Proofs.YtcklmkjlbpjojaaDoor
namespace Go.Proofs.YtcklmkjlbpjojaaDoor
open Go.RowKit
set_option linter.unusedSimpArgs false
set_option linter.unusedVariables false

theorem dig_ofNat {u : Nat} (h : u < 10) : dig (UInt8.ofNat (48 + u)) = true ∧ (UInt8.ofNat (48 + u)).toNat = 48 + u := by
  have : (UInt8.ofNat (48 + u)).toNat = 48 + u := by rw [UInt8.toNat_ofNat']; omega
  unfold dig
  rw [this]
  simp
  omega
theorem dd_facts : ∀ u : Nat, (∀ c ∈ Lib.decDigits u, dig c = true) ∧ valD (Lib.decDigits u) = u ∧ 1 ≤ (Lib.decDigits u).length ∧ (1 ≤ u → (Lib.decDigits u).head? ≠ some 48) ∧ (u < 10 → (Lib.decDigits u).length = 1) ∧ ∀ k, u < 10 ^ (k + 1) → (Lib.decDigits u).length ≤ k + 1 := by
  intro u
  induction u using Nat.strongRecOn with
  | _ u ih =>
    by_cases h : u < 10
    · rw [Lib.decDigits, dif_pos h]
      obtain ⟨h1, h2⟩ := dig_ofNat h
      refine ⟨fun c hc => ?_, ?_, by simp, fun h3 => ?_, fun _ => rfl, fun k _ => by simp⟩
      · rw [List.mem_singleton.1 hc]; exact h1
      · show 10 * 0 + ((UInt8.ofNat (48 + u)).toNat - 48) = u
        rw [h2]; omega
      · intro e
        have e' : UInt8.ofNat (48 + u) = 48 := by simpa using e
        have := congrArg UInt8.toNat e'
        rw [h2] at this
        have h5 : (48 : UInt8).toNat = 48 := rfl
        omega
    · rw [Lib.decDigits, dif_neg h]
      obtain ⟨i1, i2, i3, i4, i5, i6⟩ := ih (u / 10) (by omega)
      obtain ⟨h1, h2⟩ := dig_ofNat (u := u % 10) (by omega)
      refine ⟨fun c hc => ?_, ?_, by simp, fun h3 => ?_, fun h' => absurd h' h, fun k hk => ?_⟩
      · rcases List.mem_append.1 hc with hc | hc
        · exact i1 c hc
        · rw [List.mem_singleton.1 hc]; exact h1
      · rw [valD_snoc, i2, h2]; omega
      · rw [List.head?_append]
        have h4 := i4 (by omega)
        cases hd : (Lib.decDigits (u / 10)).head? with
        | none => rw [List.head?_eq_none_iff] at hd; rw [hd] at i3; simp at i3
        | some c => rw [hd] at h4; simpa using h4
      · rw [List.length_append]
        cases k with
        | zero => simp at hk; omega
        | succ k =>
          have := i6 k (by rw [Nat.pow_succ] at hk; omega)
          simp; omega
/-- What may stand behind a number. -/
def Stop (rest : List UInt8) : Prop := rest = [] ∨ ∃ c r, rest = c :: r ∧ dig c = false
theorem stop_cons {c : UInt8} (h : dig c = false) (r : List UInt8) : Stop (c :: r) := .inr ⟨c, r, rfl, h⟩
theorem numP_itoa (z : Int) (h0 : 0 ≤ z) (h1 : z < 1000000000) (rest : List UInt8) (hr : Stop rest) (bad : Bool) : numP (Lib.itoa z ++ rest) bad = (z.toNat, rest, bad) := by
  have e : Lib.itoa z = Lib.decDigits z.toNat := by unfold Lib.itoa; rw [if_neg (by omega)]
  rw [e]
  obtain ⟨d1, d2, d3, d4, d5, d6⟩ := dd_facts z.toNat
  have d7 := d6 8 (by have : (10 : Nat) ^ (8 + 1) = 1000000000 := rfl; omega)
  generalize hD : Lib.decDigits z.toNat = D at d1 d2 d3 d4 d5 d7 ⊢
  have ht : (D ++ rest).take D.length = D := by simp
  have hx := num_exit (s := D ++ rest) (bad := bad) (j := D.length) (by simp) (by omega) (by rw [ht]; exact d1) (by
    rcases hr with hr | ⟨c, r, hr, hc⟩
    · left; rw [hr]; simp
    · right; refine ⟨c, ?_, hc⟩; rw [hr]; simp)
  rw [hx, ht]
  have hn : ¬ (D.length = 0 ∨ (1 < D.length ∧ (D ++ rest).head? = some 48)) := by
    rintro (h | ⟨h, h'⟩)
    · omega
    · have h2 : 1 ≤ z.toNat := by
        rcases Nat.lt_or_ge z.toNat 10 with h3 | h3
        · have := d5 h3; omega
        · omega
      have h3 := d4 h2
      cases D with
      | nil => simp at h
      | cons c D => exact h3 (by simpa using h')
  rw [if_neg hn, d2]
  simp
theorem nextP_hit {l : List UInt8} {c : UInt8} (h : c ∈ l) (r : List UInt8) (bad : Bool) : nextP l (c :: r) bad = (c, r, bad) := by rw [nextP_cons, if_pos h]
def Nd.sm (n : Nd) : Prop := (0 ≤ n.p ∧ n.p < 1000000000) ∧ (0 ≤ n.x ∧ n.x < 1000000000) ∧ (0 ≤ n.y ∧ n.y < 1000000000) ∧ (0 ≤ n.a ∧ n.a < 1000000000) ∧ (0 ≤ n.b ∧ n.b < 1000000000)
theorem hdP_head (n : Nd) (h : n.sm) (c : UInt8) (r : List UInt8) (hc : c ∈ [44, 123, 91]) : hdP (headB n ++ c :: r) false = ⟨n.a.toNat, n.b.toNat, n.x.toNat, n.y.toNat, c, r, false⟩ := by
  obtain ⟨h1, h2, h3, h4, h5⟩ := h
  have hdc : dig c = false := by
    simp only [List.mem_cons, List.mem_nil_iff, or_false] at hc
    rcases hc with rfl | rfl | rfl <;> rfl
  have e : headB n ++ c :: r = Lib.itoa n.a ++ 120 :: (Lib.itoa n.b ++ 44 :: (Lib.itoa n.x ++ 44 :: (Lib.itoa n.y ++ c :: r))) := by
    unfold headB; simp
  rw [e]
  unfold hdP
  rw [numP_itoa n.a h4.1 h4.2 _ (stop_cons rfl _)]
  dsimp only
  rw [nextP_hit (by simp)]
  dsimp only
  rw [numP_itoa n.b h5.1 h5.2 _ (stop_cons rfl _)]
  dsimp only
  rw [nextP_hit (by simp)]
  dsimp only
  rw [numP_itoa n.x h2.1 h2.2 _ (stop_cons rfl _)]
  dsimp only
  rw [nextP_hit (by simp)]
  dsimp only
  rw [numP_itoa n.y h3.1 h3.2 _ (stop_cons hdc _)]
  dsimp only
  rw [nextP_hit hc]
theorem join_one (a : List UInt8) : Lib.join [a] [44] = a := by simp [Lib.join]
theorem join_two (a b : List UInt8) (l : List (List UInt8)) : Lib.join (a :: b :: l) [44] = a ++ 44 :: Lib.join (b :: l) [44] := by simp [Lib.join]
theorem nodeP_body : ∀ t : T, (∀ m ∈ t.nds, m.sm) → t.er.ok → ∀ (n : Nat) (rest : List UInt8), Stop rest → 2 * (t.body ++ rest).length + 2 ≤ n → nodeP n (t.body ++ rest) false = (t.pt, rest, false) := by
  intro t
  induction t using T.ind with
  | h nd ks ih =>
    intro hsm hok n rest hst hn
    have hnd := hsm nd (by rw [T.nds_mk]; simp)
    have hN := hnd
    obtain ⟨h1, h2, h3, h4, h5⟩ := hnd
    have ca : ((nd.a.toNat : Nat) : Int) = nd.a := Int.toNat_of_nonneg h4.1
    have cb : ((nd.b.toNat : Nat) : Int) = nd.b := Int.toNat_of_nonneg h5.1
    have cx : ((nd.x.toNat : Nat) : Int) = nd.x := Int.toNat_of_nonneg h2.1
    have cy : ((nd.y.toNat : Nat) : Int) = nd.y := Int.toNat_of_nonneg h3.1
    have cp : ((nd.p.toNat : Nat) : Int) = nd.p := Int.toNat_of_nonneg h1.1
    obtain ⟨m, rfl⟩ : ∃ m, n = m + 1 := ⟨n - 1, by omega⟩
    rcases ok_T.1 hok with ⟨k1, k2, k3⟩ | ⟨k1, k2, k3, k4, k5, k6, k7, k8⟩
    · subst k1
      have eb : (T.mk nd []).body ++ rest = headB nd ++ 44 :: (Lib.itoa nd.p ++ rest) := by rw [T.body_mk]; simp
      rw [eb, nodeP_succ, hdP_head nd hN 44 _ (by simp)]
      unfold nodeH
      rw [if_pos rfl, numP_itoa nd.p h1.1 h1.2 rest hst]
      rw [T.pt_mk, ca, cb, cx, cy, cp, k2, ptL]
    · have hkids : ∀ (l : List T) (m : Nat) (e : UInt8), (∀ k ∈ l, k ∈ ks) → l ≠ [] → e = endB nd.way → dig e = false → e ≠ 44 → 2 * (Lib.join (bodyL l) [44] ++ e :: rest).length + 3 ≤ m →
          kidsP m nd.way (Lib.join (bodyL l) [44] ++ e :: rest) false = (l.map T.pt, rest, false) := by
        intro l
        induction l with
        | nil => intro m e _ h; exact absurd rfl h
        | cons k l ih2 =>
          intro m e hmem _ he hde he4 hm
          obtain ⟨m', rfl⟩ : ∃ m', m = m' + 1 := ⟨m - 1, by omega⟩
          have hk := hmem k (by simp)
          rw [kidsP_succ]
          have IH := fun r hr hr2 => ih k hk (fun q hq => hsm q (by rw [T.nds_mk]; simp [mem_ndsL.2 ⟨k, hk, hq⟩])) (k8 k hk) m' r hr hr2
          cases l with
          | nil =>
            rw [bodyL_cons, bodyL_nil, join_one] at hm ⊢
            rw [IH (e :: rest) (stop_cons hde _) (by simp only [List.length_append, List.length_cons] at hm ⊢; omega)]
            dsimp only
            rw [nextP_hit (by rw [he]; simp)]
            unfold kidsH
            rw [if_neg he4]
            rfl
          | cons k2 l =>
            rw [bodyL_cons, bodyL_cons, join_two] at hm ⊢
            have e1 : k.body ++ 44 :: Lib.join (k2.body :: bodyL l) [44] ++ e :: rest = k.body ++ 44 :: (Lib.join (bodyL (k2 :: l)) [44] ++ e :: rest) := by rw [bodyL_cons]; simp
            rw [e1] at hm ⊢
            rw [IH (44 :: _) (stop_cons rfl _) (by simp only [List.length_append, List.length_cons] at hm ⊢; omega)]
            dsimp only
            rw [nextP_hit (by simp)]
            unfold kidsH
            rw [if_pos rfl]
            dsimp only
            rw [ih2 m' e (fun k hk => hmem k (by simp [hk])) (by simp) he hde he4 (by simp only [List.length_append, List.length_cons] at hm ⊢; omega)]
            rfl
      have hne : ks ≠ [] := by rintro rfl; simp at k4
      have hkl : ks.length ≠ 0 := by omega
      rcases k5 with hw | hw
      · have eb : (T.mk nd ks).body ++ rest = headB nd ++ 123 :: (Lib.join (bodyL ks) [44] ++ 125 :: rest) := by rw [T.body_mk, if_neg hkl, hw]; simp
        rw [eb] at hn ⊢
        rw [nodeP_succ, hdP_head nd hN 123 _ (by simp)]
        have hK := hkids ks m 125 (fun k hk => hk) hne (by rw [hw]; rfl) rfl (by decide) (by simp only [List.length_append, List.length_cons] at hn ⊢; omega)
        rw [hw] at hK
        unfold nodeH
        dsimp only
        rw [if_neg (by decide), if_pos rfl, hK, T.pt_mk, ca, cb, cx, cy, k1, hw, ptL_map]
      · have eb : (T.mk nd ks).body ++ rest = headB nd ++ 91 :: (Lib.join (bodyL ks) [44] ++ 93 :: rest) := by rw [T.body_mk, if_neg hkl, hw]; simp
        rw [eb] at hn ⊢
        rw [nodeP_succ, hdP_head nd hN 91 _ (by simp)]
        have hK := hkids ks m 93 (fun k hk => hk) hne (by rw [hw]; rfl) rfl (by decide) (by simp only [List.length_append, List.length_cons] at hn ⊢; omega)
        rw [hw] at hK
        unfold nodeH
        dsimp only
        rw [if_neg (by decide), if_neg (by decide), if_pos rfl, hK, T.pt_mk, ca, cb, cx, cy, k1, hw, ptL_map]
end Go.Proofs.YtcklmkjlbpjojaaDoor
namespace Go.Proofs.YtcklmkjlbpjojaaDoor
open Go.RowKit
set_option linter.unusedSimpArgs false
set_option linter.unusedVariables false

theorem hexs_four (n : Nat) : hexs n 4 = [hexd (n / 4096 % 16), hexd (n / 256 % 16), hexd (n / 16 % 16), hexd (n % 16)] := by
  simp [hexs]
theorem fourB_hexs {n : Nat} (hn : n < 65536) : fourB n = hexs n 4 := by
  rw [hexs_four]
  have h0 : hexd 0 = 48 := rfl
  unfold fourB hex hexlen
  by_cases h1 : n < 16
  · rw [if_pos h1, show n / 4096 = 0 by omega, show n / 256 = 0 by omega, show n / 16 = 0 by omega]
    simp [hexs, h0]
  · rw [if_neg h1]
    by_cases h2 : n < 256
    · rw [if_pos h2, show n / 4096 = 0 by omega, show n / 256 = 0 by omega]
      simp [hexs, h0]
    · rw [if_neg h2]
      by_cases h3 : n < 4096
      · rw [if_pos h3, show n / 4096 = 0 by omega]
        simp [hexs, h0]
      · rw [if_neg h3]
        simp [hexs]
theorem hexd_inj : ∀ a, a < 16 → ∀ b, b < 16 → hexd a = hexd b → a = b := by decide
theorem hexd_sign : ∀ a, a < 16 → hexSigns.contains (hexd a) = true := by decide
theorem fourB_inj {n m : Nat} (hn : n < 65536) (hm : m < 65536) (h : fourB n = fourB m) : n = m := by
  rw [fourB_hexs hn, fourB_hexs hm, hexs_four, hexs_four] at h
  injection h with h1 h; injection h with h2 h; injection h with h3 h; injection h with h4 h
  have k1 := hexd_inj _ (Nat.mod_lt _ (by decide)) _ (Nat.mod_lt _ (by decide)) h1
  have k2 := hexd_inj _ (Nat.mod_lt _ (by decide)) _ (Nat.mod_lt _ (by decide)) h2
  have k3 := hexd_inj _ (Nat.mod_lt _ (by decide)) _ (Nat.mod_lt _ (by decide)) h3
  have k4 := hexd_inj _ (Nat.mod_lt _ (by decide)) _ (Nat.mod_lt _ (by decide)) h4
  omega
theorem fourB_len4 {n : Nat} (hn : n < 65536) : (fourB n).length = 4 := by rw [fourB_hexs hn, hexs_four]; rfl
theorem dw_all {p : UInt8 → Bool} : ∀ {l : List UInt8}, (∀ c ∈ l, p c = true) → l.dropWhile p = []
  | [], _ => rfl
  | c :: l, h => by rw [List.dropWhile_cons, if_pos (h c (by simp))]; exact dw_all fun d hd => h d (by simp [hd])
theorem trim_four {n : Nat} (hn : n < 65536) : Lib.trimS (fourB n) hexSigns = [] := by
  have h : ∀ c ∈ (fourB n).reverse, hexSigns.contains c = true := by
    intro c hc
    rw [List.mem_reverse, fourB_hexs hn, hexs_four] at hc
    simp only [List.mem_cons, List.not_mem_nil, or_false] at hc
    rcases hc with rfl | rfl | rfl | rfl <;> exact hexd_sign _ (Nat.mod_lt _ (by decide))
  unfold Lib.trimS Lib.trimRightS
  rw [dw_all h]
  rfl

/-- What Apply asks of a text, the number of panes apart. -/
structure AppAt (s : List UInt8) (t0 : T) : Prop where
  l1 : s.length ≤ 4096
  l2 : 5 ≤ s.length
  c : s[4]? = some 44
  tr : Lib.trimS (s.take 4) hexSigns = []
  su : s.take 4 = fourB (sumB (s.drop 5))
  rd : nodeP (2 * (s.drop 5).length + 2) (s.drop 5) false = (t0.pt, [], false)
  may : mayB t0.n.a t0.n.b = true
  rt : t0.right 0 0 = true
theorem AppAt.same {s : List UInt8} {t0 t1 : T} (h : AppAt s t0) (k : AppAt s t1) : t0.pt = t1.pt := by
  have := h.rd.symm.trans k.rd
  exact congrArg Prod.fst this
theorem AppAt.bd {s : List UInt8} {t0 : T} (h : AppAt s t0) : t0.bd ∧ ∀ m ∈ t0.nds, 0 ≤ m.p ∧ m.p < 1000000000 := by
  refine bd_of_ok t0 ?_
  have := (nodeP_ok (2 * (s.drop 5).length + 2)).1 (s.drop 5) false
  rw [h.rd] at this
  exact this

theorem right_place (t : T) : ∀ x y : Int, t.er.ok → t.er.alt → 0 ≤ x → 0 ≤ y → x + t.n.a ≤ 1000 → y + t.n.b ≤ 1000 → (t.place x y).right x y = true := by
  induction t using T.ind with
  | h n ks ih =>
    intro x y hok halt hx hy hxa hyb
    change x + n.a ≤ 1000 at hxa
    change y + n.b ≤ 1000 at hyb
    rw [T.place_mk, T.right_mk]
    obtain ⟨hal, hka⟩ := alt_T.1 halt
    rcases ok_T.1 hok with ⟨k1, k2, k3, k4, k5⟩ | ⟨k1, k2, k3, k4, k5, k6, k7, k8⟩
    · subst k1
      rw [placeL_nil]
      simp [k4, k5]
    · rw [decide_eq_true (show _ ∧ _ ∧ _ ∧ _ from ⟨rfl, rfl, k2, k3⟩), placeL_len, Bool.true_and, Bool.or_eq_true]
      right
      rw [Bool.and_eq_true]
      have hsum : ∀ (l : List T) (x y : Int), ((placeL n.way l x y).map fun k => k.sz n.way + 1).sum = (l.map fun k => k.sz n.way + 1).sum := by
        intro l
        induction l with
        | nil => intro x y; rw [placeL_nil]
        | cons k l ih2 =>
          intro x y
          rw [placeL_cons, List.map_cons, List.map_cons, List.sum_cons, List.sum_cons, ih2]
          have : (k.place x y).sz n.way = k.sz n.way := by unfold T.sz Nd.sz; rw [T.place_n]
          rw [this]
      have hge : ∀ k ∈ ks, 1 ≤ k.n.a ∧ 1 ≤ k.n.b := fun k hk => by
        have := (k8 k hk).ge
        rw [T.er_a, T.er_b] at this; exact this
      have hrest : ∀ l : List T, (∀ k ∈ l, k ∈ ks) → 0 ≤ (l.map fun k => k.sz n.way + 1).sum := by
        intro l
        induction l with
        | nil => intro _; simp
        | cons k l ih2 =>
          intro hl
          have h1 := hge k (hl k (by simp))
          have h2 := ih2 fun j hj => hl j (by simp [hj])
          rw [List.map_cons, List.sum_cons]
          have : 1 ≤ k.sz n.way := by unfold T.sz Nd.sz; split <;> omega
          omega
      refine ⟨?_, decide_eq_true ⟨by omega, by rw [hsum]; exact k7⟩⟩
      rcases k5 with hw | hw
      · have key : ∀ (l : List T) (x' : Int), (∀ k ∈ l, k ∈ ks) → 0 ≤ x' → (l.map fun k => k.sz n.way + 1).sum + x' ≤ x + n.a + 1 → rightL { n with x := x, y := y } (placeL n.way l x' y) x' y = true := by
          intro l
          induction l with
          | nil => intro x' _ _ _; rw [placeL_nil, rightL_nil]
          | cons k l ih2 =>
            intro x' hl hx' hs
            have hk := hl k (by simp)
            have hr := hrest l fun j hj => hl j (by simp [hj])
            obtain ⟨g1, g2⟩ := hge k hk
            have hc := k6 k hk
            have z1 : k.sz n.way = k.n.a := by rw [hw]; rfl
            have z2 : k.sz (1 - n.way) = k.n.b := by rw [hw]; rfl
            have z3 : n.sz (1 - n.way) = n.b := by rw [hw]; rfl
            rw [z2, z3] at hc
            rw [List.map_cons, List.sum_cons, z1] at hs
            rw [placeL_cons, rightL_cons, ih k hk x' y (k8 k hk) (hka k hk) hx' hy (by omega) (by omega), Bool.true_and]
            have p1 : (k.place x' y).sz n.way = k.n.a := by unfold T.sz; rw [T.place_n, hw]; rfl
            have p2 : (k.place x' y).sz (1 - n.way) = k.n.b := by unfold T.sz; rw [T.place_n, hw]; rfl
            have p3 : (k.place x' y).ks.length = k.ks.length := by cases k; rw [T.place_mk]; exact placeL_len _ _ _ _
            have p4 : (k.place x' y).n.way = k.n.way := by rw [T.place_n]
            have p5 : Nd.sz { n with x := x, y := y } (1 - n.way) = n.b := by rw [hw]; rfl
            dsimp only
            rw [p1, p2, p3, p4, p5, decide_eq_true hc]
            have hd : decide (k.ks.length ≠ 0 ∧ k.n.way = n.way) = false := by
              refine decide_eq_false fun h => ?_
              rcases hal k hk with h' | h'
              · exact h.1 (by rw [h']; rfl)
              · exact h' h.2
            rw [hd, if_pos hw, if_pos hw]
            have e1 : nx n.way k.n x' = x' + (k.n.a + 1) := by unfold nx; rw [if_pos hw, wr_of (z := k.n.a + 1) (by omega), wr_of (by omega)]
            have e2 : ny n.way k.n y = y := by unfold ny; rw [if_pos hw]
            rw [e1, e2, ih2 (x' + (k.n.a + 1)) (fun j hj => hl j (by simp [hj])) (by omega) (by omega)]
            rfl
        refine key ks x (fun _ h => h) hx ?_
        rw [k7]
        have : n.sz n.way = n.a := by rw [hw]; rfl
        omega
      · have hw0 : ¬ n.way = 0 := by omega
        have key : ∀ (l : List T) (y' : Int), (∀ k ∈ l, k ∈ ks) → 0 ≤ y' → (l.map fun k => k.sz n.way + 1).sum + y' ≤ y + n.b + 1 → rightL { n with x := x, y := y } (placeL n.way l x y') x y' = true := by
          intro l
          induction l with
          | nil => intro y' _ _ _; rw [placeL_nil, rightL_nil]
          | cons k l ih2 =>
            intro y' hl hy' hs
            have hk := hl k (by simp)
            have hr := hrest l fun j hj => hl j (by simp [hj])
            obtain ⟨g1, g2⟩ := hge k hk
            have hc := k6 k hk
            have z1 : k.sz n.way = k.n.b := by rw [hw]; rfl
            have z2 : k.sz (1 - n.way) = k.n.a := by rw [hw]; rfl
            have z3 : n.sz (1 - n.way) = n.a := by rw [hw]; rfl
            rw [z2, z3] at hc
            rw [List.map_cons, List.sum_cons, z1] at hs
            rw [placeL_cons, rightL_cons, ih k hk x y' (k8 k hk) (hka k hk) hx hy' (by omega) (by omega), Bool.true_and]
            have p1 : (k.place x y').sz n.way = k.n.b := by unfold T.sz; rw [T.place_n, hw]; rfl
            have p2 : (k.place x y').sz (1 - n.way) = k.n.a := by unfold T.sz; rw [T.place_n, hw]; rfl
            have p3 : (k.place x y').ks.length = k.ks.length := by cases k; rw [T.place_mk]; exact placeL_len _ _ _ _
            have p4 : (k.place x y').n.way = k.n.way := by rw [T.place_n]
            have p5 : Nd.sz { n with x := x, y := y } (1 - n.way) = n.a := by rw [hw]; rfl
            dsimp only
            rw [p1, p2, p3, p4, p5, decide_eq_true hc]
            have hd : decide (k.ks.length ≠ 0 ∧ k.n.way = n.way) = false := by
              refine decide_eq_false fun h => ?_
              rcases hal k hk with h' | h'
              · exact h.1 (by rw [h']; rfl)
              · exact h' h.2
            rw [hd, if_neg hw0, if_neg hw0]
            have e1 : ny n.way k.n y' = y' + (k.n.b + 1) := by unfold ny; rw [if_neg hw0, wr_of (z := k.n.b + 1) (by omega), wr_of (by omega)]
            have e2 : nx n.way k.n x = x := by unfold nx; rw [if_neg hw0]
            rw [e1, e2, ih2 (y' + (k.n.b + 1)) (fun j hj => hl j (by simp [hj])) (by omega) (by omega)]
            rfl
        refine key ks y (fun _ h => h) hy ?_
        rw [k7]
        have : n.sz n.way = n.b := by rw [hw]; rfl
        omega
theorem body_len2 (t : T) : (∀ m ∈ t.nds, (0 ≤ m.p ∧ m.p ≤ 999) ∧ (0 ≤ m.x ∧ m.x ≤ 1000) ∧ (0 ≤ m.y ∧ m.y ≤ 1000) ∧ (1 ≤ m.a ∧ m.a ≤ 1000) ∧ (1 ≤ m.b ∧ m.b ≤ 1000)) → t.body.length + 1 ≤ 25 * t.nds.length := by
  induction t using T.ind with
  | h n ks ih =>
    intro h
    rw [T.nds_mk] at h
    have hn := h n (by simp)
    have l1 := itoa_len (z := n.a) (by omega) (by omega)
    have l2 := itoa_len (z := n.b) (by omega) (by omega)
    have l3 := itoa_len (z := n.x) (by omega) (by omega)
    have l4 := itoa_len (z := n.y) (by omega) (by omega)
    have l5 := itoa_len (z := n.p) (by omega) (by omega)
    rw [T.body_mk, T.nds_mk, List.length_cons]
    have hh : (headB n).length ≤ 19 := by unfold headB; simp only [List.length_append, List.length_cons, List.length_nil]; omega
    split
    · simp only [List.length_append, List.length_cons, List.length_nil]; omega
    · have key : ∀ l : List T, (∀ k ∈ l, k ∈ ks) → ((bodyL l).map fun b => b.length + 1).sum ≤ 25 * (ndsL l).length := by
        intro l
        induction l with
        | nil => intro _; rw [bodyL_nil]; simp
        | cons k l ih2 =>
          intro hl
          have h1 := ih k (hl k (by simp)) fun m hm => h m (by simp [mem_ndsL.2 ⟨k, hl k (by simp), hm⟩])
          have h2 := ih2 fun j hj => hl j (by simp [hj])
          rw [bodyL_cons, ndsL_cons, List.map_cons, List.sum_cons, List.length_append]; omega
      have h1 := key ks fun _ h => h
      have h2 := join_len (bodyL ks)
      simp only [List.length_append, List.length_cons, List.length_nil]
      omega
/-- A tree's own text is one that Apply takes for it. -/
theorem own_app {t : T} {k : Int} (hF : Fine t k) (hA : t.er.alt) (hl : t.leaves.length ≤ 31) : AppAt t.print t := by
  have hs := sumB_lt t.body
  have h4 := fourB_len4 hs
  have hp : t.print = fourB (sumB t.body) ++ 44 :: t.body := by unfold T.print; simp
  have htk : t.print.take 4 = fourB (sumB t.body) := by rw [hp, List.take_append_of_le_length (by omega), List.take_of_length_le (by omega)]
  have hdr : t.print.drop 5 = t.body := by
    rw [hp, List.drop_append, h4, List.drop_of_length_le (by omega)]; rfl
  have hnd := hF.nd
  have hb := body_len2 t hnd
  have hn := nds_len t hF.ok
  have hlen : t.print.length = 5 + t.body.length := by rw [hp, List.length_append, h4]; simp; omega
  refine ⟨by omega, by omega, ?_, by rw [htk]; exact trim_four hs, by rw [htk, hdr], ?_, ?_, ?_⟩
  · rw [hp, List.getElem?_append_right (by omega), h4]; rfl
  · rw [hdr]
    have := nodeP_body t (fun m hm => by
      have := hnd m hm
      unfold Nd.sm; omega) hF.ok (2 * t.body.length + 2) [] (.inl rfl) (by simp)
    rwa [List.append_nil] at this
  · have h1 := hF.ok.ge
    rw [T.er_a, T.er_b] at h1
    have h2 := hF.sz
    unfold mayB
    simp; omega
  · have h2 := hF.sz
    have := right_place t 0 0 hF.ok hA (by omega) (by omega) (by omega) (by omega)
    rwa [hF.pl] at this

/-- The panes as they were: nothing is given anew. -/
theorem reg_pt {f : Nat → Int} : ∀ t : T, (t.reg f).leaves.map (fun s => s.n.p) = t.leaves.map (fun s => s.n.p) → (t.reg f).pt = t.pt := by
  intro t
  induction t using T.ind with
  | h n ks ih =>
    intro h
    rw [T.reg_mk] at h ⊢
    rw [T.pt_mk, T.pt_mk]
    by_cases hk : ks.length = 0
    · have := List.eq_nil_of_length_eq_zero hk
      subst this
      rw [if_pos hk, regL] at h ⊢
      rw [T.leaves_mk, T.leaves_mk, leavesL_nil] at h
      simp [T.n] at h
      rw [h]
    · rw [if_neg hk] at h ⊢
      rw [T.leaves_mk, T.leaves_mk, regL_len, if_neg hk, if_neg hk, List.nil_append, List.nil_append] at h
      have key : ∀ l : List T, (∀ k ∈ l, k ∈ ks) → (leavesL (regL f l)).map (fun s => s.n.p) = (leavesL l).map (fun s => s.n.p) → ptL (regL f l) = ptL l := by
        intro l
        induction l with
        | nil => intro _ _; rw [regL]
        | cons k l ih2 =>
          intro hl h
          rw [regL, leavesL_cons, leavesL_cons, List.map_append, List.map_append] at h
          obtain ⟨h1, h2⟩ := List.append_inj h (by rw [T.reg_leaves]; simp)
          rw [regL, ptL, ptL, ih k (hl k (by simp)) h1, ih2 (fun j hj => hl j (by simp [hj])) h2]
      rw [key ks (fun _ h => h) h]
theorem body_congr : ∀ t t' : T, t.pt = t'.pt → t.body = t'.body := by
  intro t
  induction t using T.ind with
  | h n ks ih =>
    intro t' h
    obtain ⟨n', ks'⟩ := t'
    obtain ⟨h1, h2, h3, h4, h5, h6, h7⟩ := pt_inj h
    have hl : ∀ l l' : List T, (∀ k ∈ l, ∀ t' : T, k.pt = t'.pt → k.body = t'.body) → l.map T.pt = l'.map T.pt → bodyL l = bodyL l' := by
      intro l
      induction l with
      | nil => intro l' _ e; have := (pt_len e).symm; simp at this; subst this; rfl
      | cons k l ih2 =>
        intro l' hk e
        cases l' with
        | nil => simp at e
        | cons k' l' =>
          simp only [List.map_cons, List.cons.injEq] at e
          rw [bodyL_cons, bodyL_cons, hk k (by simp) k' e.1, ih2 l' (fun k hk' => hk k (by simp [hk'])) e.2]
    rw [T.body_mk, T.body_mk, pt_len h7, hl ks ks' ih h7, h6, h1]
    unfold headB
    rw [h2, h3, h4, h5]
theorem print_congr {t t' : T} (h : t.pt = t'.pt) : t.print = t'.print := by unfold T.print; rw [body_congr t t' h]
def nd6 (n : Nd) : Int × Int × Int × Int × Int × Int := (n.p, n.x, n.y, n.a, n.b, n.way)
theorem nds_congr : ∀ t t' : T, t.pt = t'.pt → t.nds.map nd6 = t'.nds.map nd6 := by
  intro t
  induction t using T.ind with
  | h n ks ih =>
    intro t' h
    obtain ⟨n', ks'⟩ := t'
    obtain ⟨h1, h2, h3, h4, h5, h6, h7⟩ := pt_inj h
    have hl : ∀ l l' : List T, (∀ k ∈ l, ∀ t' : T, k.pt = t'.pt → k.nds.map nd6 = t'.nds.map nd6) → l.map T.pt = l'.map T.pt → (ndsL l).map nd6 = (ndsL l').map nd6 := by
      intro l
      induction l with
      | nil => intro l' _ e; have := (pt_len e).symm; simp at this; subst this; rfl
      | cons k l ih2 =>
        intro l' hk e
        cases l' with
        | nil => simp at e
        | cons k' l' =>
          simp only [List.map_cons, List.cons.injEq] at e
          rw [ndsL_cons, ndsL_cons, List.map_append, List.map_append, hk k (by simp) k' e.1, ih2 l' (fun k hk' => hk k (by simp [hk'])) e.2]
    rw [T.nds_mk, T.nds_mk, List.map_cons, List.map_cons, hl ks ks' ih h7]
    simp [nd6, h1, h2, h3, h4, h5, h6]
theorem nds_of {t t' : T} (h : t.pt = t'.pt) {m' : Nd} (hm : m' ∈ t'.nds) : ∃ m ∈ t.nds, nd6 m = nd6 m' := by
  have : nd6 m' ∈ t'.nds.map nd6 := List.mem_map_of_mem hm
  rw [← nds_congr t t' h] at this
  exact List.mem_map.1 this
theorem rg_congr {t t' : T} (h : t.pt = t'.pt) (hr : t.rg) : t'.rg := fun m' hm' => by
  obtain ⟨m, hm, e⟩ := nds_of h hm'
  have := hr m hm
  unfold nd6 at e
  simp only [Prod.mk.injEq] at e
  obtain ⟨e1, e2, e3, e4, e5, e6⟩ := e
  unfold Nd.rg at *
  rw [← e1, ← e2, ← e3, ← e4, ← e5]; exact this
theorem w01_congr {t t' : T} (h : t.pt = t'.pt) (hr : t.w01) : t'.w01 := fun m' hm' => by
  obtain ⟨m, hm, e⟩ := nds_of h hm'
  have := hr m hm
  unfold nd6 at e
  simp only [Prod.mk.injEq] at e
  rw [← e.2.2.2.2.2]; exact this
end Go.Proofs.YtcklmkjlbpjojaaDoor
namespace Go.Proofs.YtcklmkjlbpjojaaDoor
open Go.RowKit
set_option linter.unusedSimpArgs false
set_option linter.unusedVariables false

/-- What Apply leaves. -/
def AppPost (base tr : Nat) (t : T) (s : List UInt8) (w : World) (e : Ending) (w' : World) : Prop :=
  ∃ (err : Int) (t' : T), e = .returned (.int .i64 err) ∧ Tr base w' tr t' ∧ Off [tr] w w' ∧
    ((err ≠ 0 ∧ t' = t ∧ ∀ t0, AppAt s t0 → t0.leaves.length ≠ t.leaves.length) ∨
     (err = 0 ∧ ∃ (t0 : T) (f : Nat → Int), AppAt s t0 ∧ t0.leaves.length = t.leaves.length ∧ t' = t0.reg f ∧ t'.leaves.map (fun s => s.n.p) = t.leaves.map (fun s => s.n.p) ∧ ∀ b ∈ t'.bl, w.heap.size ≤ b))
theorem app_no {base tr : Nat} {t : T} {s : List UInt8} {w w' : World} (hT : Tr base w tr t) (err : Int) (he : err ≠ 0) (hg : w.grownBy w' none) (hn : ∀ t0, AppAt s t0 → t0.leaves.length ≠ t.leaves.length) : AppPost base tr t s w (.returned (.int .i64 err)) w' :=
  ⟨err, t, rfl, hT.grown hg, Off.of_grown hg, .inl ⟨he, rfl, hn⟩⟩
theorem leaves_sub (t : T) : (t.leaves.map T.g).Sublist t.bl := by
  induction t using T.ind with
  | h n ks ih =>
    rw [T.leaves_mk, T.bl_mk]
    by_cases hk : ks.length = 0
    · have := List.eq_nil_of_length_eq_zero hk
      subst this
      rw [leavesL_nil]
      simp [T.g, T.n]
    · rw [if_neg hk, List.nil_append]
      have key : ∀ l : List T, (∀ k ∈ l, k ∈ ks) → ((leavesL l).map T.g).Sublist (blL l) := by
        intro l
        induction l with
        | nil => intro _; rw [leavesL_nil, blL_nil]; exact List.Sublist.refl _
        | cons k l ih2 =>
          intro hl
          rw [leavesL_cons, blL_cons, List.map_append]
          exact (ih k (hl k (by simp))).append (ih2 fun j hj => hl j (by simp [hj]))
      exact (key ks fun _ h => h).trans ((List.sublist_append_right _ _).trans (List.sublist_cons_self _ _))
theorem leaves_gnd {t : T} (h : t.bl.Nodup) : (t.leaves.map T.g).Nodup := (leaves_sub t).nodup h
def pickF : List Nat → List Int → Nat → Int
  | g :: gs, p :: ps, b => if b = g then p else pickF gs ps b
  | _, _, _ => 0
theorem pickF_at : ∀ (gs : List Nat) (ps : List Int) (i b : Nat) (p : Int), gs.Nodup → gs[i]? = some b → ps[i]? = some p → pickF gs ps b = p
  | [], ps, i, b, p, _, h, _ => by simp at h
  | g :: gs, [], i, b, p, _, _, h => by simp at h
  | g :: gs, q :: ps, 0, b, p, _, h1, h2 => by
    simp at h1 h2
    subst h1; subst h2
    rw [pickF, if_pos rfl]
  | g :: gs, q :: ps, i + 1, b, p, hn, h1, h2 => by
    simp at h1 h2
    obtain ⟨n1, n2⟩ := List.nodup_cons.1 hn
    have hb : b ∈ gs := List.mem_of_getElem? h1
    rw [pickF, if_neg (fun e => n1 (by rw [← e]; exact hb))]
    exact pickF_at gs ps i b p n2 h1 h2

/-- The loop's world: the first j leaves have their new panes. -/
structure GivI (W : World) (l0 : List T) (pp : List Int) (j : Nat) (wr : World) : Prop where
  os : wr.os = W.os
  tape : wr.tape = W.tape
  output : wr.output = W.output
  size : wr.heap.size = W.heap.size
  a : ∀ (i : Nat) (s : T) (p : Int), i < j → l0[i]? = some s → pp[i]? = some p → ∀ c e z, W.heap[s.g]? = some (.cells c e z) → wr.heap[s.g]? = some (.cells (c.setIfInBounds 0 (.int .i64 p)) e z)
  b : ∀ b : Nat, (∀ (i : Nat) (s : T), i < j → l0[i]? = some s → s.g ≠ b) → wr.heap[b]? = W.heap[b]?
theorem GivI.start (W : World) (l0 : List T) (pp : List Int) : GivI W l0 pp 0 W := ⟨rfl, rfl, rfl, rfl, fun i s p h => by omega, fun b h => rfl⟩
theorem gnd_ne {l0 : List T} (hn : (l0.map T.g).Nodup) {i j : Nat} {s s' : T} (h : l0[i]? = some s) (h' : l0[j]? = some s') (hij : i ≠ j) : s.g ≠ s'.g := by
  intro e
  obtain ⟨q1, q2⟩ := List.getElem?_eq_some_iff.1 h
  obtain ⟨q3, q4⟩ := List.getElem?_eq_some_iff.1 h'
  have := (List.getElem_inj (xs := l0.map T.g) (i := i) (j := j) (h₀ := by simpa using q1) (h₁ := by simpa using q3) hn).1 (by simp [q2, q4, e])
  exact hij this
theorem GivI.next {W wr : World} {l0 : List T} {pp : List Int} {j : Nat} {s : T} {p : Int} (h : GivI W l0 pp j wr) (hn : (l0.map T.g).Nodup) (hs : l0[j]? = some s) (hp : pp[j]? = some p) :
    GivI W l0 pp (j + 1) (wr.setCell ⟨s.g, 0, none⟩ (.int .i64 p)) := by
  have o : Off [s.g] wr (wr.setCell ⟨s.g, 0, none⟩ (.int .i64 p)) := Off.set wr ⟨s.g, 0, none⟩ _
  have hother : ∀ b, b ≠ s.g → (wr.setCell ⟨s.g, 0, none⟩ (.int .i64 p)).heap[b]? = wr.heap[b]? := fun b hb => by
    rw [Below.heap_setCell _ _ _ _ hb]
  refine ⟨o.os.trans h.os, o.tape.trans h.tape, o.output.trans h.output, by simpa [World.setCell] using h.size, fun i s' p' hi hs' hp' c e z hc => ?_, fun b hb => ?_⟩
  · by_cases hij : i = j
    · subst hij
      rw [hs] at hs'; cases hs'
      rw [hp] at hp'; cases hp'
      have h0 : wr.heap[s.g]? = some (.cells c e z) := (h.b s.g fun i' s' hi' hs' => gnd_ne hn hs' hs (by omega)).trans hc
      exact heap_set h0 _
    · rw [hother _ (gnd_ne hn hs' hs hij)]
      exact h.a i s' p' (by omega) hs' hp' c e z hc
  · rw [hother b (fun e => hb j s (by omega) hs e.symm)]
    exact h.b b fun i s' hi hs' => hb i s' (by omega) hs'
theorem GivI.cell {W wr : World} {l0 : List T} {pp : List Int} {j : Nat} (h : GivI W l0 pp j wr) {a : Addr} {v : Value} (hc : W.cell? a = some v) (hb : ∀ s ∈ l0, s.g ≠ a.block) : wr.cell? a = some v := by
  rw [World.cell?_of_block (h.b a.block fun i s _ hs => hb s (List.mem_of_getElem? hs))]; exact hc
/-- All given: the tree stands, its panes anew. -/
theorem GivI.done {W wr : World} {t0 : T} {pp : List Int} {j : Nat} (h : GivI W t0.leaves pp j wr) (hj : j = t0.leaves.length) (hl : pp.length = t0.leaves.length) (hT : TP W none t0) (hn : t0.bl.Nodup) :
    ∃ f, TP wr none (t0.reg f) ∧ (t0.reg f).leaves.map (fun s => s.n.p) = pp := by
  have hgn := leaves_gnd hn
  have hf : ∀ (i : Nat) (s : T) (p : Int), t0.leaves[i]? = some s → pp[i]? = some p → pickF (t0.leaves.map T.g) pp s.g = p := fun i s p h1 h2 => pickF_at _ _ i s.g p hgn (by rw [List.getElem?_map, h1]; rfl) h2
  refine ⟨pickF (t0.leaves.map T.g) pp, TP_reg t0 none W wr hT hn (fun s hs c e z hc => ?_) (fun b hb hs => ?_), ?_⟩
  · obtain ⟨i, hi⟩ := List.mem_iff_getElem?.1 hs
    have hil := (List.getElem?_eq_some_iff.1 hi).1
    have hp : pp[i]? = some (pp[i]'(by omega)) := List.getElem?_eq_getElem _
    rw [hf i s _ hi hp]
    exact h.a i s _ (by omega) hi hp c e z hc
  · exact h.b b fun i s _ hi => hs s (List.mem_of_getElem? hi)
  · rw [T.reg_leaves, List.map_map]
    refine List.ext_getElem? fun i => ?_
    rw [List.getElem?_map]
    cases hi : t0.leaves[i]? with
    | none =>
      have := List.getElem?_eq_none_iff.1 hi
      rw [List.getElem?_eq_none (by omega)]; rfl
    | some s =>
      have hil := (List.getElem?_eq_some_iff.1 hi).1
      have hp : pp[i]? = some (pp[i]'(by omega)) := List.getElem?_eq_getElem _
      rw [hp]
      show some ((s.reg _).n.p) = _
      rw [leaf_reg hT (List.mem_of_getElem? hi), hf i s _ hi hp]
/-- The root's cell turned to the tree that was read. -/
theorem app_yes {base tr : Nat} {t t0 : T} {s : List UInt8} {w W wr : World} {pp : List Int} (hT : Tr base w tr t) (hbase : base ≤ w.heap.size) (ho : Off [] w W) (hA : AppAt s t0) (hl : t0.leaves.length = t.leaves.length)
    (hp : TP W none t0) (hn : t0.bl.Nodup) (hb : ∀ b ∈ t0.bl, w.heap.size ≤ b) (hpp : pp = t.leaves.map (fun s => s.n.p)) (hG : GivI W t0.leaves pp t0.leaves.length wr) :
    AppPost base tr t s w (.returned (.int .i64 0)) (wr.setCell ⟨tr, 0, none⟩ (ptr t0.g)) := by
  obtain ⟨f, h1, h2⟩ := hG.done rfl (by rw [hpp, List.length_map, hl]) hp hn
  have htr := hT.lt
  have hlv : ∀ s ∈ t0.leaves, w.heap.size ≤ s.g := fun s hs => hb _ ((leaves_sub t0).subset (List.mem_map_of_mem hs))
  have htrW : wr.heap[tr]? = some (.cells #[ptr t.g] 60 (0, 0)) := by
    rw [hG.b tr fun i s _ hs e => by have := hlv s (List.mem_of_getElem? hs); omega, ho.block tr htr (by simp)]; exact hT.h
  have o : Off [tr] wr (wr.setCell ⟨tr, 0, none⟩ (ptr t0.g)) := Off.set wr ⟨tr, 0, none⟩ _
  have hOff : Off [tr] w (wr.setCell ⟨tr, 0, none⟩ (ptr t0.g)) := by
    refine ⟨o.os.trans (hG.os.trans ho.os), o.tape.trans (hG.tape.trans ho.tape), o.output.trans (hG.output.trans ho.output), by have := o.size; have := ho.size; have := hG.size; omega, fun k hk hkS => ?_⟩
    rw [o.block k (by have := ho.size; have := hG.size; omega) hkS, hG.b k fun i s _ hs e => by have := hlv s (List.mem_of_getElem? hs); omega]
    exact ho.block k hk (by simp)
  have hnt : tr ∉ t0.bl := fun h => by have := hb tr h; omega
  refine ⟨0, t0.reg f, rfl, ⟨?_, h1.off o (by rw [T.reg_bl]; intro b hb' e; simp at e; subst e; exact hnt hb'), by rw [T.reg_bl]; exact hn, by rw [T.reg_bl]; exact hnt, ⟨hT.lo.1, fun b hb' => by rw [T.reg_bl] at hb'; exact Nat.le_trans hbase (hb b hb')⟩⟩, hOff, .inr ⟨rfl, t0, f, hA, hl, rfl, by rw [h2, hpp], fun b hb' => by rw [T.reg_bl] at hb'; exact hb b hb'⟩⟩
  rw [T.reg_g]
  exact heap_set (j := 0) htrW _
end Go.Proofs.YtcklmkjlbpjojaaDoor
