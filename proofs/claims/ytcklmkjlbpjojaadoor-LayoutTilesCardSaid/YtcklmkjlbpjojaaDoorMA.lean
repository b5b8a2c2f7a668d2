/- Layout: least and grow as functions on trees; what they keep. No walk. Layout: least of a leaf; grow. Layout: least. Layout: splits of the two ways by turns. No walk. -/
import Derived.Test.YtcklmkjlbpjojaaDoorK
import Derived.Test.YtcklmkjlbpjojaaDoorE2c
import Derived.Deep.DeepCutAuto
import Derived.Deep.CutBlock
namespace Go.Proofs.YtcklmkjlbpjojaaDoor
open Go.RowKit
set_option linter.unusedSimpArgs false
set_option linter.unusedVariables false

def Nd.sz (n : Nd) (way : Int) : Int := if way = 0 then n.a else n.b
def T.sz (t : T) (way : Int) : Int := t.n.sz way
def Nd.gr (n : Nd) (way z : Int) : Nd := if way = 0 then { n with a := n.a + z } else { n with b := n.b + z }
mutual
/-- The least size of a tree in a way. -/
def T.least (way : Int) : T → Int
  | .mk n ks => if ks.length ≠ 0 ∧ n.way = way then (ks.length : Int) - 1 + (leastL way ks).sum else (leastL way ks).foldl max 1
def leastL (way : Int) : List T → List Int
  | [] => []
  | k :: ks => k.least way :: leastL way ks
end
theorem T.least_mk (way : Int) (n : Nd) (ks : List T) : (T.mk n ks).least way = if ks.length ≠ 0 ∧ n.way = way then (ks.length : Int) - 1 + (leastL way ks).sum else (leastL way ks).foldl max 1 := by rw [T.least]
theorem leastL_map (way : Int) : ∀ ks : List T, leastL way ks = ks.map (T.least way)
  | [] => by rw [leastL]; rfl
  | k :: ks => by rw [leastL, leastL_map way ks]; rfl
mutual
/-- A tree made greater, or less. -/
def T.grow (way : Int) : T → Int → T
  | .mk n ks, z => .mk (n.gr way z) (growR way n.way ks z).1
def growR (way nway : Int) : List T → Int → List T × Int
  | [], z => ([], z)
  | k :: ks, z =>
    ((if nway ≠ way then k.grow way (growR way nway ks z).2 else if 0 < (growR way nway ks z).2 then k.grow way (growR way nway ks z).2
      else if (growR way nway ks z).2 < 0 then k.grow way (-(min (-(growR way nway ks z).2) (k.sz way - k.least way))) else k) :: (growR way nway ks z).1,
     if nway ≠ way then (growR way nway ks z).2 else if 0 < (growR way nway ks z).2 then 0
      else if (growR way nway ks z).2 < 0 then (growR way nway ks z).2 + min (-(growR way nway ks z).2) (k.sz way - k.least way) else (growR way nway ks z).2)
end
theorem T.grow_mk (way z : Int) (n : Nd) (ks : List T) : (T.mk n ks).grow way z = .mk (n.gr way z) (growR way n.way ks z).1 := by rw [T.grow]
theorem growR_nil (way nway z : Int) : growR way nway [] z = ([], z) := by rw [growR]
/-- What one kid becomes, and what is left. -/
def gk (way nway : Int) (k : T) (z : Int) : T :=
  if nway ≠ way then k.grow way z else if 0 < z then k.grow way z else if z < 0 then k.grow way (-(min (-z) (k.sz way - k.least way))) else k
def gz (way nway : Int) (k : T) (z : Int) : Int :=
  if nway ≠ way then z else if 0 < z then 0 else if z < 0 then z + min (-z) (k.sz way - k.least way) else z
theorem growR_cons (way nway z : Int) (k : T) (ks : List T) : growR way nway (k :: ks) z = (gk way nway k (growR way nway ks z).2 :: (growR way nway ks z).1, gz way nway k (growR way nway ks z).2) := by
  rw [growR]; rfl

theorem Nd.gr_g (n : Nd) (way z : Int) : (n.gr way z).g = n.g ∧ (n.gr way z).A = n.A ∧ (n.gr way z).c = n.c ∧ (n.gr way z).p = n.p ∧ (n.gr way z).way = n.way ∧ (n.gr way z).x = n.x ∧ (n.gr way z).y = n.y := by
  unfold Nd.gr; split <;> exact ⟨rfl, rfl, rfl, rfl, rfl, rfl, rfl⟩
theorem Nd.gr_sz (n : Nd) {way : Int} (z : Int) (hw : way = 0 ∨ way = 1) : (n.gr way z).sz way = n.sz way + z ∧ (n.gr way z).sz (1 - way) = n.sz (1 - way) := by
  unfold Nd.gr Nd.sz; rcases hw with rfl | rfl <;> simp
theorem T.grow_n (t : T) (way z : Int) : (t.grow way z).n = t.n.gr way z := by cases t; rw [T.grow_mk]; rfl
theorem T.grow_g (t : T) (way z : Int) : (t.grow way z).g = t.g := by unfold T.g; rw [T.grow_n]; exact (Nd.gr_g _ _ _).1
theorem gk_g (way nway : Int) (k : T) (z : Int) : (gk way nway k z).g = k.g := by
  unfold gk
  (repeat' split) <;> first | exact T.grow_g _ _ _ | rfl
theorem growR_len (way nway z : Int) : ∀ ks : List T, (growR way nway ks z).1.length = ks.length
  | [] => by rw [growR_nil]
  | k :: ks => by rw [growR_cons]; simp [growR_len way nway z ks]
theorem growR_ptrs (way nway z : Int) : ∀ ks : List T, ptrs (growR way nway ks z).1 = ptrs ks
  | [] => by rw [growR_nil]
  | k :: ks => by
    rw [growR_cons]
    have := growR_ptrs way nway z ks
    simp only [ptrs, List.map_cons] at this ⊢
    rw [this, gk_g]
/-- What every grown kid keeps is kept by all. -/
theorem growR_all {Q : T → T → Prop} (way nway z : Int) (hrefl : ∀ k, Q k k) : ∀ ks : List T, (∀ k ∈ ks, ∀ z, Q k (k.grow way z)) → ∀ (i : Nat) (k' : T), (growR way nway ks z).1[i]? = some k' → ∃ k, ks[i]? = some k ∧ Q k k'
  | [], _, i, k', h => by rw [growR_nil] at h; simp at h
  | k :: ks, hQ, i, k', h => by
    rw [growR_cons] at h
    rcases i with _ | i
    · simp at h
      refine ⟨k, rfl, ?_⟩
      rw [← h]
      unfold gk
      repeat' split
      all_goals first | exact hQ k (by simp) _ | exact hrefl k
    · exact growR_all way nway z hrefl ks (fun j hj => hQ j (by simp [hj])) i k' (by simpa using h)
theorem map_growR {α : Type} (f : T → α) (way nway z : Int) (ks : List T) (h : ∀ k ∈ ks, ∀ z, f (k.grow way z) = f k) : (growR way nway ks z).1.map f = ks.map f := by
  refine List.ext_getElem? fun i => ?_
  rw [List.getElem?_map, List.getElem?_map]
  cases h1 : (growR way nway ks z).1[i]? with
  | none =>
    have : ks[i]? = none := by
      rw [List.getElem?_eq_none_iff] at h1 ⊢
      rwa [growR_len] at h1
    rw [this]
  | some k' =>
    obtain ⟨k, e, hq⟩ := growR_all (Q := fun k k' => f k' = f k) way nway z (fun _ => rfl) ks h i k' h1
    rw [e]
    simp [hq]
theorem blL_flat : ∀ ks : List T, blL ks = (ks.map T.bl).flatten
  | [] => by rw [blL_nil]; rfl
  | k :: ks => by rw [blL_cons, blL_flat ks]; rfl
theorem T.grow_bl (t : T) (way : Int) : ∀ z, (t.grow way z).bl = t.bl := by
  induction t using T.ind with
  | h n ks ih =>
    intro z
    rw [T.grow_mk, T.bl_mk, T.bl_mk, (Nd.gr_g n way z).1, (Nd.gr_g n way z).2.1, blL_flat, blL_flat, map_growR T.bl way n.way z ks ih]
theorem psL_flat : ∀ ks : List E, psL ks = (ks.map E.ps).flatten
  | [] => by rw [psL_nil]; rfl
  | k :: ks => by rw [psL_cons, psL_flat ks]; rfl
theorem T.grow_ps (t : T) (way : Int) : ∀ z, (t.grow way z).er.ps = t.er.ps := by
  induction t using T.ind with
  | h n ks ih =>
    intro z
    rw [T.grow_mk, T.er_mk, T.er_mk, E.ps_mk, E.ps_mk, erL_len, erL_len, growR_len, (Nd.gr_g n way z).2.2.2.1, psL_flat, psL_flat, erL_map, erL_map, List.map_map, List.map_map]
    have := map_growR (fun k => k.er.ps) way n.way z ks ih
    rw [show (E.ps ∘ T.er) = fun k => k.er.ps from rfl, this]

/-- A filled tree, in words of its sizes. -/
theorem ok_T {n : Nd} {ks : List T} : (T.mk n ks).er.ok ↔ (ks = [] ∧ n.way = 0 ∧ (1 ≤ n.p ∧ n.p ≤ 999) ∧ 1 ≤ n.a ∧ 1 ≤ n.b) ∨
    (n.p = 0 ∧ 1 ≤ n.a ∧ 1 ≤ n.b ∧ 2 ≤ ks.length ∧ (n.way = 0 ∨ n.way = 1) ∧ (∀ k ∈ ks, k.sz (1 - n.way) = n.sz (1 - n.way)) ∧ (ks.map fun k => k.sz n.way + 1).sum = n.sz n.way + 1 ∧ ∀ k ∈ ks, k.er.ok) := by
  rw [T.er_mk, erL_map]
  constructor
  · intro h
    rcases h.inv with ⟨h1, h2⟩ | ⟨h1, h2, h3, h4, h5, h6⟩
    · exact .inl ⟨by simpa using h1, h2⟩
    · refine .inr ⟨h1, h2, h3, by simpa using h4, ?_, ?_, ?_, fun k hk => h6 _ (List.mem_map_of_mem hk)⟩
      · rcases h5 with ⟨h, _⟩ | ⟨h, _⟩ <;> simp [h]
      · intro k hk
        rcases h5 with ⟨h, h7, _⟩ | ⟨h, h7, _⟩
        · have := h7 _ (List.mem_map_of_mem hk)
          rw [T.er_b] at this
          rw [h]; simpa [T.sz, Nd.sz] using this
        · have := h7 _ (List.mem_map_of_mem hk)
          rw [T.er_a] at this
          rw [h]; simpa [T.sz, Nd.sz] using this
      · rcases h5 with ⟨h, _, h7⟩ | ⟨h, _, h7⟩
        · rw [List.map_map] at h7
          rw [h]; simpa [T.sz, Nd.sz, Function.comp_def, T.er_a] using h7
        · rw [List.map_map] at h7
          rw [h]; simpa [T.sz, Nd.sz, Function.comp_def, T.er_b] using h7
  · rintro (⟨h1, h2, h3, h4, h5⟩ | ⟨h1, h2, h3, h4, h5, h6, h7, h8⟩)
    · subst h1; rw [h2]; exact .leaf h3 h4 h5
    · rw [h1]
      refine .node h2 h3 (by simpa using h4) ?_ (fun k hk => ?_)
      · rcases h5 with h | h
        · refine .inl ⟨h, fun k hk => ?_, ?_⟩
          · obtain ⟨s, hs, rfl⟩ := List.mem_map.1 hk
            rw [T.er_b]
            have := h6 s hs
            rw [h] at this; simpa [T.sz, Nd.sz] using this
          · rw [List.map_map]
            rw [h] at h7; simpa [T.sz, Nd.sz, Function.comp_def, T.er_a] using h7
        · refine .inr ⟨h, fun k hk => ?_, ?_⟩
          · obtain ⟨s, hs, rfl⟩ := List.mem_map.1 hk
            rw [T.er_a]
            have := h6 s hs
            rw [h] at this; simpa [T.sz, Nd.sz] using this
          · rw [List.map_map]
            rw [h] at h7; simpa [T.sz, Nd.sz, Function.comp_def, T.er_b] using h7
      · obtain ⟨s, hs, rfl⟩ := List.mem_map.1 hk
        exact h8 s hs
theorem foldl_max_ge (l : List Int) : ∀ m, m ≤ l.foldl max m := by
  induction l with
  | nil => intro m; simp
  | cons a l ih => intro m; rw [List.foldl_cons]; exact Int.le_trans (Int.le_max_left _ _) (ih _)
theorem foldl_max_mem (l : List Int) : ∀ m, ∀ x ∈ l, x ≤ l.foldl max m := by
  induction l with
  | nil => intro m x h; simp at h
  | cons a l ih =>
    intro m x h
    rw [List.foldl_cons]
    rcases List.mem_cons.1 h with rfl | h
    · exact Int.le_trans (Int.le_max_right _ _) (foldl_max_ge l _)
    · exact ih _ x h
theorem foldl_max_le (l : List Int) : ∀ m c, m ≤ c → (∀ x ∈ l, x ≤ c) → l.foldl max m ≤ c := by
  induction l with
  | nil => intro m c h _; simpa using h
  | cons a l ih =>
    intro m c h1 h2
    rw [List.foldl_cons]
    exact ih _ c (Int.max_le.2 ⟨h1, h2 a (by simp)⟩) fun x hx => h2 x (by simp [hx])
theorem sum_le (f g : T → Int) : ∀ ks : List T, (∀ k ∈ ks, f k ≤ g k) → (ks.map f).sum ≤ (ks.map g).sum
  | [], _ => by simp
  | k :: ks, h => by
    have := sum_le f g ks fun j hj => h j (by simp [hj])
    have := h k (by simp)
    simp only [List.map_cons, List.sum_cons]
    omega
theorem sum_add1 (f : T → Int) : ∀ ks : List T, (ks.map fun k => f k + 1).sum = (ks.map f).sum + ks.length
  | [] => by simp
  | k :: ks => by
    have := sum_add1 f ks
    simp only [List.map_cons, List.sum_cons, List.length_cons]
    push_cast
    omega
theorem sum_pos (f : T → Int) : ∀ ks : List T, (∀ k ∈ ks, 1 ≤ f k) → (ks.length : Int) ≤ (ks.map f).sum
  | [], _ => by simp
  | k :: ks, h => by
    have := sum_pos f ks fun j hj => h j (by simp [hj])
    have := h k (by simp)
    simp only [List.map_cons, List.sum_cons, List.length_cons]
    push_cast
    omega
theorem sum_nn (f : T → Int) : ∀ ks : List T, (∀ k ∈ ks, 0 ≤ f k) → 0 ≤ (ks.map f).sum
  | [], _ => by simp
  | k :: ks, h => by
    have := sum_nn f ks fun j hj => h j (by simp [hj])
    have := h k (by simp)
    simp only [List.map_cons, List.sum_cons]
    omega
theorem sum_sub (f g : T → Int) : ∀ ks : List T, (ks.map fun k => f k - g k).sum = (ks.map f).sum - (ks.map g).sum
  | [] => by simp
  | k :: ks => by
    have := sum_sub f g ks
    simp only [List.map_cons, List.sum_cons]
    omega
theorem least_le {way : Int} (hw : way = 0 ∨ way = 1) (t : T) : t.er.ok → 1 ≤ t.least way ∧ t.least way ≤ t.sz way := by
  induction t using T.ind with
  | h n ks ih =>
    intro hok
    rw [T.least_mk, leastL_map]
    rcases ok_T.1 hok with ⟨h1, h2, h3, h4, h5⟩ | ⟨h1, h2, h3, h4, h5, h6, h7, h8⟩
    · subst h1
      simp only [List.length_nil, ne_eq, not_true_eq_false, false_and, if_false, List.map_nil, List.foldl_nil]
      refine ⟨by omega, ?_⟩
      unfold T.sz Nd.sz T.n; split <;> assumption
    · by_cases hn : n.way = way
      · rw [if_pos ⟨by omega, hn⟩]
        rw [hn] at h7
        rw [sum_add1 (fun k => k.sz way)] at h7
        have a1 := sum_le (T.least way) (fun k => k.sz way) ks fun k hk => (ih k hk (h8 k hk)).2
        have a2 := sum_pos (T.least way) ks fun k hk => (ih k hk (h8 k hk)).1
        have a3 : (T.mk n ks).sz way = n.sz way := rfl
        omega
      · rw [if_neg (fun h => hn h.2)]
        have hw' : 1 - n.way = way := by omega
        rw [hw'] at h6
        refine ⟨foldl_max_ge _ 1, foldl_max_le _ _ _ ?_ ?_⟩
        · unfold T.sz Nd.sz T.n; split <;> assumption
        · intro x hx
          obtain ⟨k, hk, rfl⟩ := List.mem_map.1 hx
          have := (ih k hk (h8 k hk)).2
          rw [h6 k hk] at this
          exact this
theorem least_kid {way : Int} {n : Nd} {ks : List T} (hn : n.way ≠ way) {k : T} (hk : k ∈ ks) : k.least way ≤ (T.mk n ks).least way := by
  rw [T.least_mk, leastL_map, if_neg (fun h => hn h.2)]
  exact foldl_max_mem _ _ _ (List.mem_map_of_mem hk)

/-- What grow keeps of a kid. -/
structure Gr (way : Int) (k k' : T) (z : Int) : Prop where
  ok : k'.er.ok
  sz : k'.sz way = k.sz way + z
  sz' : k'.sz (1 - way) = k.sz (1 - way)
theorem growR_across {way nway : Int} (hn : nway ≠ way) (z : Int) : ∀ ks : List T, (growR way nway ks z).2 = z
  | [] => by rw [growR_nil]
  | k :: ks => by rw [growR_cons]; unfold gz; rw [if_pos hn, growR_across hn z ks]
theorem growR_across_map {way nway : Int} (hn : nway ≠ way) (z : Int) : ∀ ks : List T, (growR way nway ks z).1 = ks.map fun k => k.grow way z
  | [] => by rw [growR_nil]; rfl
  | k :: ks => by rw [growR_cons]; unfold gk; rw [if_pos hn, growR_across hn z ks, growR_across_map hn z ks]; rfl
/-- What is left behind the kids. -/
theorem growR_left {way : Int} (hw : way = 0 ∨ way = 1) (z : Int) : ∀ ks : List T, (∀ k ∈ ks, k.er.ok) →
    (0 < z → (growR way way ks z).2 = if ks.length = 0 then z else 0) ∧ (z ≤ 0 → (growR way way ks z).2 = min 0 (z + (ks.map fun k => k.sz way - k.least way).sum))
  | [], _ => by rw [growR_nil]; exact ⟨fun _ => rfl, fun h => by simp; omega⟩
  | k :: ks, h => by
    obtain ⟨h1, h2⟩ := growR_left hw z ks fun j hj => h j (by simp [hj])
    have h3 := least_le hw k (h k (by simp))
    rw [growR_cons]
    constructor
    · intro hz
      have := h1 hz
      simp only [List.length_cons]
      rw [if_neg (by omega)]
      show gz way way k _ = 0
      unfold gz
      rw [if_neg (by simp), this]
      by_cases hl : ks.length = 0
      · rw [if_pos hl, if_pos hz]
      · rw [if_neg hl, if_neg (by omega), if_neg (by omega)]
    · intro hz
      have := h2 hz
      show gz way way k _ = _
      unfold gz
      rw [if_neg (by simp)]
      simp only [List.map_cons, List.sum_cons]
      generalize (ks.map fun k => k.sz way - k.least way).sum = S at *
      generalize (growR way way ks z).2 = r at *
      repeat' split
      all_goals omega
theorem growR_bound {way nway : Int} (hw : way = 0 ∨ way = 1) (z : Int) (ks : List T) (h : ∀ k ∈ ks, k.er.ok) : (0 ≤ z → 0 ≤ (growR way nway ks z).2 ∧ (growR way nway ks z).2 ≤ z) ∧ (z ≤ 0 → z ≤ (growR way nway ks z).2 ∧ (growR way nway ks z).2 ≤ 0) := by
  by_cases hn : nway = way
  · subst hn
    obtain ⟨h1, h2⟩ := growR_left hw z ks h
    have h3 : 0 ≤ (ks.map fun k => k.sz nway - k.least nway).sum := by
      exact sum_nn (fun k => k.sz nway - k.least nway) ks (fun k hk => by have := least_le hw k (h k hk); omega)
    constructor
    · intro hz
      rcases Int.lt_or_le 0 z with hz' | hz'
      · rw [h1 hz']; split <;> omega
      · rw [h2 hz']; omega
    · intro hz
      rw [h2 hz]; omega
  · rw [growR_across hn]; omega
theorem grow_ok {way : Int} (hw : way = 0 ∨ way = 1) (t : T) : ∀ z, t.er.ok → t.least way ≤ t.sz way + z → Gr way t (t.grow way z) z := by
  induction t using T.ind with
  | h n ks ih =>
    intro z hok hz
    obtain ⟨hg1, hg2⟩ := Nd.gr_sz n z hw
    have hl1 := (least_le hw _ hok).1
    rw [T.grow_mk]
    have hsz : (T.mk n ks).sz way = n.sz way := rfl
    have hwa : ∀ m : Nd, 1 ≤ m.sz way → 1 ≤ m.sz (1 - way) → 1 ≤ m.a ∧ 1 ≤ m.b := by
      intro m h1 h2
      rcases hw with rfl | rfl
      · simp [Nd.sz] at h1 h2; exact ⟨h1, h2⟩
      · simp [Nd.sz] at h1 h2; exact ⟨h2, h1⟩
    have hab : ∀ m : Nd, 1 ≤ m.a → 1 ≤ m.b → 1 ≤ m.sz (1 - way) := by
      intro m h1 h2
      rcases hw with rfl | rfl <;> simp [Nd.sz] <;> assumption
    refine ⟨?_, hg1, hg2⟩
    rcases ok_T.1 hok with ⟨h1, h2, h3, h4, h5⟩ | ⟨h1, h2, h3, h4, h5, h6, h7, h8⟩
    · subst h1
      obtain ⟨b1, b2⟩ := hwa (n.gr way z) (by omega) (by rw [hg2]; exact hab n h4 h5)
      exact ok_T.2 (.inl ⟨by rw [growR_nil], by rw [(Nd.gr_g n way z).2.2.2.2.1]; exact h2, by rw [(Nd.gr_g n way z).2.2.2.1]; exact h3, b1, b2⟩)
    · obtain ⟨b1, b2⟩ := hwa (n.gr way z) (by omega) (by rw [hg2]; exact hab n h2 h3)
      refine ok_T.2 (.inr ⟨by rw [(Nd.gr_g n way z).2.2.2.1]; exact h1, b1, b2, by rw [growR_len]; exact h4, by rw [(Nd.gr_g n way z).2.2.2.2.1]; exact h5, ?_⟩)
      rw [(Nd.gr_g n way z).2.2.2.2.1]
      by_cases hn : n.way = way
      · -- along
        subst hn
        rw [hg1, hg2]
        have key : ∀ l : List T, (∀ k ∈ l, k ∈ ks) → (∀ k ∈ (growR n.way n.way l z).1, k.er.ok ∧ k.sz (1 - n.way) = n.sz (1 - n.way)) ∧
            ((growR n.way n.way l z).1.map fun k => k.sz n.way + 1).sum = (l.map fun k => k.sz n.way + 1).sum + z - (growR n.way n.way l z).2 := by
          intro l
          induction l with
          | nil => intro _; rw [growR_nil]; simp
          | cons k l ihl =>
            intro hl
            obtain ⟨i1, i2⟩ := ihl fun j hj => hl j (by simp [hj])
            have hk := hl k (by simp)
            have hll := least_le hw k (h8 k hk)
            have hgk : ∀ r, Gr n.way k (gk n.way n.way k r) (r - gz n.way n.way k r) := by
              intro r
              unfold gk gz
              rw [if_neg (show ¬ n.way ≠ n.way by simp), if_neg (show ¬ n.way ≠ n.way by simp)]
              by_cases r1 : 0 < r
              · rw [if_pos r1, if_pos r1, show r - 0 = r by omega]
                exact ih k hk r (h8 k hk) (by omega)
              · rw [if_neg r1, if_neg r1]
                by_cases r2 : r < 0
                · rw [if_pos r2, if_pos r2]
                  rw [show r - (r + min (-r) (k.sz n.way - k.least n.way)) = -(min (-r) (k.sz n.way - k.least n.way)) by omega]
                  exact ih k hk _ (h8 k hk) (by omega)
                · rw [if_neg r2, if_neg r2]
                  exact ⟨h8 k hk, by omega, rfl⟩
            rw [growR_cons]
            have hg := hgk (growR n.way n.way l z).2
            constructor
            · intro j hj
              rcases List.mem_cons.1 hj with rfl | hj
              · exact ⟨hg.ok, by rw [hg.sz']; exact h6 k hk⟩
              · exact i1 j hj
            · simp only [List.map_cons, List.sum_cons]
              rw [i2, hg.sz]
              omega
        obtain ⟨k1, k2⟩ := key ks fun k hk => hk
        refine ⟨fun k hk => (k1 k hk).2, ?_, fun k hk => (k1 k hk).1⟩
        rw [k2, h7]
        have hleft : (growR n.way n.way ks z).2 = 0 := by
          obtain ⟨l1, l2⟩ := growR_left hw z ks h8
          rcases Int.lt_or_le 0 z with hz' | hz'
          · rw [l1 hz', if_neg (by omega)]
          · rw [l2 hz']
            rw [T.least_mk, if_pos ⟨by omega, rfl⟩, leastL_map] at hz
            rw [sum_add1 (fun k => k.sz n.way)] at h7
            have : (ks.map fun k => k.sz n.way - k.least n.way).sum = (ks.map fun k => k.sz n.way).sum - (ks.map (T.least n.way)).sum := by
              exact sum_sub _ _ ks
            rw [this]
            omega
        omega
      · -- across
        have hw' : 1 - n.way = way := by omega
        have hw2 : n.way = 1 - way := by omega
        rw [growR_across_map hn]
        have hall : ∀ k ∈ ks, Gr way k (k.grow way z) z := fun k hk => ih k hk z (h8 k hk) (by
          have a1 := least_kid hn hk
          have a2 := h6 k hk
          rw [hw'] at a2
          rw [a2]
          omega)
        refine ⟨fun k hk => ?_, ?_, fun k hk => ?_⟩
        · obtain ⟨s, hs, rfl⟩ := List.mem_map.1 hk
          rw [hw', hg1]
          have a2 := h6 s hs
          rw [hw'] at a2
          rw [(hall s hs).sz, a2]
        · rw [hw2, hg2, ← hw2, ← h7, List.map_map]
          congr 1
          refine List.map_congr_left fun s hs => ?_
          show (s.grow way z).sz n.way + 1 = s.sz n.way + 1
          have := (hall s hs).sz'
          rw [← hw2] at this
          rw [this]
        · obtain ⟨s, hs, rfl⟩ := List.mem_map.1 hk
          exact (hall s hs).ok
end Go.Proofs.YtcklmkjlbpjojaaDoor
namespace Go.Proofs.YtcklmkjlbpjojaaDoor
open Go.RowKit
set_option linter.unusedSimpArgs false
set_option linter.unusedVariables false

set_option maxHeartbeats 4000000 in
set_option maxRecDepth 100000 in
theorem least_leaf (up : Option Nat) (n : Nd) (way : Int) (w : World) (h : At w up n []) : Calls Tryd.prog 41 #[ptr n.g, .int .i64 way] w fun e w' => e = .returned (.int .i64 1) ∧ w' = w := by
  have c6 := h.c6
  have c5 := h.c5
  replace c6 : w.cell? ⟨n.g, 6, none⟩ = some (.slice (adr n.A) 0 n.c) := c6
  obtain ⟨AA, hAA⟩ : ∃ AA, AA = adr n.A := ⟨_, rfl⟩
  rw [← hAA] at c6
  replace hAA := Lib.hid hAA; replace h := Lib.hid h
  unfold ptr
  go_enter Tryd.func41, Tryd.ntmps41
  go_wp2_with fail
  go_loopw [5, 6, 21] (fun sv mv iv wr => sv = .int .i64 (-1) ∧ mv = .int .i64 1 ∧ iv = .int .i64 0 ∧ wr = w) (fun _ _ iv _ => 0)
  case atStart => exact ⟨rfl, rfl, rfl, rfl⟩
  case round =>
    obtain ⟨rfl, rfl, rfl, rfl⟩ := hrel
    go_wp2_with fail
    all_goals
      go_ret
      exact ⟨rfl, rfl⟩

/-- A node's size, more of it. -/
def Nd.add (n : Nd) (way z : Int) : Nd := if way = 0 then { n with a := wr64 (n.a + z) } else { n with b := wr64 (n.b + z) }
set_option maxHeartbeats 4000000 in
set_option maxRecDepth 100000 in
theorem grow_leaf (up : Option Nat) (n : Nd) (way z : Int) (w : World) (h : At w up n []) (hw : way = 0 ∨ way = 1) (hA : n.A ≠ some n.g) (hz : -9223372036854775808 < z ∧ z ≤ 9223372036854775807) : Calls Tryd.prog 37 #[ptr n.g, .int .i64 way, .int .i64 z] w fun e w' => e = .returned (.tuple #[]) ∧ At w' up (n.add way z) [] ∧ Off [n.g] w w' := by
  have c6 := h.c6
  replace c6 : w.cell? ⟨n.g, 6, none⟩ = some (.slice (adr n.A) 0 n.c) := c6
  have c3 := h.c3; have c4 := h.c4
  have f3 := h.free 3; have f4 := h.free 4
  obtain ⟨AA, hAA⟩ : ∃ AA, AA = adr n.A := ⟨_, rfl⟩
  rw [← hAA] at c6
  have hend0 : ∀ w', w' = (w.setCell ⟨n.g, 3, none⟩ (.int .i64 (wr64 (n.a + z)))) → At w' up (n.add 0 z) [] ∧ Off [n.g] w w' := by
    rintro w' rfl
    have o : Off [n.g] w (w.setCell ⟨n.g, 3, none⟩ (.int .i64 (wr64 (n.a + z)))) := Off.set w ⟨n.g, 3, none⟩ _
    refine ⟨h.upd rfl rfl rfl rfl o ?_ hA, o⟩
    have := heap_set (j := 3) h.h (.int .i64 (wr64 (n.a + z)))
    exact this
  have hend1 : ∀ w', w' = (w.setCell ⟨n.g, 4, none⟩ (.int .i64 (wr64 (n.b + z)))) → At w' up (n.add 1 z) [] ∧ Off [n.g] w w' := by
    rintro w' rfl
    have o : Off [n.g] w (w.setCell ⟨n.g, 4, none⟩ (.int .i64 (wr64 (n.b + z)))) := Off.set w ⟨n.g, 4, none⟩ _
    refine ⟨h.upd rfl rfl rfl rfl o ?_ hA, o⟩
    have := heap_set (j := 4) h.h (.int .i64 (wr64 (n.b + z)))
    exact this
  replace hAA := Lib.hid hAA; replace h := Lib.hid h; replace hend0 := Lib.hid hend0; replace hend1 := Lib.hid hend1; replace hA := Lib.hid hA
  unfold ptr
  rcases hw with rfl | rfl
  · go_enter Tryd.func37, Tryd.ntmps37
    go_upto_region 0 with fail
    go_still_tail 11, (by kernel_rfl)
    change wpList _ _ _ _ _ w.drew
    go_wp2_with fail
    obtain ⟨W, hW⟩ : ∃ W, W = (w.setCell ⟨n.g, 3, none⟩ (.int .i64 (wr64 (n.a + z)))).drew := ⟨_, rfl⟩
    go_loopw [6] (fun iv wr => iv = .int .i64 (-1) ∧ wr = W) (fun iv _ => 0)
    case atStart => exact ⟨rfl, hW.symm⟩
    case round =>
      obtain ⟨rfl, rfl⟩ := hrel
      go_wp2_with fail
      go_end0
      obtain ⟨h1, h2⟩ := hend0.out _ rfl
      exact ⟨rfl, h1.same (fun _ _ => rfl), ⟨h2.os, h2.tape, h2.output, h2.size, h2.block⟩⟩
  · go_enter Tryd.func37, Tryd.ntmps37
    go_upto_region 0 with fail
    go_still_tail 11, (by kernel_rfl)
    change wpList _ _ _ _ _ w.drew
    go_wp2_with fail
    obtain ⟨W, hW⟩ : ∃ W, W = (w.setCell ⟨n.g, 4, none⟩ (.int .i64 (wr64 (n.b + z)))).drew := ⟨_, rfl⟩
    go_loopw [6] (fun iv wr => iv = .int .i64 (-1) ∧ wr = W) (fun iv _ => 0)
    case atStart => exact ⟨rfl, hW.symm⟩
    case round =>
      obtain ⟨rfl, rfl⟩ := hrel
      go_wp2_with fail
      go_end0
      obtain ⟨h1, h2⟩ := hend1.out _ rfl
      exact ⟨rfl, h1.same (fun _ _ => rfl), ⟨h2.os, h2.tape, h2.output, h2.size, h2.block⟩⟩
end Go.Proofs.YtcklmkjlbpjojaaDoor
namespace Go.Proofs.YtcklmkjlbpjojaaDoor
open Go.RowKit
set_option linter.unusedSimpArgs false
set_option linter.unusedVariables false

theorem ok_kid {n : Nd} {ks : List T} (hok : (T.mk n ks).er.ok) {k : T} (hk : k ∈ ks) : k.er.ok ∧ k.n.a ≤ n.a ∧ k.n.b ≤ n.b := by
  rw [T.er_mk] at hok
  have := hok.kid (k := k.er) (by rw [erL_map]; exact List.mem_map_of_mem hk)
  rwa [T.er_a, T.er_b] at this
theorem sz_le {m : Nd} {c : Int} (ha : m.a ≤ c) (hb : m.b ≤ c) (way : Int) : m.sz way ≤ c := by unfold Nd.sz; split <;> assumption
theorem ok_len {n : Nd} {ks : List T} (hok : (T.mk n ks).er.ok) (ha : n.a ≤ 1000) (hb : n.b ≤ 1000) : ks.length ≤ 1000 := by
  rcases ok_T.1 hok with ⟨h1, _⟩ | ⟨_, _, _, _, h5, _, h7, h8⟩
  · subst h1; simp
  · rw [sum_add1 (fun k => k.sz n.way)] at h7
    have h9 := sum_pos (fun k => k.sz n.way) ks fun k hk => by
      have := least_le h5 k (h8 k hk); omega
    have := sz_le ha hb n.way
    omega
def leastS (way : Int) (ks : List T) (j : Nat) : Int := ((ks.take j).map (T.least way)).sum
def leastM (way : Int) (ks : List T) (j : Nat) : Int := ((ks.take j).map (T.least way)).foldl max 1
theorem leastS_succ {way : Int} {ks : List T} {j : Nat} {k : T} (h : ks[j]? = some k) : leastS way ks (j + 1) = leastS way ks j + k.least way := by
  unfold leastS; rw [take_succ' h, List.map_append, List.sum_append]; simp
theorem leastM_succ {way : Int} {ks : List T} {j : Nat} {k : T} (h : ks[j]? = some k) : leastM way ks (j + 1) = max (leastM way ks j) (k.least way) := by
  unfold leastM; rw [take_succ' h, List.map_append, List.foldl_append]; rfl
theorem leastS_bd {way : Int} {ks : List T} (h : ∀ k ∈ ks, 1 ≤ k.least way ∧ k.least way ≤ 1000) : ∀ j, 0 ≤ leastS way ks j ∧ leastS way ks j ≤ 1000 * j := by
  intro j
  induction j with
  | zero => simp [leastS]
  | succ j ih =>
    cases hk : ks[j]? with
    | none =>
      have : ks.take (j + 1) = ks.take j := by
        have hl : ks.length ≤ j := List.getElem?_eq_none_iff.1 hk
        rw [List.take_of_length_le (by omega), List.take_of_length_le hl]
      unfold leastS at *
      rw [this]; omega
    | some k =>
      rw [leastS_succ hk]
      have := h k (List.mem_of_getElem? hk)
      omega
theorem leastM_bd {way : Int} {ks : List T} (h : ∀ k ∈ ks, 1 ≤ k.least way ∧ k.least way ≤ 1000) (j : Nat) : 1 ≤ leastM way ks j ∧ leastM way ks j ≤ 1000 := by
  refine ⟨foldl_max_ge _ 1, foldl_max_le _ _ _ (by omega) fun x hx => ?_⟩
  obtain ⟨k, hk, rfl⟩ := List.mem_map.1 hx
  exact (h k (List.mem_of_mem_take hk)).2

set_option maxHeartbeats 400000 in
set_option maxRecDepth 100000 in
theorem least_any {way : Int} (hw : way = 0 ∨ way = 1) : ∀ (t : T) (up : Option Nat) (w : World), TP w up t → t.er.ok → t.n.a ≤ 1000 → t.n.b ≤ 1000 →
    Calls Tryd.prog 41 #[ptr t.g, .int .i64 way] w fun e w' => e = .returned (.int .i64 (t.least way)) ∧ w' = w := by
  intro t
  induction t using T.ind with
  | h n ks ih =>
    intro up w hT hok ha hb
    have hAt := hT.at_
    have hK := TPs_iff.1 hT.kids
    have c6 := hAt.c6
    have c5 := hAt.c5
    obtain ⟨len, hln⟩ : ∃ len, len = ks.length := ⟨_, rfl⟩
    have hl1 : len ≤ 1000 := by rw [hln]; exact ok_len hok ha hb
    have hkd : ∀ k ∈ ks, 1 ≤ k.least way ∧ k.least way ≤ 1000 := fun k hk => by
      obtain ⟨h1, h2, h3⟩ := ok_kid hok hk
      have h4 := least_le hw k h1
      have : k.sz way ≤ 1000 := sz_le (Int.le_trans h2 ha) (Int.le_trans h3 hb) way
      omega
    have hS := leastS_bd hkd
    have hM := leastM_bd hkd
    have hend : (T.mk n ks).least way = if len ≠ 0 ∧ n.way = way then (len : Int) - 1 + leastS way ks len else leastM way ks len := by
      rw [T.least_mk, leastL_map]
      unfold leastS leastM
      rw [hln, List.take_length]
    obtain ⟨AA, hAA⟩ : ∃ AA, AA = adr n.A := ⟨_, rfl⟩
    rw [← hAA, ← hln] at c6
    obtain ⟨nw, hnw⟩ : ∃ nw, nw = n.way := ⟨_, rfl⟩
    rw [← hnw] at c5 hend
    have hw01 : nw = 0 ∨ nw = 1 := by rw [hnw]; exact (ok_w01 hok).n
    rw [hend]
    replace hAA := Lib.hid hAA; replace hln := Lib.hid hln; replace hAt := Lib.hid hAt; replace hK := Lib.hid hK; replace ih := Lib.hid ih; replace hok := Lib.hid hok; replace hkd := Lib.hid hkd; replace hS := Lib.hid hS; replace hM := Lib.hid hM; replace hend := Lib.hid hend; replace hnw := Lib.hid hnw
    replace ha := Lib.hid ha; replace hb := Lib.hid hb
    clear hT
    show Calls Tryd.prog 41 #[ptr n.g, .int .i64 way] w _
    unfold ptr
    go_enter Tryd.func41, Tryd.ntmps41
    go_wp2_with fail
    go_loopw [5, 6, 21] (fun sv mv iv wr => ∃ j : Nat, j ≤ len ∧ sv = .int .i64 ((len : Int) - 1 + leastS way ks j) ∧ mv = .int .i64 (leastM way ks j) ∧ iv = .int .i64 j ∧ wr = w) (fun _ _ iv _ => len - (intOf iv).toNat)
    case atStart =>
      refine ⟨0, Nat.zero_le _, ?_, rfl, rfl, rfl⟩
      simp [leastS]
    case round =>
      obtain ⟨j, hj, rfl, rfl, rfl, rfl⟩ := hrel
      have hSj := hS.out j
      have hMj := hM.out j
      by_cases hlt : j < len
      · obtain ⟨k, hk⟩ : ∃ k, ks[j]? = some k := ⟨ks[j]'(by rw [← hln.out]; exact hlt), List.getElem?_eq_getElem _⟩
        obtain ⟨b, hA, hc⟩ := hAt.out.kid hk
        have hmem : k ∈ ks := List.mem_of_getElem? hk
        obtain ⟨k1, k2, k3⟩ := ok_kid hok.out hmem
        have CK := Lib.hid (ih.out k hmem (some n.g) wr (hK.out k hmem) k1 (Int.le_trans k2 ha.out) (Int.le_trans k3 hb.out))
        have hS1 := leastS_succ (way := way) hk
        have hM1 := leastM_succ (way := way) hk
        have hlk := hkd.out k hmem
        have hAb : AA = some ⟨b, 0, none⟩ := by rw [hAA.out, hA]; rfl
        subst hAb
        obtain ⟨lk, hlk0⟩ : ∃ lk, lk = k.least way := ⟨_, rfl⟩
        obtain ⟨S0, hS0⟩ : ∃ S0, S0 = leastS way ks j := ⟨_, rfl⟩
        obtain ⟨M0, hM0⟩ : ∃ M0, M0 = leastM way ks j := ⟨_, rfl⟩
        rw [← hlk0] at CK hlk hS1 hM1
        rw [← hS0] at hSj hS1 ⊢
        rw [← hM0] at hMj hM1 ⊢
        replace hk := Lib.hid hk; replace hA := Lib.hid hA; replace hS1 := Lib.hid hS1; replace hM1 := Lib.hid hM1; replace hlk0 := Lib.hid hlk0; replace hS0 := Lib.hid hS0; replace hM0 := Lib.hid hM0
        replace k1 := Lib.hid k1; replace k2 := Lib.hid k2; replace k3 := Lib.hid k3
        unfold ptr at hc CK
        go_wp2_with fail
        refine CK.out.mono ?_
        rintro e w1 ⟨rfl, rfl⟩
        rcases Int.lt_or_le M0 lk with hml | hml
        all_goals
          go_wp2_with fail
          refine ⟨⟨j + 1, by omega, ?_, ?_, by go_num, trivial⟩, by simp [intOf]; omega⟩
          · rw [hS1.out]; go_num
          · rw [hM1.out]
            all_goals (congr 1; omega)
      · have hje : j = len := by omega
        subst hje
        obtain ⟨S0, hS0⟩ : ∃ S0, S0 = leastS way ks j := ⟨_, rfl⟩
        obtain ⟨M0, hM0⟩ : ∃ M0, M0 = leastM way ks j := ⟨_, rfl⟩
        rw [← hS0] at hSj ⊢
        rw [← hM0] at hMj ⊢
        replace hS0 := Lib.hid hS0; replace hM0 := Lib.hid hM0
        by_cases hj0 : j = 0
        · subst hj0
          go_wp2_with fail
          all_goals
            go_ret
            rw [← hM0.out]
            exact ⟨rfl, rfl⟩
        · by_cases hww : nw = way
          · subst hww
            go_wp2_with fail
            all_goals
              go_ret
              rw [← hS0.out]
              exact ⟨rfl, rfl⟩
          · go_wp2_with fail
            all_goals
              go_ret
              rw [← hM0.out]
              exact ⟨rfl, rfl⟩
end Go.Proofs.YtcklmkjlbpjojaaDoor
namespace Go.Proofs.YtcklmkjlbpjojaaDoor
open Go.RowKit
set_option linter.unusedSimpArgs false
set_option linter.unusedVariables false

theorem TP.atn {w : World} {up : Option Nat} {t : T} (h : TP w up t) : At w up t.n t.ks := by cases t; exact h.at_
theorem bl_apart {n : Nd} {ks : List T} (h : (T.mk n ks).bl.Nodup) : n.g ∉ blL ks ∧ (∀ b, n.A = some b → b ∉ blL ks ∧ b ≠ n.g) ∧ (blL ks).Nodup := by
  rw [T.bl_mk] at h
  obtain ⟨h1, h2⟩ := List.nodup_cons.1 h
  obtain ⟨h3, h4, h5⟩ := List.nodup_append.1 h2
  exact ⟨fun hm => h1 (by simp [hm]), fun b hb => ⟨fun hm => h5 b (by simp [hb]) b hm rfl, fun e => h1 (by subst e; simp [hb])⟩, h4⟩
/-- A split's kids are leaves, or splits of the other way. -/
inductive E.alt : E → Prop
  | mk {p a b way : Int} {ks : List E} (h : ∀ k ∈ ks, k.ks = [] ∨ k.way ≠ way) (hk : ∀ k ∈ ks, k.alt) : E.alt (.mk p a b way ks)
theorem er_ks (t : T) : t.er.ks = erL t.ks := by cases t; rw [T.er_mk]; rfl
theorem er_ks_nil (t : T) : t.er.ks = [] ↔ t.ks = [] := by rw [er_ks, erL_map, List.map_eq_nil_iff]
theorem alt_T {n : Nd} {ks : List T} : (T.mk n ks).er.alt ↔ (∀ k ∈ ks, k.ks = [] ∨ k.n.way ≠ n.way) ∧ ∀ k ∈ ks, k.er.alt := by
  rw [T.er_mk, erL_map]
  constructor
  · intro h
    cases h with
    | mk h1 h2 =>
      refine ⟨fun k hk => ?_, fun k hk => h2 _ (List.mem_map_of_mem hk)⟩
      have := h1 _ (List.mem_map_of_mem hk)
      rwa [er_ks_nil, T.er_way] at this
  · rintro ⟨h1, h2⟩
    refine .mk (fun k hk => ?_) fun k hk => ?_
    · obtain ⟨s, hs, rfl⟩ := List.mem_map.1 hk
      rw [er_ks_nil, T.er_way]; exact h1 s hs
    · obtain ⟨s, hs, rfl⟩ := List.mem_map.1 hk
      exact h2 s hs
theorem alt_leaf (n : Nd) : (T.mk n []).er.alt := alt_T.2 ⟨by simp, by simp⟩
theorem alt_plug : ∀ (c : List Fr) (t t' : T), (plug c t).er.alt → t.er.alt ∧ (∀ f d, c = f :: d → t.ks = [] ∨ t.n.way ≠ f.n.way) ∧ (t'.er.alt → (∀ f d, c = f :: d → t'.ks = [] ∨ t'.n.way ≠ f.n.way) → (plug c t').er.alt)
  | [], t, t', h => ⟨h, (fun f d e => by cases e), fun h1 _ => h1⟩
  | f :: c, t, t', h => by
    obtain ⟨h1, h2, h3⟩ := alt_plug c (.mk f.n (f.L ++ t :: f.R)) (.mk f.n (f.L ++ t' :: f.R)) h
    obtain ⟨h4, h5⟩ := alt_T.1 h1
    refine ⟨h5 t (by simp), fun g d e => by injection e with e1 e2; subst e1; exact h4 t (by simp), fun h6 h7 => h3 ?_ ?_⟩
    · refine alt_T.2 ⟨fun k hk => ?_, fun k hk => ?_⟩
      · simp only [List.mem_append, List.mem_cons] at hk
        rcases hk with h | rfl | h
        · exact h4 k (by simp [h])
        · exact h7 f c rfl
        · exact h4 k (by simp [h])
      · simp only [List.mem_append, List.mem_cons] at hk
        rcases hk with h | rfl | h
        · exact h5 k (by simp [h])
        · exact h6
        · exact h5 k (by simp [h])
    · intro g d e
      rcases h2 g d e with h | h
      · exact absurd h (by simp [T.ks])
      · exact .inr h

end Go.Proofs.YtcklmkjlbpjojaaDoor
