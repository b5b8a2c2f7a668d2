/- Layout: least and grow as functions on trees; what they keep. No walk. -/
import Derived.Test.YtcklmkjlbpjojaaGreatDoorF0
namespace Go.Proofs.YtcklmkjlbpjojaaGreatDoor
open Go.RowKit
set_option linter.unusedSimpArgs false
set_option linter.unusedVariables false

def Nd.sz (n : Nd) (way : Int) : Int := if way = 0 then n.a else n.b
def T.sz (t : T) (way : Int) : Int := t.n.sz way
def Nd.gr (n : Nd) (way z : Int) : Nd := if way = 0 then { n with a := n.a + z } else { n with b := n.b + z }
mutual
/-- The least size of a tree in a way. -/
def T.least (way : Int) : T → Int
  | .mk n ks => if ks.length ≠ 0 ∧ n.way = way then (ks.length : Int) - 1 + (leastL way ks).sum else (leastL way ks).foldl max 1
def leastL (way : Int) : List T → List Int
  | [] => []
  | k :: ks => k.least way :: leastL way ks
end
theorem T.least_mk (way : Int) (n : Nd) (ks : List T) : (T.mk n ks).least way = if ks.length ≠ 0 ∧ n.way = way then (ks.length : Int) - 1 + (leastL way ks).sum else (leastL way ks).foldl max 1 := by rw [T.least]
theorem leastL_map (way : Int) : ∀ ks : List T, leastL way ks = ks.map (T.least way)
  | [] => by rw [leastL]; rfl
  | k :: ks => by rw [leastL, leastL_map way ks]; rfl
mutual
/-- A tree made greater, or less. -/
def T.grow (way : Int) : T → Int → T
  | .mk n ks, z => .mk (n.gr way z) (growR way n.way ks z).1
def growR (way nway : Int) : List T → Int → List T × Int
  | [], z => ([], z)
  | k :: ks, z =>
    ((if nway ≠ way then k.grow way (growR way nway ks z).2 else if 0 < (growR way nway ks z).2 then k.grow way (growR way nway ks z).2
      else if (growR way nway ks z).2 < 0 then k.grow way (-(min (-(growR way nway ks z).2) (k.sz way - k.least way))) else k) :: (growR way nway ks z).1,
     if nway ≠ way then (growR way nway ks z).2 else if 0 < (growR way nway ks z).2 then 0
      else if (growR way nway ks z).2 < 0 then (growR way nway ks z).2 + min (-(growR way nway ks z).2) (k.sz way - k.least way) else (growR way nway ks z).2)
end
theorem T.grow_mk (way z : Int) (n : Nd) (ks : List T) : (T.mk n ks).grow way z = .mk (n.gr way z) (growR way n.way ks z).1 := by rw [T.grow]
theorem growR_nil (way nway z : Int) : growR way nway [] z = ([], z) := by rw [growR]
/-- What one kid becomes, and what is left. -/
def gk (way nway : Int) (k : T) (z : Int) : T :=
  if nway ≠ way then k.grow way z else if 0 < z then k.grow way z else if z < 0 then k.grow way (-(min (-z) (k.sz way - k.least way))) else k
def gz (way nway : Int) (k : T) (z : Int) : Int :=
  if nway ≠ way then z else if 0 < z then 0 else if z < 0 then z + min (-z) (k.sz way - k.least way) else z
theorem growR_cons (way nway z : Int) (k : T) (ks : List T) : growR way nway (k :: ks) z = (gk way nway k (growR way nway ks z).2 :: (growR way nway ks z).1, gz way nway k (growR way nway ks z).2) := by
  rw [growR]; rfl

theorem Nd.gr_g (n : Nd) (way z : Int) : (n.gr way z).g = n.g ∧ (n.gr way z).A = n.A ∧ (n.gr way z).c = n.c ∧ (n.gr way z).p = n.p ∧ (n.gr way z).way = n.way ∧ (n.gr way z).x = n.x ∧ (n.gr way z).y = n.y := by
  unfold Nd.gr; split <;> exact ⟨rfl, rfl, rfl, rfl, rfl, rfl, rfl⟩
theorem Nd.gr_sz (n : Nd) {way : Int} (z : Int) (hw : way = 0 ∨ way = 1) : (n.gr way z).sz way = n.sz way + z ∧ (n.gr way z).sz (1 - way) = n.sz (1 - way) := by
  unfold Nd.gr Nd.sz; rcases hw with rfl | rfl <;> simp
theorem T.grow_n (t : T) (way z : Int) : (t.grow way z).n = t.n.gr way z := by cases t; rw [T.grow_mk]; rfl
theorem T.grow_g (t : T) (way z : Int) : (t.grow way z).g = t.g := by unfold T.g; rw [T.grow_n]; exact (Nd.gr_g _ _ _).1
theorem gk_g (way nway : Int) (k : T) (z : Int) : (gk way nway k z).g = k.g := by
  unfold gk
  (repeat' split) <;> first | exact T.grow_g _ _ _ | rfl
theorem growR_len (way nway z : Int) : ∀ ks : List T, (growR way nway ks z).1.length = ks.length
  | [] => by rw [growR_nil]
  | k :: ks => by rw [growR_cons]; simp [growR_len way nway z ks]
theorem growR_ptrs (way nway z : Int) : ∀ ks : List T, ptrs (growR way nway ks z).1 = ptrs ks
  | [] => by rw [growR_nil]
  | k :: ks => by
    rw [growR_cons]
    have := growR_ptrs way nway z ks
    simp only [ptrs, List.map_cons] at this ⊢
    rw [this, gk_g]
/-- What every grown kid keeps is kept by all. -/
theorem growR_all {Q : T → T → Prop} (way nway z : Int) (hrefl : ∀ k, Q k k) : ∀ ks : List T, (∀ k ∈ ks, ∀ z, Q k (k.grow way z)) → ∀ (i : Nat) (k' : T), (growR way nway ks z).1[i]? = some k' → ∃ k, ks[i]? = some k ∧ Q k k'
  | [], _, i, k', h => by rw [growR_nil] at h; simp at h
  | k :: ks, hQ, i, k', h => by
    rw [growR_cons] at h
    rcases i with _ | i
    · simp at h
      refine ⟨k, rfl, ?_⟩
      rw [← h]
      unfold gk
      repeat' split
      all_goals first | exact hQ k (by simp) _ | exact hrefl k
    · exact growR_all way nway z hrefl ks (fun j hj => hQ j (by simp [hj])) i k' (by simpa using h)
theorem map_growR {α : Type} (f : T → α) (way nway z : Int) (ks : List T) (h : ∀ k ∈ ks, ∀ z, f (k.grow way z) = f k) : (growR way nway ks z).1.map f = ks.map f := by
  refine List.ext_getElem? fun i => ?_
  rw [List.getElem?_map, List.getElem?_map]
  cases h1 : (growR way nway ks z).1[i]? with
  | none =>
    have : ks[i]? = none := by
      rw [List.getElem?_eq_none_iff] at h1 ⊢
      rwa [growR_len] at h1
    rw [this]
  | some k' =>
    obtain ⟨k, e, hq⟩ := growR_all (Q := fun k k' => f k' = f k) way nway z (fun _ => rfl) ks h i k' h1
    rw [e]
    simp [hq]
theorem blL_flat : ∀ ks : List T, blL ks = (ks.map T.bl).flatten
  | [] => by rw [blL_nil]; rfl
  | k :: ks => by rw [blL_cons, blL_flat ks]; rfl
theorem T.grow_bl (t : T) (way : Int) : ∀ z, (t.grow way z).bl = t.bl := by
  induction t using T.ind with
  | h n ks ih =>
    intro z
    rw [T.grow_mk, T.bl_mk, T.bl_mk, (Nd.gr_g n way z).1, (Nd.gr_g n way z).2.1, blL_flat, blL_flat, map_growR T.bl way n.way z ks ih]
theorem psL_flat : ∀ ks : List E, psL ks = (ks.map E.ps).flatten
  | [] => by rw [psL_nil]; rfl
  | k :: ks => by rw [psL_cons, psL_flat ks]; rfl
theorem T.grow_ps (t : T) (way : Int) : ∀ z, (t.grow way z).er.ps = t.er.ps := by
  induction t using T.ind with
  | h n ks ih =>
    intro z
    rw [T.grow_mk, T.er_mk, T.er_mk, E.ps_mk, E.ps_mk, erL_len, erL_len, growR_len, (Nd.gr_g n way z).2.2.2.1, psL_flat, psL_flat, erL_map, erL_map, List.map_map, List.map_map]
    have := map_growR (fun k => k.er.ps) way n.way z ks ih
    rw [show (E.ps ∘ T.er) = fun k => k.er.ps from rfl, this]

/-- A filled tree, in words of its sizes. -/
theorem ok_T {n : Nd} {ks : List T} : (T.mk n ks).er.ok ↔ (ks = [] ∧ n.way = 0 ∧ (1 ≤ n.p ∧ n.p ≤ 999) ∧ 1 ≤ n.a ∧ 1 ≤ n.b) ∨
    (n.p = 0 ∧ 1 ≤ n.a ∧ 1 ≤ n.b ∧ 2 ≤ ks.length ∧ (n.way = 0 ∨ n.way = 1) ∧ (∀ k ∈ ks, k.sz (1 - n.way) = n.sz (1 - n.way)) ∧ (ks.map fun k => k.sz n.way + 1).sum = n.sz n.way + 1 ∧ ∀ k ∈ ks, k.er.ok) := by
  rw [T.er_mk, erL_map]
  constructor
  · intro h
    rcases h.inv with ⟨h1, h2⟩ | ⟨h1, h2, h3, h4, h5, h6⟩
    · exact .inl ⟨by simpa using h1, h2⟩
    · refine .inr ⟨h1, h2, h3, by simpa using h4, ?_, ?_, ?_, fun k hk => h6 _ (List.mem_map_of_mem hk)⟩
      · rcases h5 with ⟨h, _⟩ | ⟨h, _⟩ <;> simp [h]
      · intro k hk
        rcases h5 with ⟨h, h7, _⟩ | ⟨h, h7, _⟩
        · have := h7 _ (List.mem_map_of_mem hk)
          rw [T.er_b] at this
          rw [h]; simpa [T.sz, Nd.sz] using this
        · have := h7 _ (List.mem_map_of_mem hk)
          rw [T.er_a] at this
          rw [h]; simpa [T.sz, Nd.sz] using this
      · rcases h5 with ⟨h, _, h7⟩ | ⟨h, _, h7⟩
        · rw [List.map_map] at h7
          rw [h]; simpa [T.sz, Nd.sz, Function.comp_def, T.er_a] using h7
        · rw [List.map_map] at h7
          rw [h]; simpa [T.sz, Nd.sz, Function.comp_def, T.er_b] using h7
  · rintro (⟨h1, h2, h3, h4, h5⟩ | ⟨h1, h2, h3, h4, h5, h6, h7, h8⟩)
    · subst h1; rw [h2]; exact .leaf h3 h4 h5
    · rw [h1]
      refine .node h2 h3 (by simpa using h4) ?_ (fun k hk => ?_)
      · rcases h5 with h | h
        · refine .inl ⟨h, fun k hk => ?_, ?_⟩
          · obtain ⟨s, hs, rfl⟩ := List.mem_map.1 hk
            rw [T.er_b]
            have := h6 s hs
            rw [h] at this; simpa [T.sz, Nd.sz] using this
          · rw [List.map_map]
            rw [h] at h7; simpa [T.sz, Nd.sz, Function.comp_def, T.er_a] using h7
        · refine .inr ⟨h, fun k hk => ?_, ?_⟩
          · obtain ⟨s, hs, rfl⟩ := List.mem_map.1 hk
            rw [T.er_a]
            have := h6 s hs
            rw [h] at this; simpa [T.sz, Nd.sz] using this
          · rw [List.map_map]
            rw [h] at h7; simpa [T.sz, Nd.sz, Function.comp_def, T.er_b] using h7
      · obtain ⟨s, hs, rfl⟩ := List.mem_map.1 hk
        exact h8 s hs
theorem foldl_max_ge (l : List Int) : ∀ m, m ≤ l.foldl max m := by
  induction l with
  | nil => intro m; simp
  | cons a l ih => intro m; rw [List.foldl_cons]; exact Int.le_trans (Int.le_max_left _ _) (ih _)
theorem foldl_max_mem (l : List Int) : ∀ m, ∀ x ∈ l, x ≤ l.foldl max m := by
  induction l with
  | nil => intro m x h; simp at h
  | cons a l ih =>
    intro m x h
    rw [List.foldl_cons]
    rcases List.mem_cons.1 h with rfl | h
    · exact Int.le_trans (Int.le_max_right _ _) (foldl_max_ge l _)
    · exact ih _ x h
theorem foldl_max_le (l : List Int) : ∀ m c, m ≤ c → (∀ x ∈ l, x ≤ c) → l.foldl max m ≤ c := by
  induction l with
  | nil => intro m c h _; simpa using h
  | cons a l ih =>
    intro m c h1 h2
    rw [List.foldl_cons]
    exact ih _ c (Int.max_le.2 ⟨h1, h2 a (by simp)⟩) fun x hx => h2 x (by simp [hx])
theorem sum_le (f g : T → Int) : ∀ ks : List T, (∀ k ∈ ks, f k ≤ g k) → (ks.map f).sum ≤ (ks.map g).sum
  | [], _ => by simp
  | k :: ks, h => by
    have := sum_le f g ks fun j hj => h j (by simp [hj])
    have := h k (by simp)
    simp only [List.map_cons, List.sum_cons]
    omega
theorem sum_add1 (f : T → Int) : ∀ ks : List T, (ks.map fun k => f k + 1).sum = (ks.map f).sum + ks.length
  | [] => by simp
  | k :: ks => by
    have := sum_add1 f ks
    simp only [List.map_cons, List.sum_cons, List.length_cons]
    push_cast
    omega
theorem sum_pos (f : T → Int) : ∀ ks : List T, (∀ k ∈ ks, 1 ≤ f k) → (ks.length : Int) ≤ (ks.map f).sum
  | [], _ => by simp
  | k :: ks, h => by
    have := sum_pos f ks fun j hj => h j (by simp [hj])
    have := h k (by simp)
    simp only [List.map_cons, List.sum_cons, List.length_cons]
    push_cast
    omega
theorem sum_nn (f : T → Int) : ∀ ks : List T, (∀ k ∈ ks, 0 ≤ f k) → 0 ≤ (ks.map f).sum
  | [], _ => by simp
  | k :: ks, h => by
    have := sum_nn f ks fun j hj => h j (by simp [hj])
    have := h k (by simp)
    simp only [List.map_cons, List.sum_cons]
    omega
theorem sum_sub (f g : T → Int) : ∀ ks : List T, (ks.map fun k => f k - g k).sum = (ks.map f).sum - (ks.map g).sum
  | [] => by simp
  | k :: ks => by
    have := sum_sub f g ks
    simp only [List.map_cons, List.sum_cons]
    omega
theorem least_le {way : Int} (hw : way = 0 ∨ way = 1) (t : T) : t.er.ok → 1 ≤ t.least way ∧ t.least way ≤ t.sz way := by
  induction t using T.ind with
  | h n ks ih =>
    intro hok
    rw [T.least_mk, leastL_map]
    rcases ok_T.1 hok with ⟨h1, h2, h3, h4, h5⟩ | ⟨h1, h2, h3, h4, h5, h6, h7, h8⟩
    · subst h1
      simp only [List.length_nil, ne_eq, not_true_eq_false, false_and, if_false, List.map_nil, List.foldl_nil]
      refine ⟨by omega, ?_⟩
      unfold T.sz Nd.sz T.n; split <;> assumption
    · by_cases hn : n.way = way
      · rw [if_pos ⟨by omega, hn⟩]
        rw [hn] at h7
        rw [sum_add1 (fun k => k.sz way)] at h7
        have a1 := sum_le (T.least way) (fun k => k.sz way) ks fun k hk => (ih k hk (h8 k hk)).2
        have a2 := sum_pos (T.least way) ks fun k hk => (ih k hk (h8 k hk)).1
        have a3 : (T.mk n ks).sz way = n.sz way := rfl
        omega
      · rw [if_neg (fun h => hn h.2)]
        have hw' : 1 - n.way = way := by omega
        rw [hw'] at h6
        refine ⟨foldl_max_ge _ 1, foldl_max_le _ _ _ ?_ ?_⟩
        · unfold T.sz Nd.sz T.n; split <;> assumption
        · intro x hx
          obtain ⟨k, hk, rfl⟩ := List.mem_map.1 hx
          have := (ih k hk (h8 k hk)).2
          rw [h6 k hk] at this
          exact this
theorem least_kid {way : Int} {n : Nd} {ks : List T} (hn : n.way ≠ way) {k : T} (hk : k ∈ ks) : k.least way ≤ (T.mk n ks).least way := by
  rw [T.least_mk, leastL_map, if_neg (fun h => hn h.2)]
  exact foldl_max_mem _ _ _ (List.mem_map_of_mem hk)

/-- What grow keeps of a kid. -/
structure Gr (way : Int) (k k' : T) (z : Int) : Prop where
  ok : k'.er.ok
  sz : k'.sz way = k.sz way + z
  sz' : k'.sz (1 - way) = k.sz (1 - way)
theorem growR_across {way nway : Int} (hn : nway ≠ way) (z : Int) : ∀ ks : List T, (growR way nway ks z).2 = z
  | [] => by rw [growR_nil]
  | k :: ks => by rw [growR_cons]; unfold gz; rw [if_pos hn, growR_across hn z ks]
theorem growR_across_map {way nway : Int} (hn : nway ≠ way) (z : Int) : ∀ ks : List T, (growR way nway ks z).1 = ks.map fun k => k.grow way z
  | [] => by rw [growR_nil]; rfl
  | k :: ks => by rw [growR_cons]; unfold gk; rw [if_pos hn, growR_across hn z ks, growR_across_map hn z ks]; rfl
/-- What is left behind the kids. -/
theorem growR_left {way : Int} (hw : way = 0 ∨ way = 1) (z : Int) : ∀ ks : List T, (∀ k ∈ ks, k.er.ok) →
    (0 < z → (growR way way ks z).2 = if ks.length = 0 then z else 0) ∧ (z ≤ 0 → (growR way way ks z).2 = min 0 (z + (ks.map fun k => k.sz way - k.least way).sum))
  | [], _ => by rw [growR_nil]; exact ⟨fun _ => rfl, fun h => by simp; omega⟩
  | k :: ks, h => by
    obtain ⟨h1, h2⟩ := growR_left hw z ks fun j hj => h j (by simp [hj])
    have h3 := least_le hw k (h k (by simp))
    rw [growR_cons]
    constructor
    · intro hz
      have := h1 hz
      simp only [List.length_cons]
      rw [if_neg (by omega)]
      show gz way way k _ = 0
      unfold gz
      rw [if_neg (by simp), this]
      by_cases hl : ks.length = 0
      · rw [if_pos hl, if_pos hz]
      · rw [if_neg hl, if_neg (by omega), if_neg (by omega)]
    · intro hz
      have := h2 hz
      show gz way way k _ = _
      unfold gz
      rw [if_neg (by simp)]
      simp only [List.map_cons, List.sum_cons]
      generalize (ks.map fun k => k.sz way - k.least way).sum = S at *
      generalize (growR way way ks z).2 = r at *
      repeat' split
      all_goals omega
theorem growR_bound {way nway : Int} (hw : way = 0 ∨ way = 1) (z : Int) (ks : List T) (h : ∀ k ∈ ks, k.er.ok) : (0 ≤ z → 0 ≤ (growR way nway ks z).2 ∧ (growR way nway ks z).2 ≤ z) ∧ (z ≤ 0 → z ≤ (growR way nway ks z).2 ∧ (growR way nway ks z).2 ≤ 0) := by
  by_cases hn : nway = way
  · subst hn
    obtain ⟨h1, h2⟩ := growR_left hw z ks h
    have h3 : 0 ≤ (ks.map fun k => k.sz nway - k.least nway).sum := by
      exact sum_nn (fun k => k.sz nway - k.least nway) ks (fun k hk => by have := least_le hw k (h k hk); omega)
    constructor
    · intro hz
      rcases Int.lt_or_le 0 z with hz' | hz'
      · rw [h1 hz']; split <;> omega
      · rw [h2 hz']; omega
    · intro hz
      rw [h2 hz]; omega
  · rw [growR_across hn]; omega
theorem grow_ok {way : Int} (hw : way = 0 ∨ way = 1) (t : T) : ∀ z, t.er.ok → t.least way ≤ t.sz way + z → Gr way t (t.grow way z) z := by
  induction t using T.ind with
  | h n ks ih =>
    intro z hok hz
    obtain ⟨hg1, hg2⟩ := Nd.gr_sz n z hw
    have hl1 := (least_le hw _ hok).1
    rw [T.grow_mk]
    have hsz : (T.mk n ks).sz way = n.sz way := rfl
    have hwa : ∀ m : Nd, 1 ≤ m.sz way → 1 ≤ m.sz (1 - way) → 1 ≤ m.a ∧ 1 ≤ m.b := by
      intro m h1 h2
      rcases hw with rfl | rfl
      · simp [Nd.sz] at h1 h2; exact ⟨h1, h2⟩
      · simp [Nd.sz] at h1 h2; exact ⟨h2, h1⟩
    have hab : ∀ m : Nd, 1 ≤ m.a → 1 ≤ m.b → 1 ≤ m.sz (1 - way) := by
      intro m h1 h2
      rcases hw with rfl | rfl <;> simp [Nd.sz] <;> assumption
    refine ⟨?_, hg1, hg2⟩
    rcases ok_T.1 hok with ⟨h1, h2, h3, h4, h5⟩ | ⟨h1, h2, h3, h4, h5, h6, h7, h8⟩
    · subst h1
      obtain ⟨b1, b2⟩ := hwa (n.gr way z) (by omega) (by rw [hg2]; exact hab n h4 h5)
      exact ok_T.2 (.inl ⟨by rw [growR_nil], by rw [(Nd.gr_g n way z).2.2.2.2.1]; exact h2, by rw [(Nd.gr_g n way z).2.2.2.1]; exact h3, b1, b2⟩)
    · obtain ⟨b1, b2⟩ := hwa (n.gr way z) (by omega) (by rw [hg2]; exact hab n h2 h3)
      refine ok_T.2 (.inr ⟨by rw [(Nd.gr_g n way z).2.2.2.1]; exact h1, b1, b2, by rw [growR_len]; exact h4, by rw [(Nd.gr_g n way z).2.2.2.2.1]; exact h5, ?_⟩)
      rw [(Nd.gr_g n way z).2.2.2.2.1]
      by_cases hn : n.way = way
      · -- along
        subst hn
        rw [hg1, hg2]
        have key : ∀ l : List T, (∀ k ∈ l, k ∈ ks) → (∀ k ∈ (growR n.way n.way l z).1, k.er.ok ∧ k.sz (1 - n.way) = n.sz (1 - n.way)) ∧
            ((growR n.way n.way l z).1.map fun k => k.sz n.way + 1).sum = (l.map fun k => k.sz n.way + 1).sum + z - (growR n.way n.way l z).2 := by
          intro l
          induction l with
          | nil => intro _; rw [growR_nil]; simp
          | cons k l ihl =>
            intro hl
            obtain ⟨i1, i2⟩ := ihl fun j hj => hl j (by simp [hj])
            have hk := hl k (by simp)
            have hll := least_le hw k (h8 k hk)
            have hgk : ∀ r, Gr n.way k (gk n.way n.way k r) (r - gz n.way n.way k r) := by
              intro r
              unfold gk gz
              rw [if_neg (show ¬ n.way ≠ n.way by simp), if_neg (show ¬ n.way ≠ n.way by simp)]
              by_cases r1 : 0 < r
              · rw [if_pos r1, if_pos r1, show r - 0 = r by omega]
                exact ih k hk r (h8 k hk) (by omega)
              · rw [if_neg r1, if_neg r1]
                by_cases r2 : r < 0
                · rw [if_pos r2, if_pos r2]
                  rw [show r - (r + min (-r) (k.sz n.way - k.least n.way)) = -(min (-r) (k.sz n.way - k.least n.way)) by omega]
                  exact ih k hk _ (h8 k hk) (by omega)
                · rw [if_neg r2, if_neg r2]
                  exact ⟨h8 k hk, by omega, rfl⟩
            rw [growR_cons]
            have hg := hgk (growR n.way n.way l z).2
            constructor
            · intro j hj
              rcases List.mem_cons.1 hj with rfl | hj
              · exact ⟨hg.ok, by rw [hg.sz']; exact h6 k hk⟩
              · exact i1 j hj
            · simp only [List.map_cons, List.sum_cons]
              rw [i2, hg.sz]
              omega
        obtain ⟨k1, k2⟩ := key ks fun k hk => hk
        refine ⟨fun k hk => (k1 k hk).2, ?_, fun k hk => (k1 k hk).1⟩
        rw [k2, h7]
        have hleft : (growR n.way n.way ks z).2 = 0 := by
          obtain ⟨l1, l2⟩ := growR_left hw z ks h8
          rcases Int.lt_or_le 0 z with hz' | hz'
          · rw [l1 hz', if_neg (by omega)]
          · rw [l2 hz']
            rw [T.least_mk, if_pos ⟨by omega, rfl⟩, leastL_map] at hz
            rw [sum_add1 (fun k => k.sz n.way)] at h7
            have : (ks.map fun k => k.sz n.way - k.least n.way).sum = (ks.map fun k => k.sz n.way).sum - (ks.map (T.least n.way)).sum := by
              exact sum_sub _ _ ks
            rw [this]
            omega
        omega
      · -- across
        have hw' : 1 - n.way = way := by omega
        have hw2 : n.way = 1 - way := by omega
        rw [growR_across_map hn]
        have hall : ∀ k ∈ ks, Gr way k (k.grow way z) z := fun k hk => ih k hk z (h8 k hk) (by
          have a1 := least_kid hn hk
          have a2 := h6 k hk
          rw [hw'] at a2
          rw [a2]
          omega)
        refine ⟨fun k hk => ?_, ?_, fun k hk => ?_⟩
        · obtain ⟨s, hs, rfl⟩ := List.mem_map.1 hk
          rw [hw', hg1]
          have a2 := h6 s hs
          rw [hw'] at a2
          rw [(hall s hs).sz, a2]
        · rw [hw2, hg2, ← hw2, ← h7, List.map_map]
          congr 1
          refine List.map_congr_left fun s hs => ?_
          show (s.grow way z).sz n.way + 1 = s.sz n.way + 1
          have := (hall s hs).sz'
          rw [← hw2] at this
          rw [this]
        · obtain ⟨s, hs, rfl⟩ := List.mem_map.1 hk
          exact (hall s hs).ok
end Go.Proofs.YtcklmkjlbpjojaaGreatDoor
