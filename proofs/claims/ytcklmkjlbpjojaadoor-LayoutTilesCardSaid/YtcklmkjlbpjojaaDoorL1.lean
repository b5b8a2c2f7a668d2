/- Layout: what the example is written as. Layout: the plain law: where nodes lie; how long a text is; neighbours. No walk. -/
import Derived.Test.YtcklmkjlbpjojaaDoorH4
import Derived.Test.YtcklmkjlbpjojaaDoorH1
import Derived.Test.YtcklmkjlbpjojaaDoorXA
import Derived.Test.YtcklmkjlbpjojaaDoorG2
namespace Go.Proofs.YtcklmkjlbpjojaaDoor
open Go.RowKit
set_option linter.unusedSimpArgs false
set_option linter.unusedVariables false

theorem dd1 {u : Nat} (h : u < 10) : Lib.decDigits u = [UInt8.ofNat (48 + u)] := by rw [Lib.decDigits, dif_pos h]
theorem dd2 {u : Nat} (h : ¬ u < 10) (h2 : u / 10 < 10) : Lib.decDigits u = [UInt8.ofNat (48 + u / 10), UInt8.ofNat (48 + u % 10)] := by rw [Lib.decDigits, dif_neg h, dd1 h2]; rfl
theorem it0 : Lib.itoa 0 = [48] := by unfold Lib.itoa; rw [if_neg (by decide)]; exact dd1 (by decide)
theorem it1 : Lib.itoa 1 = [49] := by unfold Lib.itoa; rw [if_neg (by decide)]; exact dd1 (by decide)
theorem it2 : Lib.itoa 2 = [50] := by unfold Lib.itoa; rw [if_neg (by decide)]; exact dd1 (by decide)
theorem it3 : Lib.itoa 3 = [51] := by unfold Lib.itoa; rw [if_neg (by decide)]; exact dd1 (by decide)
theorem it5 : Lib.itoa 5 = [53] := by unfold Lib.itoa; rw [if_neg (by decide)]; exact dd1 (by decide)
theorem it18 : Lib.itoa 18 = [49, 56] := by unfold Lib.itoa; rw [if_neg (by decide)]; exact dd2 (by decide) (by decide)
theorem it19 : Lib.itoa 19 = [49, 57] := by unfold Lib.itoa; rw [if_neg (by decide)]; exact dd2 (by decide) (by decide)
theorem it24 : Lib.itoa 24 = [50, 52] := by unfold Lib.itoa; rw [if_neg (by decide)]; exact dd2 (by decide) (by decide)
theorem it39 : Lib.itoa 39 = [51, 57] := by unfold Lib.itoa; rw [if_neg (by decide)]; exact dd2 (by decide) (by decide)
theorem it40 : Lib.itoa 40 = [52, 48] := by unfold Lib.itoa; rw [if_neg (by decide)]; exact dd2 (by decide) (by decide)
theorem it41 : Lib.itoa 41 = [52, 49] := by unfold Lib.itoa; rw [if_neg (by decide)]; exact dd2 (by decide) (by decide)
theorem it80 : Lib.itoa 80 = [56, 48] := by unfold Lib.itoa; rw [if_neg (by decide)]; exact dd2 (by decide) (by decide)
def shownBody : List UInt8 := [56, 48, 120, 50, 52, 44, 48, 44, 48, 123, 52, 48, 120, 50, 52, 44, 48, 44, 48, 44, 49, 44, 51, 57, 120, 50, 52, 44, 52, 49, 44, 48, 91, 51, 57, 120, 49, 56, 44, 52, 49, 44, 48, 44, 50, 44, 51, 57, 120, 53, 44, 52, 49, 44, 49, 57, 44, 51, 93, 125]
def shownText : List UInt8 := [98, 97, 98, 99, 44, 56, 48, 120, 50, 52, 44, 48, 44, 48, 123, 52, 48, 120, 50, 52, 44, 48, 44, 48, 44, 49, 44, 51, 57, 120, 50, 52, 44, 52, 49, 44, 48, 91, 51, 57, 120, 49, 56, 44, 52, 49, 44, 48, 44, 50, 44, 51, 57, 120, 53, 44, 52, 49, 44, 49, 57, 44, 51, 93, 125]
theorem body_tr2 (F L S A B : Bk) : (tr2 F L S A B).body = shownBody := by
  unfold tr2
  simp only [T.body_mk, bodyL_cons, bodyL_nil, headB, mkN, it0, it1, it2, it3, it5, it18, it19, it24, it39, it40, it41, it80]
  rfl
theorem four_tr2 : fourB (sumB shownBody) = [98, 97, 98, 99] := by decide +kernel
theorem print_tr2 (F L S A B : Bk) : (tr2 F L S A B).print = shownText := by
  unfold T.print
  rw [body_tr2, four_tr2]
  rfl
theorem sum_ab : sumB [97, 98] = 32914 := by decide +kernel
end Go.Proofs.YtcklmkjlbpjojaaDoor
namespace Go.Proofs.YtcklmkjlbpjojaaDoor
open Go.RowKit
set_option linter.unusedSimpArgs false
set_option linter.unusedVariables false

/-- A node within a window. -/
def within (X Y A B : Int) (m : Nd) : Prop := X ≤ m.x ∧ m.x + m.a ≤ A ∧ Y ≤ m.y ∧ m.y + m.b ≤ B
theorem within.mono {X Y A B X' Y' A' B' : Int} {m : Nd} (h : within X Y A B m) (h1 : X' ≤ X) (h2 : Y' ≤ Y) (h3 : A ≤ A') (h4 : B ≤ B') : within X' Y' A' B' m := by unfold within at *; omega
theorem nds_place (t : T) : ∀ x y : Int, t.er.ok → 0 ≤ x → 0 ≤ y → x + t.n.a ≤ 1000 → y + t.n.b ≤ 1000 → ∀ m ∈ (t.place x y).nds, within x y (x + t.n.a) (y + t.n.b) m := by
  induction t using T.ind with
  | h n ks ih =>
    intro x y hok hx hy hxa hyb m hm
    change x + n.a ≤ 1000 at hxa
    change y + n.b ≤ 1000 at hyb
    show within x y (x + n.a) (y + n.b) m
    rw [T.place_mk, T.nds_mk] at hm
    rw [T.er_mk] at hok
    have hg := hok.ge
    rcases List.mem_cons.1 hm with rfl | hm
    · exact ⟨Int.le_refl _, Int.le_refl _, Int.le_refl _, Int.le_refl _⟩
    · have hks : ∀ k ∈ ks, k.er.ok := fun k hk => (hok.kid (k := k.er) (by rw [erL_map]; exact List.mem_map_of_mem hk)).1
      rcases hok.inv with ⟨h, _⟩ | ⟨_, _, _, _, hf, _⟩
      · have : ks = [] := by rw [erL_map] at h; exact List.map_eq_nil_iff.1 h
        subst this; rw [placeL_nil, ndsL_nil] at hm; cases hm
      · rcases hf with ⟨hw, h1, h2⟩ | ⟨hw, h1, h2⟩
        · have key : ∀ (l : List T) (x' : Int), (∀ k ∈ l, k ∈ ks) → x ≤ x' → ((l.map T.er).map fun k => k.a + 1).sum + x' ≤ x + n.a + 1 → ∀ m ∈ ndsL (placeL n.way l x' y), within x y (x + n.a) (y + n.b) m := by
            intro l
            induction l with
            | nil => intro x' _ _ _ m hm; rw [placeL_nil, ndsL_nil] at hm; cases hm
            | cons k l ih2 =>
              intro x' hl hx' hs m hm
              have hk := hl k (by simp)
              have hke : k.er ∈ erL ks := by rw [erL_map]; exact List.mem_map_of_mem hk
              have hkb : k.n.b = n.b := by have := h1 _ hke; rwa [T.er_b] at this
              have hka := (hks k hk).ge.1
              rw [T.er_a] at hka
              simp only [List.map_cons, List.sum_cons, T.er_a] at hs
              have hrest := (sum_ge (fun k : E => k.a + 1) (l.map T.er) (fun e he => by
                obtain ⟨j, hj, rfl⟩ := List.mem_map.1 he
                have := (hks j (hl j (by simp [hj]))).ge; omega)).1
              rw [placeL_cons, ndsL_cons] at hm
              rcases List.mem_append.1 hm with hm | hm
              · exact (ih k hk x' y (hks k hk) (by omega) hy (by omega) (by omega) m hm).mono hx' (Int.le_refl _) (by omega) (by omega)
              · have e1 : nx n.way k.n x' = x' + (k.n.a + 1) := by
                  unfold nx; rw [if_pos hw, wr_of (z := k.n.a + 1) (by omega), wr_of (by omega)]
                have e2 : ny n.way k.n y = y := by unfold ny; rw [if_pos hw]
                rw [e1, e2] at hm
                exact ih2 (x' + (k.n.a + 1)) (fun j hj => hl j (by simp [hj])) (by omega) (by omega) m hm
          refine key ks x (fun _ h => h) (Int.le_refl _) ?_ m hm
          rw [erL_map] at h2; omega
        · have hw0 : ¬ n.way = 0 := by omega
          have key : ∀ (l : List T) (y' : Int), (∀ k ∈ l, k ∈ ks) → y ≤ y' → ((l.map T.er).map fun k => k.b + 1).sum + y' ≤ y + n.b + 1 → ∀ m ∈ ndsL (placeL n.way l x y'), within x y (x + n.a) (y + n.b) m := by
            intro l
            induction l with
            | nil => intro y' _ _ _ m hm; rw [placeL_nil, ndsL_nil] at hm; cases hm
            | cons k l ih2 =>
              intro y' hl hy' hs m hm
              have hk := hl k (by simp)
              have hke : k.er ∈ erL ks := by rw [erL_map]; exact List.mem_map_of_mem hk
              have hkb : k.n.a = n.a := by have := h1 _ hke; rwa [T.er_a] at this
              have hka := (hks k hk).ge.2
              rw [T.er_b] at hka
              simp only [List.map_cons, List.sum_cons, T.er_b] at hs
              have hrest := (sum_ge (fun k : E => k.b + 1) (l.map T.er) (fun e he => by
                obtain ⟨j, hj, rfl⟩ := List.mem_map.1 he
                have := (hks j (hl j (by simp [hj]))).ge; omega)).1
              rw [placeL_cons, ndsL_cons] at hm
              rcases List.mem_append.1 hm with hm | hm
              · exact (ih k hk x y' (hks k hk) hx (by omega) (by omega) (by omega) m hm).mono (Int.le_refl _) hy' (by omega) (by omega)
              · have e1 : ny n.way k.n y' = y' + (k.n.b + 1) := by
                  unfold ny; rw [if_neg hw0, wr_of (z := k.n.b + 1) (by omega), wr_of (by omega)]
                have e2 : nx n.way k.n x = x := by unfold nx; rw [if_neg hw0]
                rw [e1, e2] at hm
                exact ih2 (y' + (k.n.b + 1)) (fun j hj => hl j (by simp [hj])) (by omega) (by omega) m hm
          refine key ks y (fun _ h => h) (Int.le_refl _) ?_ m hm
          rw [erL_map] at h2; omega
/-- A fine tree's nodes are small. -/
theorem Fine.nd {t : T} {k : Int} (h : Fine t k) : ∀ m ∈ t.nds, (0 ≤ m.p ∧ m.p ≤ 999) ∧ (0 ≤ m.x ∧ m.x ≤ 1000) ∧ (0 ≤ m.y ∧ m.y ≤ 1000) ∧ (1 ≤ m.a ∧ m.a ≤ 1000) ∧ (1 ≤ m.b ∧ m.b ≤ 1000) := by
  intro m hm
  have h1 := nds_ok t h.ok m hm
  have h2 := nds_place t 0 0 h.ok (Int.le_refl _) (Int.le_refl _) (by have := h.sz; omega) (by have := h.sz; omega) m (by rw [h.pl]; exact hm)
  have h3 := h.sz
  unfold within at h2
  omega
theorem leaf_nds {t s : T} (hs : s ∈ t.leaves) : s.n ∈ t.nds := by
  obtain ⟨c, e⟩ := leaf_plug t s hs
  obtain ⟨A, hA⟩ := nds_ctx c
  rw [e]; exact (hA s s.n).2 (.inr (by cases s; rw [T.nds_mk]; simp [T.n]))
theorem Fine.small {t : T} {k : Int} (h : Fine t k) : ∀ s ∈ t.leaves, small s.n := fun s hs => by
  have := h.nd _ (leaf_nds hs)
  unfold Go.Proofs.YtcklmkjlbpjojaaDoor.small
  omega
theorem Fine.rg {t : T} {k : Int} (h : Fine t k) : t.rg := fun m hm => by
  have := h.nd m hm
  unfold Nd.rg I64
  omega
theorem nds_len (t : T) : t.er.ok → t.nds.length + 1 ≤ 2 * t.leaves.length := by
  induction t using T.ind with
  | h n ks ih =>
    intro hok
    rw [T.er_mk] at hok
    have hks : ∀ k ∈ ks, k.er.ok := fun k hk => (hok.kid (k := k.er) (by rw [erL_map]; exact List.mem_map_of_mem hk)).1
    rw [T.nds_mk, T.leaves_mk, List.length_cons, List.length_append]
    have key : ∀ l : List T, (∀ k ∈ l, k ∈ ks) → (ndsL l).length + l.length ≤ 2 * (leavesL l).length := by
      intro l
      induction l with
      | nil => intro _; rw [ndsL_nil, leavesL_nil]; simp
      | cons k l ih2 =>
        intro hl
        have h1 := ih k (hl k (by simp)) (hks k (hl k (by simp)))
        have h2 := ih2 fun j hj => hl j (by simp [hj])
        rw [ndsL_cons, leavesL_cons, List.length_append, List.length_append, List.length_cons]; omega
    have hk := key ks fun _ h => h
    rcases hok.inv with ⟨h, _⟩ | ⟨_, _, _, hl, _, _⟩
    · have : ks = [] := by rw [erL_map] at h; exact List.map_eq_nil_iff.1 h
      subst this; rw [ndsL_nil, leavesL_nil]; simp
    · rw [erL_len] at hl
      rw [if_neg (by omega)]; simp only [List.length_nil]; omega
theorem dec_len {u : Nat} (h : u < 10000) : (Lib.decDigits u).length ≤ 4 := by
  by_cases h1 : u < 10
  · rw [dd1 h1]; simp
  rw [Lib.decDigits, dif_neg h1, List.length_append]
  by_cases h2 : u / 10 < 10
  · rw [dd1 h2]; simp
  rw [Lib.decDigits, dif_neg h2, List.length_append]
  by_cases h3 : u / 10 / 10 < 10
  · rw [dd1 h3]; simp
  rw [Lib.decDigits, dif_neg h3, List.length_append, dd1 (u := u / 10 / 10 / 10) (by omega)]; simp
theorem itoa_len {z : Int} (h0 : 0 ≤ z) (h1 : z < 10000) : (Lib.itoa z).length ≤ 4 := by
  unfold Lib.itoa; rw [if_neg (by omega)]; exact dec_len (by omega)
theorem join_len (l : List (List UInt8)) : (Lib.join l [44]).length ≤ (l.map fun b => b.length + 1).sum := by
  unfold Lib.join
  induction l with
  | nil => simp [List.intercalate]
  | cons a l ih =>
    cases l with
    | nil => simp [List.intercalate]
    | cons b l =>
      simp only [List.intercalate, List.intersperse, List.flatten_cons, List.length_append, List.map_cons, List.sum_cons] at ih ⊢
      simp at ih ⊢
      omega
theorem body_len (t : T) : (∀ m ∈ t.nds, (0 ≤ m.p ∧ m.p ≤ 999) ∧ (0 ≤ m.x ∧ m.x ≤ 1000) ∧ (0 ≤ m.y ∧ m.y ≤ 1000) ∧ (1 ≤ m.a ∧ m.a ≤ 1000) ∧ (1 ≤ m.b ∧ m.b ≤ 1000)) → t.body.length + 1 ≤ 140 * t.nds.length := by
  induction t using T.ind with
  | h n ks ih =>
    intro h
    rw [T.nds_mk] at h
    have hn := h n (by simp)
    have l1 := itoa_len (z := n.a) (by omega) (by omega)
    have l2 := itoa_len (z := n.b) (by omega) (by omega)
    have l3 := itoa_len (z := n.x) (by omega) (by omega)
    have l4 := itoa_len (z := n.y) (by omega) (by omega)
    have l5 := itoa_len (z := n.p) (by omega) (by omega)
    rw [T.body_mk, T.nds_mk, List.length_cons]
    have hh : (headB n).length ≤ 19 := by unfold headB; simp only [List.length_append, List.length_cons, List.length_nil]; omega
    split
    · simp only [List.length_append, List.length_cons, List.length_nil]; omega
    · have key : ∀ l : List T, (∀ k ∈ l, k ∈ ks) → ((bodyL l).map fun b => b.length + 1).sum ≤ 140 * (ndsL l).length := by
        intro l
        induction l with
        | nil => intro _; rw [bodyL_nil]; simp
        | cons k l ih2 =>
          intro hl
          have h1 := ih k (hl k (by simp)) fun m hm => h m (by simp [mem_ndsL.2 ⟨k, hl k (by simp), hm⟩])
          have h2 := ih2 fun j hj => hl j (by simp [hj])
          rw [bodyL_cons, ndsL_cons, List.map_cons, List.sum_cons, List.length_append]; omega
      have h1 := key ks fun _ h => h
      have h2 := join_len (bodyL ks)
      simp only [List.length_append, List.length_cons, List.length_nil]
      omega
theorem Fine.body {t : T} {k : Int} (h : Fine t k) (hl : t.leaves.length ≤ 32) : t.body.length ≤ 1000000 := by
  have h1 := body_len t h.nd
  have h2 := nds_len t h.ok
  omega
def opp (i : Nat) : Nat := if i = 0 then 1 else if i = 1 then 0 else if i = 2 then 3 else 2
def backOf (z : Int) : Int := if z = 76 then 82 else if z = 82 then 76 else if z = 85 then 68 else if z = 68 then 85 else 0
theorem side_none {z : Int} (h : sideOf z = none) : backOf z = 0 := by
  unfold sideOf at h; unfold backOf
  split at h; · cases h
  split at h; · cases h
  split at h; · cases h
  split at h; · cases h
  simp_all
theorem side_some {z : Int} {i : Nat} (h : sideOf z = some i) : i < 4 ∧ backOf z ≠ 0 ∧ 0 ≤ backOf z ∧ backOf z ≤ 255 ∧ sideOf (backOf z) = some (opp i) := by
  unfold sideOf at h
  split at h
  · injection h with h; subst h; rename_i e; subst e; decide
  split at h
  · injection h with h; subst h; rename_i e; subst e; decide
  split at h
  · injection h with h; subst h; rename_i e; subst e; decide
  split at h
  · injection h with h; subst h; rename_i e; subst e; decide
  · cases h
theorem touch_sym {i : Nat} {k n : Nd} (hi : i < 4) (h : touch i k n) : touch (opp i) n k := by
  have : i = 0 ∨ i = 1 ∨ i = 2 ∨ i = 3 := by omega
  rcases this with rfl | rfl | rfl | rfl <;> exact h
theorem touch_self {i : Nat} {n : Nd} (ha : 1 ≤ n.a) (hb : 1 ≤ n.b) : ¬ touch i n n := by
  unfold touch
  repeat' split
  all_goals omega
theorem sw_comm (a b : Int) : sw b a = sw a b := by
  funext x; unfold sw
  by_cases h1 : x = a <;> by_cases h2 : x = b <;> simp_all
end Go.Proofs.YtcklmkjlbpjojaaDoor
