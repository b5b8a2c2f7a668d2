/- Layout: a tree's own text is read as that tree; what Apply asks of a text. No walk. Layout: Apply: what it leaves; the panes given anew, leaf by leaf. No walk. -/
import Derived.Test.YtcklmkjlbpjojaaGreatDoorG1
import Derived.Test.YtcklmkjlbpjojaaGreatDoorL1
import Derived.Test.YtcklmkjlbpjojaaGreatDoorD7
namespace Go.Proofs.YtcklmkjlbpjojaaGreatDoor
open Go.RowKit
set_option linter.unusedSimpArgs false
set_option linter.unusedVariables false

theorem hexs_four (n : Nat) : hexs n 4 = [hexd (n / 4096 % 16), hexd (n / 256 % 16), hexd (n / 16 % 16), hexd (n % 16)] := by
  simp [hexs]
theorem fourB_hexs {n : Nat} (hn : n < 65536) : fourB n = hexs n 4 := by
  rw [hexs_four]
  have h0 : hexd 0 = 48 := rfl
  unfold fourB hex hexlen
  by_cases h1 : n < 16
  · rw [if_pos h1, show n / 4096 = 0 by omega, show n / 256 = 0 by omega, show n / 16 = 0 by omega]
    simp [hexs, h0]
  · rw [if_neg h1]
    by_cases h2 : n < 256
    · rw [if_pos h2, show n / 4096 = 0 by omega, show n / 256 = 0 by omega]
      simp [hexs, h0]
    · rw [if_neg h2]
      by_cases h3 : n < 4096
      · rw [if_pos h3, show n / 4096 = 0 by omega]
        simp [hexs, h0]
      · rw [if_neg h3]
        simp [hexs]
theorem hexd_inj : ∀ a, a < 16 → ∀ b, b < 16 → hexd a = hexd b → a = b := by decide
theorem hexd_sign : ∀ a, a < 16 → hexSigns.contains (hexd a) = true := by decide
theorem fourB_inj {n m : Nat} (hn : n < 65536) (hm : m < 65536) (h : fourB n = fourB m) : n = m := by
  rw [fourB_hexs hn, fourB_hexs hm, hexs_four, hexs_four] at h
  injection h with h1 h; injection h with h2 h; injection h with h3 h; injection h with h4 h
  have k1 := hexd_inj _ (Nat.mod_lt _ (by decide)) _ (Nat.mod_lt _ (by decide)) h1
  have k2 := hexd_inj _ (Nat.mod_lt _ (by decide)) _ (Nat.mod_lt _ (by decide)) h2
  have k3 := hexd_inj _ (Nat.mod_lt _ (by decide)) _ (Nat.mod_lt _ (by decide)) h3
  have k4 := hexd_inj _ (Nat.mod_lt _ (by decide)) _ (Nat.mod_lt _ (by decide)) h4
  omega
theorem fourB_len4 {n : Nat} (hn : n < 65536) : (fourB n).length = 4 := by rw [fourB_hexs hn, hexs_four]; rfl
theorem dw_all {p : UInt8 → Bool} : ∀ {l : List UInt8}, (∀ c ∈ l, p c = true) → l.dropWhile p = []
  | [], _ => rfl
  | c :: l, h => by rw [List.dropWhile_cons, if_pos (h c (by simp))]; exact dw_all fun d hd => h d (by simp [hd])
theorem trim_four {n : Nat} (hn : n < 65536) : Lib.trimS (fourB n) hexSigns = [] := by
  have h : ∀ c ∈ (fourB n).reverse, hexSigns.contains c = true := by
    intro c hc
    rw [List.mem_reverse, fourB_hexs hn, hexs_four] at hc
    simp only [List.mem_cons, List.not_mem_nil, or_false] at hc
    rcases hc with rfl | rfl | rfl | rfl <;> exact hexd_sign _ (Nat.mod_lt _ (by decide))
  unfold Lib.trimS Lib.trimRightS
  rw [dw_all h]
  rfl

/-- What Apply asks of a text, the number of panes apart. -/
structure AppAt (s : List UInt8) (t0 : T) : Prop where
  l1 : s.length ≤ 4096
  l2 : 5 ≤ s.length
  c : s[4]? = some 44
  tr : Lib.trimS (s.take 4) hexSigns = []
  su : s.take 4 = fourB (sumB (s.drop 5))
  rd : nodeP (2 * (s.drop 5).length + 2) (s.drop 5) false = (t0.pt, [], false)
  may : mayB t0.n.a t0.n.b = true
  rt : t0.right 0 0 = true
theorem AppAt.same {s : List UInt8} {t0 t1 : T} (h : AppAt s t0) (k : AppAt s t1) : t0.pt = t1.pt := by
  have := h.rd.symm.trans k.rd
  exact congrArg Prod.fst this
theorem AppAt.bd {s : List UInt8} {t0 : T} (h : AppAt s t0) : t0.bd ∧ ∀ m ∈ t0.nds, 0 ≤ m.p ∧ m.p < 1000000000 := by
  refine bd_of_ok t0 ?_
  have := (nodeP_ok (2 * (s.drop 5).length + 2)).1 (s.drop 5) false
  rw [h.rd] at this
  exact this

theorem right_place (t : T) : ∀ x y : Int, t.er.ok → t.er.alt → 0 ≤ x → 0 ≤ y → x + t.n.a ≤ 1000 → y + t.n.b ≤ 1000 → (t.place x y).right x y = true := by
  induction t using T.ind with
  | h n ks ih =>
    intro x y hok halt hx hy hxa hyb
    change x + n.a ≤ 1000 at hxa
    change y + n.b ≤ 1000 at hyb
    rw [T.place_mk, T.right_mk]
    obtain ⟨hal, hka⟩ := alt_T.1 halt
    rcases ok_T.1 hok with ⟨k1, k2, k3, k4, k5⟩ | ⟨k1, k2, k3, k4, k5, k6, k7, k8⟩
    · subst k1
      rw [placeL_nil]
      simp [k4, k5]
    · rw [decide_eq_true (show _ ∧ _ ∧ _ ∧ _ from ⟨rfl, rfl, k2, k3⟩), placeL_len, Bool.true_and, Bool.or_eq_true]
      right
      rw [Bool.and_eq_true]
      have hsum : ∀ (l : List T) (x y : Int), ((placeL n.way l x y).map fun k => k.sz n.way + 1).sum = (l.map fun k => k.sz n.way + 1).sum := by
        intro l
        induction l with
        | nil => intro x y; rw [placeL_nil]
        | cons k l ih2 =>
          intro x y
          rw [placeL_cons, List.map_cons, List.map_cons, List.sum_cons, List.sum_cons, ih2]
          have : (k.place x y).sz n.way = k.sz n.way := by unfold T.sz Nd.sz; rw [T.place_n]
          rw [this]
      have hge : ∀ k ∈ ks, 1 ≤ k.n.a ∧ 1 ≤ k.n.b := fun k hk => by
        have := (k8 k hk).ge
        rw [T.er_a, T.er_b] at this; exact this
      have hrest : ∀ l : List T, (∀ k ∈ l, k ∈ ks) → 0 ≤ (l.map fun k => k.sz n.way + 1).sum := by
        intro l
        induction l with
        | nil => intro _; simp
        | cons k l ih2 =>
          intro hl
          have h1 := hge k (hl k (by simp))
          have h2 := ih2 fun j hj => hl j (by simp [hj])
          rw [List.map_cons, List.sum_cons]
          have : 1 ≤ k.sz n.way := by unfold T.sz Nd.sz; split <;> omega
          omega
      refine ⟨?_, decide_eq_true ⟨by omega, by rw [hsum]; exact k7⟩⟩
      rcases k5 with hw | hw
      · have key : ∀ (l : List T) (x' : Int), (∀ k ∈ l, k ∈ ks) → 0 ≤ x' → (l.map fun k => k.sz n.way + 1).sum + x' ≤ x + n.a + 1 → rightL { n with x := x, y := y } (placeL n.way l x' y) x' y = true := by
          intro l
          induction l with
          | nil => intro x' _ _ _; rw [placeL_nil, rightL_nil]
          | cons k l ih2 =>
            intro x' hl hx' hs
            have hk := hl k (by simp)
            have hr := hrest l fun j hj => hl j (by simp [hj])
            obtain ⟨g1, g2⟩ := hge k hk
            have hc := k6 k hk
            have z1 : k.sz n.way = k.n.a := by rw [hw]; rfl
            have z2 : k.sz (1 - n.way) = k.n.b := by rw [hw]; rfl
            have z3 : n.sz (1 - n.way) = n.b := by rw [hw]; rfl
            rw [z2, z3] at hc
            rw [List.map_cons, List.sum_cons, z1] at hs
            rw [placeL_cons, rightL_cons, ih k hk x' y (k8 k hk) (hka k hk) hx' hy (by omega) (by omega), Bool.true_and]
            have p1 : (k.place x' y).sz n.way = k.n.a := by unfold T.sz; rw [T.place_n, hw]; rfl
            have p2 : (k.place x' y).sz (1 - n.way) = k.n.b := by unfold T.sz; rw [T.place_n, hw]; rfl
            have p3 : (k.place x' y).ks.length = k.ks.length := by cases k; rw [T.place_mk]; exact placeL_len _ _ _ _
            have p4 : (k.place x' y).n.way = k.n.way := by rw [T.place_n]
            have p5 : Nd.sz { n with x := x, y := y } (1 - n.way) = n.b := by rw [hw]; rfl
            dsimp only
            rw [p1, p2, p3, p4, p5, decide_eq_true hc]
            have hd : decide (k.ks.length ≠ 0 ∧ k.n.way = n.way) = false := by
              refine decide_eq_false fun h => ?_
              rcases hal k hk with h' | h'
              · exact h.1 (by rw [h']; rfl)
              · exact h' h.2
            rw [hd, if_pos hw, if_pos hw]
            have e1 : nx n.way k.n x' = x' + (k.n.a + 1) := by unfold nx; rw [if_pos hw, wr_of (z := k.n.a + 1) (by omega), wr_of (by omega)]
            have e2 : ny n.way k.n y = y := by unfold ny; rw [if_pos hw]
            rw [e1, e2, ih2 (x' + (k.n.a + 1)) (fun j hj => hl j (by simp [hj])) (by omega) (by omega)]
            rfl
        refine key ks x (fun _ h => h) hx ?_
        rw [k7]
        have : n.sz n.way = n.a := by rw [hw]; rfl
        omega
      · have hw0 : ¬ n.way = 0 := by omega
        have key : ∀ (l : List T) (y' : Int), (∀ k ∈ l, k ∈ ks) → 0 ≤ y' → (l.map fun k => k.sz n.way + 1).sum + y' ≤ y + n.b + 1 → rightL { n with x := x, y := y } (placeL n.way l x y') x y' = true := by
          intro l
          induction l with
          | nil => intro y' _ _ _; rw [placeL_nil, rightL_nil]
          | cons k l ih2 =>
            intro y' hl hy' hs
            have hk := hl k (by simp)
            have hr := hrest l fun j hj => hl j (by simp [hj])
            obtain ⟨g1, g2⟩ := hge k hk
            have hc := k6 k hk
            have z1 : k.sz n.way = k.n.b := by rw [hw]; rfl
            have z2 : k.sz (1 - n.way) = k.n.a := by rw [hw]; rfl
            have z3 : n.sz (1 - n.way) = n.a := by rw [hw]; rfl
            rw [z2, z3] at hc
            rw [List.map_cons, List.sum_cons, z1] at hs
            rw [placeL_cons, rightL_cons, ih k hk x y' (k8 k hk) (hka k hk) hx hy' (by omega) (by omega), Bool.true_and]
            have p1 : (k.place x y').sz n.way = k.n.b := by unfold T.sz; rw [T.place_n, hw]; rfl
            have p2 : (k.place x y').sz (1 - n.way) = k.n.a := by unfold T.sz; rw [T.place_n, hw]; rfl
            have p3 : (k.place x y').ks.length = k.ks.length := by cases k; rw [T.place_mk]; exact placeL_len _ _ _ _
            have p4 : (k.place x y').n.way = k.n.way := by rw [T.place_n]
            have p5 : Nd.sz { n with x := x, y := y } (1 - n.way) = n.a := by rw [hw]; rfl
            dsimp only
            rw [p1, p2, p3, p4, p5, decide_eq_true hc]
            have hd : decide (k.ks.length ≠ 0 ∧ k.n.way = n.way) = false := by
              refine decide_eq_false fun h => ?_
              rcases hal k hk with h' | h'
              · exact h.1 (by rw [h']; rfl)
              · exact h' h.2
            rw [hd, if_neg hw0, if_neg hw0]
            have e1 : ny n.way k.n y' = y' + (k.n.b + 1) := by unfold ny; rw [if_neg hw0, wr_of (z := k.n.b + 1) (by omega), wr_of (by omega)]
            have e2 : nx n.way k.n x = x := by unfold nx; rw [if_neg hw0]
            rw [e1, e2, ih2 (y' + (k.n.b + 1)) (fun j hj => hl j (by simp [hj])) (by omega) (by omega)]
            rfl
        refine key ks y (fun _ h => h) hy ?_
        rw [k7]
        have : n.sz n.way = n.b := by rw [hw]; rfl
        omega
theorem body_len2 (t : T) : (∀ m ∈ t.nds, (0 ≤ m.p ∧ m.p ≤ 999) ∧ (0 ≤ m.x ∧ m.x ≤ 1000) ∧ (0 ≤ m.y ∧ m.y ≤ 1000) ∧ (1 ≤ m.a ∧ m.a ≤ 1000) ∧ (1 ≤ m.b ∧ m.b ≤ 1000)) → t.body.length + 1 ≤ 25 * t.nds.length := by
  induction t using T.ind with
  | h n ks ih =>
    intro h
    rw [T.nds_mk] at h
    have hn := h n (by simp)
    have l1 := itoa_len (z := n.a) (by omega) (by omega)
    have l2 := itoa_len (z := n.b) (by omega) (by omega)
    have l3 := itoa_len (z := n.x) (by omega) (by omega)
    have l4 := itoa_len (z := n.y) (by omega) (by omega)
    have l5 := itoa_len (z := n.p) (by omega) (by omega)
    rw [T.body_mk, T.nds_mk, List.length_cons]
    have hh : (headB n).length ≤ 19 := by unfold headB; simp only [List.length_append, List.length_cons, List.length_nil]; omega
    split
    · simp only [List.length_append, List.length_cons, List.length_nil]; omega
    · have key : ∀ l : List T, (∀ k ∈ l, k ∈ ks) → ((bodyL l).map fun b => b.length + 1).sum ≤ 25 * (ndsL l).length := by
        intro l
        induction l with
        | nil => intro _; rw [bodyL_nil]; simp
        | cons k l ih2 =>
          intro hl
          have h1 := ih k (hl k (by simp)) fun m hm => h m (by simp [mem_ndsL.2 ⟨k, hl k (by simp), hm⟩])
          have h2 := ih2 fun j hj => hl j (by simp [hj])
          rw [bodyL_cons, ndsL_cons, List.map_cons, List.sum_cons, List.length_append]; omega
      have h1 := key ks fun _ h => h
      have h2 := join_len (bodyL ks)
      simp only [List.length_append, List.length_cons, List.length_nil]
      omega
/-- A tree's own text is one that Apply takes for it. -/
theorem own_app {t : T} {k : Int} (hF : Fine t k) (hA : t.er.alt) (hl : t.leaves.length ≤ 31) : AppAt t.print t := by
  have hs := sumB_lt t.body
  have h4 := fourB_len4 hs
  have hp : t.print = fourB (sumB t.body) ++ 44 :: t.body := by unfold T.print; simp
  have htk : t.print.take 4 = fourB (sumB t.body) := by rw [hp, List.take_append_of_le_length (by omega), List.take_of_length_le (by omega)]
  have hdr : t.print.drop 5 = t.body := by
    rw [hp, List.drop_append, h4, List.drop_of_length_le (by omega)]; rfl
  have hnd := hF.nd
  have hb := body_len2 t hnd
  have hn := nds_len t hF.ok
  have hlen : t.print.length = 5 + t.body.length := by rw [hp, List.length_append, h4]; simp; omega
  refine ⟨by omega, by omega, ?_, by rw [htk]; exact trim_four hs, by rw [htk, hdr], ?_, ?_, ?_⟩
  · rw [hp, List.getElem?_append_right (by omega), h4]; rfl
  · rw [hdr]
    have := nodeP_body t (fun m hm => by
      have := hnd m hm
      unfold Nd.sm; omega) hF.ok (2 * t.body.length + 2) [] (.inl rfl) (by simp)
    rwa [List.append_nil] at this
  · have h1 := hF.ok.ge
    rw [T.er_a, T.er_b] at h1
    have h2 := hF.sz
    unfold mayB
    simp; omega
  · have h2 := hF.sz
    have := right_place t 0 0 hF.ok hA (by omega) (by omega) (by omega) (by omega)
    rwa [hF.pl] at this

/-- The panes as they were: nothing is given anew. -/
theorem reg_pt {f : Nat → Int} : ∀ t : T, (t.reg f).leaves.map (fun s => s.n.p) = t.leaves.map (fun s => s.n.p) → (t.reg f).pt = t.pt := by
  intro t
  induction t using T.ind with
  | h n ks ih =>
    intro h
    rw [T.reg_mk] at h ⊢
    rw [T.pt_mk, T.pt_mk]
    by_cases hk : ks.length = 0
    · have := List.eq_nil_of_length_eq_zero hk
      subst this
      rw [if_pos hk, regL] at h ⊢
      rw [T.leaves_mk, T.leaves_mk, leavesL_nil] at h
      simp [T.n] at h
      rw [h]
    · rw [if_neg hk] at h ⊢
      rw [T.leaves_mk, T.leaves_mk, regL_len, if_neg hk, if_neg hk, List.nil_append, List.nil_append] at h
      have key : ∀ l : List T, (∀ k ∈ l, k ∈ ks) → (leavesL (regL f l)).map (fun s => s.n.p) = (leavesL l).map (fun s => s.n.p) → ptL (regL f l) = ptL l := by
        intro l
        induction l with
        | nil => intro _ _; rw [regL]
        | cons k l ih2 =>
          intro hl h
          rw [regL, leavesL_cons, leavesL_cons, List.map_append, List.map_append] at h
          obtain ⟨h1, h2⟩ := List.append_inj h (by rw [T.reg_leaves]; simp)
          rw [regL, ptL, ptL, ih k (hl k (by simp)) h1, ih2 (fun j hj => hl j (by simp [hj])) h2]
      rw [key ks (fun _ h => h) h]
theorem body_congr : ∀ t t' : T, t.pt = t'.pt → t.body = t'.body := by
  intro t
  induction t using T.ind with
  | h n ks ih =>
    intro t' h
    obtain ⟨n', ks'⟩ := t'
    obtain ⟨h1, h2, h3, h4, h5, h6, h7⟩ := pt_inj h
    have hl : ∀ l l' : List T, (∀ k ∈ l, ∀ t' : T, k.pt = t'.pt → k.body = t'.body) → l.map T.pt = l'.map T.pt → bodyL l = bodyL l' := by
      intro l
      induction l with
      | nil => intro l' _ e; have := (pt_len e).symm; simp at this; subst this; rfl
      | cons k l ih2 =>
        intro l' hk e
        cases l' with
        | nil => simp at e
        | cons k' l' =>
          simp only [List.map_cons, List.cons.injEq] at e
          rw [bodyL_cons, bodyL_cons, hk k (by simp) k' e.1, ih2 l' (fun k hk' => hk k (by simp [hk'])) e.2]
    rw [T.body_mk, T.body_mk, pt_len h7, hl ks ks' ih h7, h6, h1]
    unfold headB
    rw [h2, h3, h4, h5]
theorem print_congr {t t' : T} (h : t.pt = t'.pt) : t.print = t'.print := by unfold T.print; rw [body_congr t t' h]
def nd6 (n : Nd) : Int × Int × Int × Int × Int × Int := (n.p, n.x, n.y, n.a, n.b, n.way)
theorem nds_congr : ∀ t t' : T, t.pt = t'.pt → t.nds.map nd6 = t'.nds.map nd6 := by
  intro t
  induction t using T.ind with
  | h n ks ih =>
    intro t' h
    obtain ⟨n', ks'⟩ := t'
    obtain ⟨h1, h2, h3, h4, h5, h6, h7⟩ := pt_inj h
    have hl : ∀ l l' : List T, (∀ k ∈ l, ∀ t' : T, k.pt = t'.pt → k.nds.map nd6 = t'.nds.map nd6) → l.map T.pt = l'.map T.pt → (ndsL l).map nd6 = (ndsL l').map nd6 := by
      intro l
      induction l with
      | nil => intro l' _ e; have := (pt_len e).symm; simp at this; subst this; rfl
      | cons k l ih2 =>
        intro l' hk e
        cases l' with
        | nil => simp at e
        | cons k' l' =>
          simp only [List.map_cons, List.cons.injEq] at e
          rw [ndsL_cons, ndsL_cons, List.map_append, List.map_append, hk k (by simp) k' e.1, ih2 l' (fun k hk' => hk k (by simp [hk'])) e.2]
    rw [T.nds_mk, T.nds_mk, List.map_cons, List.map_cons, hl ks ks' ih h7]
    simp [nd6, h1, h2, h3, h4, h5, h6]
theorem nds_of {t t' : T} (h : t.pt = t'.pt) {m' : Nd} (hm : m' ∈ t'.nds) : ∃ m ∈ t.nds, nd6 m = nd6 m' := by
  have : nd6 m' ∈ t'.nds.map nd6 := List.mem_map_of_mem hm
  rw [← nds_congr t t' h] at this
  exact List.mem_map.1 this
theorem rg_congr {t t' : T} (h : t.pt = t'.pt) (hr : t.rg) : t'.rg := fun m' hm' => by
  obtain ⟨m, hm, e⟩ := nds_of h hm'
  have := hr m hm
  unfold nd6 at e
  simp only [Prod.mk.injEq] at e
  obtain ⟨e1, e2, e3, e4, e5, e6⟩ := e
  unfold Nd.rg at *
  rw [← e1, ← e2, ← e3, ← e4, ← e5]; exact this
theorem w01_congr {t t' : T} (h : t.pt = t'.pt) (hr : t.w01) : t'.w01 := fun m' hm' => by
  obtain ⟨m, hm, e⟩ := nds_of h hm'
  have := hr m hm
  unfold nd6 at e
  simp only [Prod.mk.injEq] at e
  rw [← e.2.2.2.2.2]; exact this
end Go.Proofs.YtcklmkjlbpjojaaGreatDoor
namespace Go.Proofs.YtcklmkjlbpjojaaGreatDoor
open Go.RowKit
set_option linter.unusedSimpArgs false
set_option linter.unusedVariables false

/-- What Apply leaves. -/
def AppPost (base tr : Nat) (t : T) (s : List UInt8) (w : World) (e : Ending) (w' : World) : Prop :=
  ∃ (err : Int) (t' : T), e = .returned (.int .i64 err) ∧ Tr base w' tr t' ∧ Off [tr] w w' ∧
    ((err ≠ 0 ∧ t' = t ∧ ∀ t0, AppAt s t0 → t0.leaves.length ≠ t.leaves.length) ∨
     (err = 0 ∧ ∃ (t0 : T) (f : Nat → Int), AppAt s t0 ∧ t0.leaves.length = t.leaves.length ∧ t' = t0.reg f ∧ t'.leaves.map (fun s => s.n.p) = t.leaves.map (fun s => s.n.p) ∧ ∀ b ∈ t'.bl, w.heap.size ≤ b))
theorem app_no {base tr : Nat} {t : T} {s : List UInt8} {w w' : World} (hT : Tr base w tr t) (err : Int) (he : err ≠ 0) (hg : w.grownBy w' none) (hn : ∀ t0, AppAt s t0 → t0.leaves.length ≠ t.leaves.length) : AppPost base tr t s w (.returned (.int .i64 err)) w' :=
  ⟨err, t, rfl, hT.grown hg, Off.of_grown hg, .inl ⟨he, rfl, hn⟩⟩
theorem leaves_sub (t : T) : (t.leaves.map T.g).Sublist t.bl := by
  induction t using T.ind with
  | h n ks ih =>
    rw [T.leaves_mk, T.bl_mk]
    by_cases hk : ks.length = 0
    · have := List.eq_nil_of_length_eq_zero hk
      subst this
      rw [leavesL_nil]
      simp [T.g, T.n]
    · rw [if_neg hk, List.nil_append]
      have key : ∀ l : List T, (∀ k ∈ l, k ∈ ks) → ((leavesL l).map T.g).Sublist (blL l) := by
        intro l
        induction l with
        | nil => intro _; rw [leavesL_nil, blL_nil]; exact List.Sublist.refl _
        | cons k l ih2 =>
          intro hl
          rw [leavesL_cons, blL_cons, List.map_append]
          exact (ih k (hl k (by simp))).append (ih2 fun j hj => hl j (by simp [hj]))
      exact (key ks fun _ h => h).trans ((List.sublist_append_right _ _).trans (List.sublist_cons_self _ _))
theorem leaves_gnd {t : T} (h : t.bl.Nodup) : (t.leaves.map T.g).Nodup := (leaves_sub t).nodup h
def pickF : List Nat → List Int → Nat → Int
  | g :: gs, p :: ps, b => if b = g then p else pickF gs ps b
  | _, _, _ => 0
theorem pickF_at : ∀ (gs : List Nat) (ps : List Int) (i b : Nat) (p : Int), gs.Nodup → gs[i]? = some b → ps[i]? = some p → pickF gs ps b = p
  | [], ps, i, b, p, _, h, _ => by simp at h
  | g :: gs, [], i, b, p, _, _, h => by simp at h
  | g :: gs, q :: ps, 0, b, p, _, h1, h2 => by
    simp at h1 h2
    subst h1; subst h2
    rw [pickF, if_pos rfl]
  | g :: gs, q :: ps, i + 1, b, p, hn, h1, h2 => by
    simp at h1 h2
    obtain ⟨n1, n2⟩ := List.nodup_cons.1 hn
    have hb : b ∈ gs := List.mem_of_getElem? h1
    rw [pickF, if_neg (fun e => n1 (by rw [← e]; exact hb))]
    exact pickF_at gs ps i b p n2 h1 h2

/-- The loop's world: the first j leaves have their new panes. -/
structure GivI (W : World) (l0 : List T) (pp : List Int) (j : Nat) (wr : World) : Prop where
  os : wr.os = W.os
  tape : wr.tape = W.tape
  output : wr.output = W.output
  size : wr.heap.size = W.heap.size
  a : ∀ (i : Nat) (s : T) (p : Int), i < j → l0[i]? = some s → pp[i]? = some p → ∀ c e z, W.heap[s.g]? = some (.cells c e z) → wr.heap[s.g]? = some (.cells (c.setIfInBounds 0 (.int .i64 p)) e z)
  b : ∀ b : Nat, (∀ (i : Nat) (s : T), i < j → l0[i]? = some s → s.g ≠ b) → wr.heap[b]? = W.heap[b]?
theorem GivI.start (W : World) (l0 : List T) (pp : List Int) : GivI W l0 pp 0 W := ⟨rfl, rfl, rfl, rfl, fun i s p h => by omega, fun b h => rfl⟩
theorem gnd_ne {l0 : List T} (hn : (l0.map T.g).Nodup) {i j : Nat} {s s' : T} (h : l0[i]? = some s) (h' : l0[j]? = some s') (hij : i ≠ j) : s.g ≠ s'.g := by
  intro e
  obtain ⟨q1, q2⟩ := List.getElem?_eq_some_iff.1 h
  obtain ⟨q3, q4⟩ := List.getElem?_eq_some_iff.1 h'
  have := (List.getElem_inj (xs := l0.map T.g) (i := i) (j := j) (h₀ := by simpa using q1) (h₁ := by simpa using q3) hn).1 (by simp [q2, q4, e])
  exact hij this
theorem GivI.next {W wr : World} {l0 : List T} {pp : List Int} {j : Nat} {s : T} {p : Int} (h : GivI W l0 pp j wr) (hn : (l0.map T.g).Nodup) (hs : l0[j]? = some s) (hp : pp[j]? = some p) :
    GivI W l0 pp (j + 1) (wr.setCell ⟨s.g, 0, none⟩ (.int .i64 p)) := by
  have o : Off [s.g] wr (wr.setCell ⟨s.g, 0, none⟩ (.int .i64 p)) := Off.set wr ⟨s.g, 0, none⟩ _
  have hother : ∀ b, b ≠ s.g → (wr.setCell ⟨s.g, 0, none⟩ (.int .i64 p)).heap[b]? = wr.heap[b]? := fun b hb => by
    rw [Below.heap_setCell _ _ _ _ hb]
  refine ⟨o.os.trans h.os, o.tape.trans h.tape, o.output.trans h.output, by simpa [World.setCell] using h.size, fun i s' p' hi hs' hp' c e z hc => ?_, fun b hb => ?_⟩
  · by_cases hij : i = j
    · subst hij
      rw [hs] at hs'; cases hs'
      rw [hp] at hp'; cases hp'
      have h0 : wr.heap[s.g]? = some (.cells c e z) := (h.b s.g fun i' s' hi' hs' => gnd_ne hn hs' hs (by omega)).trans hc
      exact heap_set h0 _
    · rw [hother _ (gnd_ne hn hs' hs hij)]
      exact h.a i s' p' (by omega) hs' hp' c e z hc
  · rw [hother b (fun e => hb j s (by omega) hs e.symm)]
    exact h.b b fun i s' hi hs' => hb i s' (by omega) hs'
theorem GivI.cell {W wr : World} {l0 : List T} {pp : List Int} {j : Nat} (h : GivI W l0 pp j wr) {a : Addr} {v : Value} (hc : W.cell? a = some v) (hb : ∀ s ∈ l0, s.g ≠ a.block) : wr.cell? a = some v := by
  rw [World.cell?_of_block (h.b a.block fun i s _ hs => hb s (List.mem_of_getElem? hs))]; exact hc
/-- All given: the tree stands, its panes anew. -/
theorem GivI.done {W wr : World} {t0 : T} {pp : List Int} {j : Nat} (h : GivI W t0.leaves pp j wr) (hj : j = t0.leaves.length) (hl : pp.length = t0.leaves.length) (hT : TP W none t0) (hn : t0.bl.Nodup) :
    ∃ f, TP wr none (t0.reg f) ∧ (t0.reg f).leaves.map (fun s => s.n.p) = pp := by
  have hgn := leaves_gnd hn
  have hf : ∀ (i : Nat) (s : T) (p : Int), t0.leaves[i]? = some s → pp[i]? = some p → pickF (t0.leaves.map T.g) pp s.g = p := fun i s p h1 h2 => pickF_at _ _ i s.g p hgn (by rw [List.getElem?_map, h1]; rfl) h2
  refine ⟨pickF (t0.leaves.map T.g) pp, TP_reg t0 none W wr hT hn (fun s hs c e z hc => ?_) (fun b hb hs => ?_), ?_⟩
  · obtain ⟨i, hi⟩ := List.mem_iff_getElem?.1 hs
    have hil := (List.getElem?_eq_some_iff.1 hi).1
    have hp : pp[i]? = some (pp[i]'(by omega)) := List.getElem?_eq_getElem _
    rw [hf i s _ hi hp]
    exact h.a i s _ (by omega) hi hp c e z hc
  · exact h.b b fun i s _ hi => hs s (List.mem_of_getElem? hi)
  · rw [T.reg_leaves, List.map_map]
    refine List.ext_getElem? fun i => ?_
    rw [List.getElem?_map]
    cases hi : t0.leaves[i]? with
    | none =>
      have := List.getElem?_eq_none_iff.1 hi
      rw [List.getElem?_eq_none (by omega)]; rfl
    | some s =>
      have hil := (List.getElem?_eq_some_iff.1 hi).1
      have hp : pp[i]? = some (pp[i]'(by omega)) := List.getElem?_eq_getElem _
      rw [hp]
      show some ((s.reg _).n.p) = _
      rw [leaf_reg hT (List.mem_of_getElem? hi), hf i s _ hi hp]
/-- The root's cell turned to the tree that was read. -/
theorem app_yes {base tr : Nat} {t t0 : T} {s : List UInt8} {w W wr : World} {pp : List Int} (hT : Tr base w tr t) (hbase : base ≤ w.heap.size) (ho : Off [] w W) (hA : AppAt s t0) (hl : t0.leaves.length = t.leaves.length)
    (hp : TP W none t0) (hn : t0.bl.Nodup) (hb : ∀ b ∈ t0.bl, w.heap.size ≤ b) (hpp : pp = t.leaves.map (fun s => s.n.p)) (hG : GivI W t0.leaves pp t0.leaves.length wr) :
    AppPost base tr t s w (.returned (.int .i64 0)) (wr.setCell ⟨tr, 0, none⟩ (ptr t0.g)) := by
  obtain ⟨f, h1, h2⟩ := hG.done rfl (by rw [hpp, List.length_map, hl]) hp hn
  have htr := hT.lt
  have hlv : ∀ s ∈ t0.leaves, w.heap.size ≤ s.g := fun s hs => hb _ ((leaves_sub t0).subset (List.mem_map_of_mem hs))
  have htrW : wr.heap[tr]? = some (.cells #[ptr t.g] 73 (0, 0)) := by
    rw [hG.b tr fun i s _ hs e => by have := hlv s (List.mem_of_getElem? hs); omega, ho.block tr htr (by simp)]; exact hT.h
  have o : Off [tr] wr (wr.setCell ⟨tr, 0, none⟩ (ptr t0.g)) := Off.set wr ⟨tr, 0, none⟩ _
  have hOff : Off [tr] w (wr.setCell ⟨tr, 0, none⟩ (ptr t0.g)) := by
    refine ⟨o.os.trans (hG.os.trans ho.os), o.tape.trans (hG.tape.trans ho.tape), o.output.trans (hG.output.trans ho.output), by have := o.size; have := ho.size; have := hG.size; omega, fun k hk hkS => ?_⟩
    rw [o.block k (by have := ho.size; have := hG.size; omega) hkS, hG.b k fun i s _ hs e => by have := hlv s (List.mem_of_getElem? hs); omega]
    exact ho.block k hk (by simp)
  have hnt : tr ∉ t0.bl := fun h => by have := hb tr h; omega
  refine ⟨0, t0.reg f, rfl, ⟨?_, h1.off o (by rw [T.reg_bl]; intro b hb' e; simp at e; subst e; exact hnt hb'), by rw [T.reg_bl]; exact hn, by rw [T.reg_bl]; exact hnt, ⟨hT.lo.1, fun b hb' => by rw [T.reg_bl] at hb'; exact Nat.le_trans hbase (hb b hb')⟩⟩, hOff, .inr ⟨rfl, t0, f, hA, hl, rfl, by rw [h2, hpp], fun b hb' => by rw [T.reg_bl] at hb'; exact hb b hb'⟩⟩
  rw [T.reg_g]
  exact heap_set (j := 0) htrW _
end Go.Proofs.YtcklmkjlbpjojaaGreatDoor
