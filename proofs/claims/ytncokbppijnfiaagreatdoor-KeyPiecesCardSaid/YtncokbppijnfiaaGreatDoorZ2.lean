/- Key: what front answers is a right key. No walk. -/
import Derived.Test.YtncokbppijnfiaaGreatDoorZ1
import Derived.Test.YtncokbppijnfiaaGreatDoorT2
namespace Go.Proofs.YtncokbppijnfiaaGreatDoor
set_option linter.unusedSimpArgs false
set_option linter.unusedVariables false

theorem right_ne {c m : Int} (h : rightK c m = true) : nameC c ≠ [] := fun e => by rw [rightK_no (.inl e)] at h; cases h
theorem right0 {c : Int} (h : nameC c ≠ []) : rightK c 0 = true := by
  unfold rightK
  rw [if_neg (fun h' => h'.elim h (fun h' => h'.elim (fun h' => absurd h' (by decide)) (fun h' => absurd h' (by decide))))]
  split
  · rfl
  split
  · rfl
  split
  · rename_i h1; exact absurd h1 (by decide)
  split
  · rfl
  · rename_i h1; exact absurd (by decide) h1
set_option maxRecDepth 100000 in
theorem right_named_all : ((List.range 22).all fun i => (List.range 8).all fun j => rightK (1114112 + (i : Int)) (j : Int)) = true := by kernel_rfl
theorem right_named (c m : Int) (hc : 1114112 ≤ c ∧ c ≤ 1114133) (hm : 0 ≤ m ∧ m ≤ 7) : rightK c m = true := by
  have h := List.all_eq_true.1 right_named_all (c - 1114112).toNat (List.mem_range.2 (by omega))
  have h2 := List.all_eq_true.1 h m.toNat (List.mem_range.2 (by omega))
  rw [show 1114112 + ((c - 1114112).toNat : Int) = c by omega, show ((m.toNat : Nat) : Int) = m by omega] at h2
  exact h2
theorem right_few : rightK 1114134 0 = true ∧ rightK 1114135 0 = true ∧ rightK 1114141 0 = true ∧ rightK 1114142 0 = true ∧ rightK 91 2 = true ∧ rightK 79 2 = true ∧ rightK 65533 0 = true := ⟨by kernel_rfl, by kernel_rfl, by kernel_rfl, by kernel_rfl, by kernel_rfl, by kernel_rfl, by kernel_rfl⟩
set_option maxRecDepth 100000 in
theorem right_bare_all : ((List.range 128).all fun i => decide (i = 27) || rightK (bareA (UInt8.ofNat i)).1 (bareA (UInt8.ofNat i)).2) = true := by kernel_rfl
theorem right_bare (x : UInt8) (h : x.toNat < 128) (h27 : x ≠ 27) : rightK (bareA x).1 (bareA x).2 = true := by
  have h1 := List.all_eq_true.1 right_bare_all x.toNat (List.mem_range.2 h)
  rw [UInt8.ofNat_toNat, Bool.or_eq_true, decide_eq_true_eq] at h1
  exact h1.resolve_left fun e => h27 (UInt8.toNat_inj.1 e)
/-- No half of a pair comes of a decoder. -/
def Dc.ns (d : Dc) : Prop := d.have' = 0 ∨ (0 ≤ d.r ∧ 1 ≤ d.more ∧ (d.more = 1 → d.r ≤ 863 ∨ 896 ≤ d.r) ∧ (d.more = 2 → 128 ≤ d.lo ∧ d.hi ≤ 191 ∧ (d.r = 13 → d.hi ≤ 159)) ∧ (d.more = 3 → 128 ≤ d.lo ∧ d.hi ≤ 191 ∧ (d.r = 0 → 144 ≤ d.lo)) ∧ d.more ≤ 3)
theorem begin_ns (d : Dc) (c : Int) (h0 : 0 ≤ c) (h1 : c ≤ 255) (hd : d.have' = 0) : (beginL d c).2.ns ∧ ∀ z ∈ (beginL d c).1, 0 ≤ z ∧ (z < 55296 ∨ 57343 < z) := by
  unfold beginL
  split
  · refine ⟨.inl hd, fun z hz => ?_⟩
    rw [List.mem_singleton] at hz; omega
  split
  · refine ⟨.inr ?_, fun z hz => by simp at hz⟩
    dsimp only; omega
  split
  · refine ⟨.inr ?_, fun z hz => by simp at hz⟩
    by_cases e : c = 237
    · subst e
      decide
    · have e1 : 128 ≤ (if c = 224 then (160 : Int) else 128) := by split <;> omega
      rw [if_neg e]
      dsimp only
      exact ⟨by omega, by omega, by omega, fun _ => ⟨e1, by omega, by omega⟩, by omega, by omega⟩
  split
  · refine ⟨.inr ?_, fun z hz => by simp at hz⟩
    have e1 : 128 ≤ (if c = 240 then (144 : Int) else 128) := by split <;> omega
    have e2 : (if c = 244 then (143 : Int) else 191) ≤ 191 := by split <;> omega
    have e3 : c % 8 = 0 → 144 ≤ (if c = 240 then (144 : Int) else 128) := fun e => by rw [if_pos (by omega)]; decide
    dsimp only
    exact ⟨by omega, by omega, by omega, by omega, fun _ => ⟨e1, e2, e3⟩, by omega⟩
  · refine ⟨.inl hd, fun z hz => ?_⟩
    rw [List.mem_singleton] at hz; omega
theorem feed_ns (d : Dc) (c : Int) (h0 : 0 ≤ c) (h1 : c ≤ 255) (hd : d.ns) : (feedL d c).2.ns ∧ ∀ z ∈ (feedL d c).1, 0 ≤ z ∧ (z < 55296 ∨ 57343 < z) := by
  unfold feedL
  split
  · rename_i h
    exact begin_ns d c h0 h1 h
  rename_i hz
  have hk := hd.resolve_left hz
  split
  · obtain ⟨a, e⟩ := begin_ns { d with have' := 0 } c h0 h1 rfl
    refine ⟨a, fun z hz => ?_⟩
    rw [List.mem_cons] at hz
    rcases hz with rfl | hz
    · omega
    · exact e z hz
  obtain ⟨k0, k1, k2, k3, k4, k5⟩ := hk
  rename_i hlo
  split
  · refine ⟨.inr ?_, fun z hz => by simp at hz⟩
    by_cases h3 : d.more = 3
    · obtain ⟨a1, a2, a3⟩ := k4 h3
      dsimp only
      have : d.r = 0 ∨ 1 ≤ d.r := by omega
      refine ⟨by omega, by omega, by omega, fun _ => ⟨by omega, by omega, fun e => ?_⟩, by omega, by omega⟩
      rcases this with h | h
      · have := a3 h; omega
      · omega
    · have h2 : d.more = 2 := by omega
      obtain ⟨a1, a2, a3⟩ := k3 h2
      dsimp only
      have hr : d.r ≤ 12 ∨ d.r = 13 ∨ 14 ≤ d.r := by omega
      refine ⟨by omega, by omega, fun _ => ?_, by omega, by omega, by omega⟩
      rcases hr with h | h | h
      · omega
      · have := a3 h; omega
      · omega
  · have hm : d.more = 1 := by omega
    have := k2 hm
    refine ⟨.inl rfl, fun z hz => ?_⟩
    rw [List.mem_singleton] at hz
    omega
theorem bareLp_ns : ∀ (l : List UInt8) (i : Nat) (d : Dc) (p : Int × Nat), d.ns → bareLp i d l = some p → 0 ≤ p.1 ∧ (p.1 < 55296 ∨ 57343 < p.1)
  | [], _, _, _, _, h => by cases h
  | x :: r, i, d, p, hd, h => by
    have hx := x.toNat_lt
    obtain ⟨h1, h2⟩ := feed_ns d (x.toNat : Int) (by omega) (by omega) hd
    unfold bareLp at h
    split at h
    · exact bareLp_ns r (i + 1) _ p h1 h
    · rename_i z t e
      injection h with h
      subst h
      exact h2 z (by rw [e]; exact List.mem_cons_self)
theorem enc_ne (c : Int) : (Utf8.encode c).data.toList ≠ [] := by
  unfold Utf8.encode
  dsimp only
  generalize (if Utf8.valid c = true then c.toNat else 65533) = n
  repeat' split
  all_goals simp
theorem right_rune (c : Int) (h : c < 55296 ∨ 57343 < c) (hw : ¬ widthR c < 1) : rightK c 0 = true := by
  refine right0 ?_
  have h1 : ¬ (c < 32 ∨ 1114111 < c) := fun h => hw (by unfold widthR; rw [if_pos (by omega)]; decide)
  unfold nameC
  split
  · simp
  split
  · simp
  split
  · simp
  split
  · simp
  split
  · omega
  rw [if_pos ⟨by omega, by omega, by unfold Lib.validRune; simp; omega, by omega⟩]
  exact enc_ne c
theorem bareG_right (up : Bool) (x : UInt8) (r : List UInt8) (hx : x ≠ 27) (h : (bareG up (x :: r)).2.1 = 2) : rightK (bareG up (x :: r)).1.c (bareG up (x :: r)).1.m = true := by
  rw [bareG_cons] at h ⊢
  by_cases h1 : x.toNat < 128
  · rw [if_pos h1]
    exact right_bare x h1 hx
  rw [if_neg h1] at h ⊢
  cases hp : bareLp 0 dc0 (x :: r) with
  | none =>
    rw [hp] at h
    cases up
    · cases h
    · exact right_few.2.2.2.2.2.2
  | some p =>
    rw [hp] at h
    obtain ⟨_, h3⟩ := bareLp_ns _ _ _ p (.inl rfl) hp
    refine right_rune p.1 h3 fun hw => ?_
    have : (if widthR p.1 < 1 then (1 : Int) else 2) = 2 := h
    rw [if_pos hw] at this
    cases this
theorem tilde_right (n m : Int) (h0 : tildeL n ≠ 0) (hm : 0 ≤ m ∧ m ≤ 7) (h : tildeL n < 1114141 ∨ m = 0) : rightK (tildeL n) m = true := by
  have hin : (1114112 ≤ tildeL n ∧ tildeL n ≤ 1114133) ∨ tildeL n = 1114141 ∨ tildeL n = 1114142 := by
    unfold tildeL at h0 ⊢
    split
    · omega
    split
    · omega
    split
    · omega
    split
    · omega
    split
    · omega
    split
    · rename_i h
      have : numbersL.idxOf n < 16 := List.idxOf_lt_length_of_mem h.2
      omega
    · rename_i h1 h2 h3 h4 h5 h6
      rw [if_neg h1, if_neg h2, if_neg h3, if_neg h4, if_neg h5, if_neg h6] at h0
      exact absurd rfl h0
  rcases hin with h1 | h1 | h1
  · exact right_named _ m h1 hm
  · have : m = 0 := by omega
    rw [this, h1]; exact right_few.2.2.1
  · have : m = 0 := by omega
    rw [this, h1]; exact right_few.2.2.2.1
theorem pointed_right (q : List UInt8) (z : UInt8) (h : (pointedL q z).2 = true) : rightK (pointedL q z).1.c (pointedL q z).1.m = true := by
  unfold pointedL at h ⊢
  split
  · rename_i n x y e
    rw [e] at h
    dsimp only at h
    split
    · rename_i h1; rw [if_pos h1] at h; cases h
    rename_i h1
    rw [if_neg h1] at h
    dsimp only at h ⊢
    split
    · refine right_mouse _ _ ?_ (by dsimp only; omega)
      dsimp only
      split <;> omega
    split
    · exact right_mouse _ _ (by dsimp only; omega) (by dsimp only; omega)
    split
    · exact right_mouse _ _ (by dsimp only; omega) (by dsimp only; omega)
    split
    · exact right_mouse _ _ (by dsimp only; omega) (by dsimp only; omega)
    · rename_i h2 h3 h4 h5
      rw [if_neg h2, if_neg h3, if_neg h4, if_neg h5] at h
      cases h
  · rename_i e
    revert h
    split
    · rename_i n x y e2; exact absurd e2 (e n x y)
    · intro h; cases h
theorem seq_right (p : List UInt8) (z : UInt8) (h : (sequenceL p z).2 = true) : rightK (sequenceL p z).1.c (sequenceL p z).1.m = true := by
  have hz := letteredL_in z
  unfold sequenceL at h ⊢
  split
  · rename_i h1; rw [if_pos h1] at h; exact pointed_right _ _ h
  rename_i h1; rw [if_neg h1] at h
  split
  · exact right_few.1
  rename_i h2; rw [if_neg h2] at h
  split
  · rename_i h3; rw [if_pos h3] at h
    have h4 := of_decide_eq_true h
    exact right_named _ 0 (by show 1114112 ≤ letteredL z ∧ letteredL z ≤ 1114133; omega) (by omega)
  rename_i h3; rw [if_neg h3] at h
  split
  · rename_i e; rw [e] at h; cases h
  rename_i l e
  rw [e] at h
  dsimp only at h
  split
  · rename_i h4; rw [if_pos h4] at h; cases h
  rename_i hl
  rw [if_neg hl] at h
  have hm : 0 ≤ (if l.length = 2 then l.getD 1 0 - 1 else 0) ∧ (if l.length = 2 then l.getD 1 0 - 1 else 0) ≤ 7 := by
    split
    · rename_i h2
      have : ¬ (l.getD 1 0 < 2 ∨ 8 < l.getD 1 0) := fun h => hl (.inr ⟨h2, h⟩)
      omega
    · omega
  dsimp only at h ⊢
  split
  · rename_i h5; rw [if_pos h5] at h
    have h6 := of_decide_eq_true h
    refine tilde_right _ _ h6.1 hm ?_
    rcases h6.2 with h7 | h7
    · exact .inl h7
    · refine .inr ?_
      show (if l.length = 2 then l.getD 1 0 - 1 else 0) = 0
      rw [if_neg (by omega)]
  · rename_i h5; rw [if_neg h5] at h
    have h6 := of_decide_eq_true h
    exact right_named _ _ (by show 1114112 ≤ letteredL z ∧ letteredL z ≤ 1114133; omega) hm
theorem br_right (b : List UInt8) (up : Bool) (h : (bracketL b up).2.1 = 2) : rightK (bracketL b up).1.c (bracketL b up).1.m = true := by
  rw [bracketL_eq] at h ⊢
  split
  · exact right_few.2.2.2.2.1
  rename_i h1; rw [if_neg h1] at h
  split
  · rename_i e; rw [e] at h
    cases up
    · cases h
    · exact right_few.2.2.2.2.1
  · rename_i z e; rw [e] at h
    dsimp only at h ⊢
    split
    · rename_i h2; rw [if_pos h2] at h
      split
      · rename_i h3; exact seq_right _ _ h3
      · rename_i h3; rw [if_neg h3] at h; cases h
    · exact right_few.2.2.2.2.1
theorem o_right (b : List UInt8) (up : Bool) (h : (oL b up).2.1 = 2) : rightK (oL b up).1.c (oL b up).1.m = true := by
  unfold oL at h ⊢
  split
  · rename_i h1; rw [if_pos h1] at h; cases h
  split
  · rename_i z e
    have hz := letteredL_in z
    split
    · exact right_named _ 0 (by show 1114112 ≤ letteredL z ∧ letteredL z ≤ 1114133; omega) (by omega)
    · exact right_few.2.2.2.2.2.1
  · exact right_few.2.2.2.2.2.1
theorem meta_right (R : Ms × Int × Nat) (h : (metaF R).2.1 = 2) : rightK (metaF R).1.c (metaF R).1.m = true := by
  unfold metaF at h ⊢
  split
  · rename_i h1; rw [if_pos h1] at h; exact absurd h h1
  split
  · exact right_few.2.1
  · rename_i h2
    show rightK R.1.c (R.1.m + 2) = true
    cases hr : rightK R.1.c (R.1.m + 2) with
    | true => rfl
    | false => exact absurd (.inr (.inr hr)) h2
theorem frG_right (up : Bool) : ∀ l : List UInt8, (frG up l).2.1 = 2 → rightK (frG up l).1.c (frG up l).1.m = true
  | [], h => by cases h
  | x :: r, h => by
    by_cases hx : x ≠ 27
    · rw [frG, if_pos hx] at h ⊢
      exact bareG_right up x r hx h
    rw [frG, if_neg hx] at h ⊢
    split
    · exact right_few.2.1
    rename_i h1; rw [if_neg h1] at h
    split
    · rename_i h2; rw [if_pos h2] at h; cases h
    rename_i h2; rw [if_neg h2] at h
    split
    · rename_i h3; rw [if_pos h3] at h; exact br_right _ _ h
    rename_i h3; rw [if_neg h3] at h
    split
    · rename_i h4; rw [if_pos h4] at h; exact o_right _ _ h
    rename_i h4; rw [if_neg h4] at h
    exact meta_right _ h
theorem took_right {up : Bool} {l : List UInt8} {o : List Ms} {r : List UInt8} (h : Took (frG up) l o r) : ∀ k ∈ o, rightK k.c k.m = true := by
  induction h with
  | nil => intro k hk; cases hk
  | waits => intro k hk; cases hk
  | is l o r h hi h1 hn hr ih =>
    intro k hk
    rw [List.mem_cons] at hk
    rcases hk with rfl | hk
    · exact frG_right up l hi
    · exact ih k hk
  | skip l o r h hi h1 hn hr ih => exact ih
end Go.Proofs.YtncokbppijnfiaaGreatDoor
