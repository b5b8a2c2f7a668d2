/- Format: step; two: a step is counted, two pieces are expanded. -/
import Derived.Test.YtfhdfhlabkeipaaGreatDoorC12
namespace Go.Proofs.YtfhdfhlabkeipaaGreatDoor
open Go.RowKit
set_option linter.unusedSimpArgs false
set_option linter.unusedVariables false

section
variable {w w' : World} {mb ab base cap deep steps deep' steps' : Nat} {scs : List (Option Sc)}
theorem heap_set {b k : Nat} {c : Array Value} {t : TypeId} {z : Nat × Nat} (h : w.heap[b]? = some (.cells c t z)) (v : Value) : (w.setCell ⟨b, k, none⟩ v).heap[b]? = some (.cells (c.setIfInBounds k v) t z) := by
  simp only [World.setCell, Array.getElem?_modify, if_true, h, Option.map_some]
  rfl
theorem heap_set_other {b k j : Nat} (h : j ≠ b) (v : Value) : (w.setCell ⟨b, k, none⟩ v).heap[j]? = w.heap[j]? := by
  simp only [World.setCell, Array.getElem?_modify]
  rw [if_neg (fun e => h e.symm)]
/-- The expander behind a store into its box. -/
theorem Mk.box (h : Mk base mb w ab cap scs deep steps) (hB : base ≤ w.heap.size) (k : Nat) (v : Value) (hc : (#[.slice (some ⟨ab, 0, none⟩) scs.length cap, .int .i64 deep, .int .i64 steps] : Array Value).setIfInBounds k v = #[.slice (some ⟨ab, 0, none⟩) scs.length cap, .int .i64 deep', .int .i64 steps'])
    (hd : deep' ≤ 16) (hs : steps' ≤ 10000) : Mk base mb (w.setCell ⟨mb, k, none⟩ v) ab cap scs deep' steps' := by
  obtain ⟨cs, h1, h2⟩ := h.sc
  refine ⟨by rw [heap_set h.h, hc], h.lo, hd, hs, h.ne, h.tb.below ⟨rfl, rfl, rfl, by simp [World.setCell], fun k hk => heap_set_other (by have := h.lo; omega) v⟩, cs, own_same h1 fun b hb => ?_, fun j o hj => ?_⟩
  · have : ab = b := by simpa [Value.ownBlock] using hb
    subst this
    exact heap_set_other h.ne v
  · obtain ⟨v1, v2, q1, q2, q3, q4, q5⟩ := h2 j o hj
    exact ⟨v1, v2, q1, q2, q3, q4, fun s hs => (q5 s hs).below ⟨rfl, rfl, rfl, by simp [World.setCell], fun k hk => heap_set_other (by have := h.lo; omega) v⟩⟩
theorem Mk.free (h : Mk base mb w ab cap scs deep steps) (k : Nat) : w.frozen? ⟨mb, k, none⟩ = false := free_of_heap h.h k
theorem Mk.ne_row (h : Mk base mb w ab cap scs deep steps) {b0 m sz : Nat} {e : TypeId} {v : Value} {xs : List Value} (ho : w.ownsRow b0 e sz v m xs) (he : e ≠ 28) (he2 : e ≠ 56) : v.ownBlock ≠ some mb ∧ v.ownBlock ≠ some ab := by
  obtain ⟨cs, h1, _⟩ := h.sc
  refine ⟨fun q => ?_, fun q => ?_⟩
  · rcases ho.2 with ⟨rfl, _⟩ | ⟨g, c1, cur, rfl, _, hg, _⟩
    · cases q
    · have : g = mb := by simpa [Value.ownBlock] using q
      subst this
      rw [h.h] at hg
      injection hg with hg
      injection hg with _ ht
      exact he2 ht.symm
  · rcases own_ne ho h1 he with h2 | h2
    · rw [h2] at q; cases q
    · exact h2 q
end
set_option maxRecDepth 100000 in
set_option maxHeartbeats 1000000 in
theorem step_any (base mb ab cap deep steps : Nat) (scs : List (Option Sc)) (w : World) (hM : Mk base mb w ab cap scs deep steps) (hB : base ≤ w.heap.size) :
    Calls Tryz.prog 45 #[.pointer (some ⟨mb, 0, none⟩)] w fun e w' => (steps + 1 ≤ 10000 ∧ e = .returned (.tuple #[]) ∧ Kp mb ab w w' ∧ Mk base mb w' ab cap scs deep (steps + 1)) ∨ (¬ steps + 1 ≤ 10000 ∧ e = Pan 3 ∧ Kp mb ab w w') := by
  have c2 := hM.c2
  have f2 := hM.free 2
  have hws : IntKind.i64.wrap ((steps : Int) + 1) = ((steps + 1 : Nat) : Int) := by rw [IntKind.wrap_i64]; have := hM.sl; omega
  have CM1 := Lib.hid must_ok
  have CM0 := Lib.hid must_bad
  unfold Pan at CM0
  by_cases h : steps + 1 ≤ 10000
  · have hM2 := hM.box hB 2 (.int .i64 ((steps + 1 : Nat) : Int)) (deep' := deep) (steps' := steps + 1) (by simp) hM.dl h
    have hi : (steps : Int) + 1 ≤ 10000 := by omega
    replace hM := Lib.hid hM; replace hM2 := Lib.hid hM2; replace hB := Lib.hid hB
    go_enter Tryz.func45, Tryz.ntmps45
    go_wp2_with fail
    refine (CM1.out 3 _).mono ?_
    rintro e w1 ⟨rfl, rfl⟩
    go_wp2_with fail
    go_end0
    exact .inl ⟨h, rfl, Kp.setBox _ _ _, hM2.out⟩
  · have hi : ¬ ((steps : Int) + 1 ≤ 10000) := by omega
    replace hM := Lib.hid hM; replace hB := Lib.hid hB
    go_enter Tryz.func45, Tryz.ntmps45
    go_wp2_with fail
    refine (CM0.out 3 _).mono ?_
    rintro e w1 ⟨rfl, rfl⟩
    go_wp2_with fail
    exact ⟨rfl, .inr ⟨h, rfl, Kp.setBox _ _ _⟩⟩
/-- What is asked of text, a level further down. -/
def TxOk (base mb deep L : Nat) (tx : Tx) : Prop :=
  ∀ (scs : List (Option Sc)) (s : B) (n ab cap : Nat) (W : World), scs.length ≤ L → s.length ≤ 8192 → Mk base mb W ab cap scs deep n → base ≤ W.heap.size → tx scs s n ≠ .no → Calls Tryz.prog 26 #[.pointer (some ⟨mb, 0, none⟩), .string (st s)] W (ResP base mb scs deep ab W (tx scs s n))
/-- Two pieces, expanded. -/
inductive R2 where
  | ok (x y : B) (n : Nat)
  | bad (e : Int)
  | no
def twoP (tx : B → Nat → Rs) (ps : List B) (n : Nat) : R2 :=
  match ps with
  | [a, b] => match tx a n with
    | .ok x n1 => match tx b n1 with
      | .ok y n2 => .ok x y n2
      | .bad e => .bad e
      | .no => .no
    | .bad e => .bad e
    | .no => .no
  | _ => .bad 4
def twoR (tx : B → Nat → Rs) (rest : B) (n : Nat) : R2 := twoP tx (piecesF 1 rest) n
theorem twoL_R (tx : B → Nat → Rs) (rest : B) (n : Nat) (f : B → B → Nat → Rs) : twoL tx rest n f = match twoR tx rest n with
    | .ok x y n2 => f x y n2
    | .bad e => .bad e
    | .no => .no := by
  unfold twoL twoR twoP
  generalize piecesF 1 rest = l
  rcases l with _ | ⟨a, _ | ⟨b, _ | ⟨c, l⟩⟩⟩
  · rfl
  · rfl
  · show (tx a n).bind _ = _
    cases h : tx a n with
    | ok x n1 =>
      show (tx b n1).bind _ = _
      cases h2 : tx b n1 <;> simp [h, h2, Rs.bind]
    | bad e => simp [h, Rs.bind]
    | no => simp [h, Rs.bind]
  · rfl
def Res2 (base mb : Nat) (scs : List (Option Sc)) (deep ab : Nat) (w : World) (r : R2) (e : Ending) (w' : World) : Prop :=
  match r with
  | .ok x y n => e = .returned (.tuple #[.string (st x), .string (st y)]) ∧ Kp mb ab w w' ∧ ∃ ab' cap', Mk base mb w' ab' cap' scs deep n ∧ (ab' = ab ∨ w.heap.size ≤ ab')
  | .bad k => e = Pan k ∧ Kp mb ab w w'
  | .no => True
theorem piecesF_mem : ∀ (m : Nat) (P : B), ∀ q ∈ piecesF m P, q.length ≤ P.length
  | 0, P, q, h => by simp [piecesF] at h; subst h; exact Nat.le_refl _
  | m + 1, P, q, h => by
    unfold piecesF at h
    cases ho : outL 44 P 0 0 with
    | none => rw [ho] at h; simp at h; subst h; exact Nat.le_refl _
    | some k =>
      rw [ho] at h
      rcases List.mem_cons.1 h with rfl | h
      · rw [List.length_take]; omega
      · have := piecesF_mem m _ q h
        rw [List.length_drop] at this
        omega
theorem ss_at {l : List B} {j : Nat} {b : B} (h : l[j]? = some b) : (ss l)[j]? = some (.string (st b)) := by unfold ss; rw [List.getElem?_map, h]; rfl

set_option maxRecDepth 100000 in
set_option maxHeartbeats 2000000 in
theorem two_any (base mb deep L : Nat) (scs : List (Option Sc)) (tx : Tx) (hT : TxOk base mb deep L tx) (hl : scs.length ≤ L) (s : B) (n0 ab0 cap0 : Nat) (w : World) (hs : s.length ≤ 8192)
    (hM : Mk base mb w ab0 cap0 scs deep n0) (hB : base ≤ w.heap.size) (hno : twoR (tx scs) s n0 ≠ .no) :
    Calls Tryz.prog 55 #[.pointer (some ⟨mb, 0, none⟩), .string (st s)] w (Res2 base mb scs deep ab0 w (twoR (tx scs) s n0)) := by
  obtain ⟨R, hR⟩ : ∃ R, R = twoR (tx scs) s n0 := ⟨_, rfl⟩
  rw [← hR] at hno ⊢
  have CP := pieces_any s 1 w (by omega) (by omega)
  obtain ⟨ps, hps⟩ : ∃ ps, ps = piecesF 1 s := ⟨_, rfl⟩
  have hmem := piecesF_mem 1 s
  rw [← hps] at CP hmem
  have hR2 : R = twoP (tx scs) ps n0 := by rw [hR, hps]; rfl
  have hpl : ps.length = 1 ∨ ps.length = 2 := by
    rw [hps]
    unfold piecesF
    cases outL 44 s 0 0 with
    | none => exact .inl rfl
    | some k => exact .inr rfl
  have CM1 := Lib.hid must_ok
  have CM0 := Lib.hid must_bad
  unfold Pan at CM0
  obtain ⟨S, hS⟩ : ∃ S, S = st s := ⟨_, rfl⟩
  rw [← hS] at CP ⊢
  obtain ⟨pl, hpl2⟩ : ∃ pl, pl = ps.length := ⟨_, rfl⟩
  rw [← hpl2] at CP hpl
  replace CP : Hid (Calls Tryz.prog 66 #[.string S, .int .i64 2] w fun e w' => ∃ A c, e = .returned (.slice A pl c) ∧ w'.ownsRow w.heap.size 9 1 (.slice A pl c) pl (ss ps) ∧ w.grownBy w' none) := Lib.hid CP
  replace hR := Lib.hid hR; replace hno := Lib.hid hno; replace hT := Lib.hid hT; replace hM := Lib.hid hM; replace hB := Lib.hid hB; replace hps := Lib.hid hps; replace hmem := Lib.hid hmem; replace hR2 := Lib.hid hR2; replace hpl2 := Lib.hid hpl2; replace hS := Lib.hid hS; replace hl := Lib.hid hl
  go_enter Tryz.func55, Tryz.ntmps55
  go_wp2_with fail
  refine CP.out.mono ?_
  rintro e w1 ⟨A, c, rfl, hO, hG⟩
  replace hO := Lib.hid hO; replace hG := Lib.hid hG
  rcases hpl with h1 | h2
  · subst h1
    have hRb : R = .bad 4 := by
      have := hR2.out
      have hl1 := hpl2.out
      rcases ps with _ | ⟨a, _ | ⟨b, r⟩⟩
      · simp at hl1
      · exact this
      · simp at hl1
    replace hRb := Lib.hid hRb
    go_wp2_with fail
    refine (CM0.out 4 _).mono ?_
    rintro e w2 ⟨rfl, rfl⟩
    go_wp2_with fail
    refine ⟨rfl, ?_⟩
    rw [hRb.out]
    exact ⟨rfl, Kp.refl.grow0 hG.out⟩
  · subst h2
    obtain ⟨a, b, hab⟩ : ∃ a b, ps = [a, b] := by
      have hl1 := hpl2.out
      rcases ps with _ | ⟨a, _ | ⟨b, _ | ⟨d, r⟩⟩⟩
      · simp at hl1
      · simp at hl1
      · exact ⟨a, b, rfl⟩
      · simp at hl1
    have hal : a.length ≤ 8192 := Nat.le_trans (hmem.out a (by rw [hab]; simp)) hs
    have hbl : b.length ≤ 8192 := Nat.le_trans (hmem.out b (by rw [hab]; simp)) hs
    have hR3 := hR2.out
    rw [hab] at hR3
    unfold twoP at hR3
    dsimp only at hR3
    have hMw1 := hM.out.grown hB.out hG.out
    have hBw1 : base ≤ w1.heap.size := Nat.le_trans hB.out hG.out.size
    obtain ⟨m1, m2⟩ := hMw1.ne_row hO.out (by decide) (by decide)
    obtain ⟨A3, c3, e3, hRow, _⟩ := Rd.of_own hO.out
    injection e3 with e3 _ e4
    subst e3; subst e4
    have hc0 := hRow.at_ (ss_at (l := ps) (j := 0) (b := a) (by rw [hab]; rfl))
    have hc1 := hRow.at_ (ss_at (l := ps) (j := 1) (b := b) (by rw [hab]; rfl))
    obtain ⟨bb, off, rfl, hbl', k0⟩ := hc0
    obtain ⟨bb', off', e5, _, k1⟩ := hc1
    cases e5
    rw [Nat.add_zero] at k0
    have hXa : tx scs a n0 ≠ .no := fun h => hno.out (by rw [hR3, h])
    have CA := hT.out scs a n0 ab0 cap0 w1 hl.out hal hMw1 hBw1 hXa
    obtain ⟨SA, hSA⟩ : ∃ SA, SA = st a := ⟨_, rfl⟩
    rw [← hSA] at CA k0
    replace hRow := Lib.hid hRow; replace hab := Lib.hid hab; replace hSA := Lib.hid hSA; replace hMw1 := Lib.hid hMw1; replace hBw1 := Lib.hid hBw1; replace m1 := Lib.hid m1; replace m2 := Lib.hid m2; replace hal := Lib.hid hal; replace hbl := Lib.hid hbl; replace hXa := Lib.hid hXa; replace hbl' := Lib.hid hbl'
    cases hta : tx scs a n0 with
    | no => exact absurd hta hXa.out
    | bad e0 =>
      rw [hta] at CA hR3
      replace hR3 : R = .bad e0 := hR3
      replace CA : Calls Tryz.prog 26 #[.pointer (some ⟨mb, 0, none⟩), .string SA] w1 fun e w' => e = Pan e0 ∧ Kp mb ab0 w1 w' := CA
      unfold Pan at CA
      replace hR3 := Lib.hid hR3; replace CA := Lib.hid CA; replace hta := Lib.hid hta; replace k1 := Lib.hid k1
      go_wp2_with fail
      refine (CM1.out 4 _).mono ?_
      rintro e w2 ⟨rfl, rfl⟩
      go_wp2_with fail
      refine CA.out.mono ?_
      rintro e w3 ⟨rfl, hK3⟩
      replace hK3 := Lib.hid hK3
      go_wp2_with fail
      refine ⟨rfl, ?_⟩
      rw [hR3.out]
      exact ⟨rfl, (Kp.refl.grow0 hG.out).trans hK3.out (.inl rfl)⟩
    | ok x n1 =>
      rw [hta] at CA hR3
      dsimp only at hR3
      replace CA : Calls Tryz.prog 26 #[.pointer (some ⟨mb, 0, none⟩), .string SA] w1 fun e w' => e = .returned (.string (st x)) ∧ Kp mb ab0 w1 w' ∧ ∃ ab' cap', Mk base mb w' ab' cap' scs deep n1 ∧ (ab' = ab0 ∨ w1.heap.size ≤ ab') := CA
      replace hR3 := Lib.hid hR3; replace CA := Lib.hid CA; replace hta := Lib.hid hta; replace k1 := Lib.hid k1
      go_wp2_with fail
      refine (CM1.out 4 _).mono ?_
      rintro e w2 ⟨rfl, rfl⟩
      go_wp2_with fail
      refine CA.out.mono ?_
      rintro e w3 ⟨rfl, hK3, ab3, cap3, hM3, hab3⟩
      have k1' : w3.cell? ⟨bb, off + 1, none⟩ = some (.string (st b)) := by
        have hne1 : bb ≠ mb := fun h => m1.out (by rw [h]; rfl)
        have hne2 : bb ≠ ab0 := fun h => m2.out (by rw [h]; rfl)
        have := hK3.block bb hbl'.out hne1 hne2
        have k := k1.out
        unfold World.cell? at k ⊢
        rw [this]; exact k
      have hB3 : base ≤ w3.heap.size := Nat.le_trans hBw1.out hK3.size
      have hXb : tx scs b n1 ≠ .no := fun h => hno.out (by rw [hR3.out, h])
      have CB := hT.out scs b n1 ab3 cap3 w3 hl.out hbl.out hM3 hB3 hXb
      obtain ⟨SB, hSB⟩ : ∃ SB, SB = st b := ⟨_, rfl⟩
      rw [← hSB] at CB k1'
      have hKK : Kp mb ab0 w w3 := (Kp.refl.grow0 hG.out).trans hK3 (.inl rfl)
      have hab4 : ab3 = ab0 ∨ w.heap.size ≤ ab3 := by
        rcases hab3 with rfl | h
        · exact .inl rfl
        · exact .inr (Nat.le_trans hG.out.size h)
      replace hK3 := Lib.hid hK3; replace hM3 := Lib.hid hM3; replace hab3 := Lib.hid hab3; replace hB3 := Lib.hid hB3; replace hXb := Lib.hid hXb; replace hSB := Lib.hid hSB; replace hKK := Lib.hid hKK; replace hab4 := Lib.hid hab4
      cases htb : tx scs b n1 with
      | no => exact absurd htb hXb.out
      | bad e0 =>
        have hR4 := hR3.out
        rw [htb] at CB hR4
        replace hR4 : R = .bad e0 := hR4
        replace CB : Calls Tryz.prog 26 #[.pointer (some ⟨mb, 0, none⟩), .string SB] w3 fun e w' => e = Pan e0 ∧ Kp mb ab3 w3 w' := CB
        unfold Pan at CB
        replace hR4 := Lib.hid hR4; replace CB := Lib.hid CB; replace htb := Lib.hid htb
        go_wp2_with fail
        refine CB.out.mono ?_
        rintro e w4 ⟨rfl, hK4⟩
        replace hK4 := Lib.hid hK4
        go_wp2_with fail
        refine ⟨rfl, ?_⟩
        rw [hR4.out]
        exact ⟨rfl, hKK.out.trans hK4.out hab4.out⟩
      | ok y n2 =>
        have hR4 := hR3.out
        rw [htb] at CB hR4
        replace hR4 : R = .ok x y n2 := hR4
        replace CB : Calls Tryz.prog 26 #[.pointer (some ⟨mb, 0, none⟩), .string SB] w3 fun e w' => e = .returned (.string (st y)) ∧ Kp mb ab3 w3 w' ∧ ∃ ab' cap', Mk base mb w' ab' cap' scs deep n2 ∧ (ab' = ab3 ∨ w3.heap.size ≤ ab') := CB
        replace hR4 := Lib.hid hR4; replace CB := Lib.hid CB; replace htb := Lib.hid htb
        go_wp2_with fail
        refine CB.out.mono ?_
        rintro e w4 ⟨rfl, hK4, ab4, cap4, hM4, hab5⟩
        replace hK4 := Lib.hid hK4; replace hM4 := Lib.hid hM4; replace hab5 := Lib.hid hab5
        go_wp2_with fail
        go_ret2
        rw [hR4.out]
        refine ⟨rfl, hKK.out.trans hK4.out hab4.out, ab4, cap4, hM4.out, ?_⟩
        rcases hab5.out with rfl | h
        · exact hab4.out
        · exact .inr (Nat.le_trans hKK.out.size h)
end Go.Proofs.YtfhdfhlabkeipaaGreatDoor
