/- Format: compared. Format: either: the one text or the other one. -/
import Derived.Test.YtfhdfhlabkeipaaGreatDoorC13
namespace Go.Proofs.YtfhdfhlabkeipaaGreatDoor
open Go.RowKit
set_option linter.unusedSimpArgs false
set_option linter.unusedVariables false

theorem isCmp_cases {h : B} (hh : isCmp h = true) : h = [61, 61] ∨ h = [33, 61] ∨ h = [60] ∨ h = [62] ∨ h = [60, 61] ∨ h = [62, 61] ∨ h = [124, 124] ∨ h = [38, 38] ∨ h = [109] := by
  unfold isCmp at hh
  simp only [Bool.or_eq_true, beq_iff_eq] at hh
  rcases hh with (((((((h | h) | h) | h) | h) | h) | h) | h) | h <;> simp [h]

set_option maxRecDepth 100000 in
set_option maxHeartbeats 2000000 in
theorem compared_any (op a b : B) (w : World) (hop : isCmp op = true) (ha : a.length ≤ 20000) (hb : b.length ≤ 20000) :
    Calls Tryz.prog 57 #[.string (st op), .string (st a), .string (st b)] w fun e w' => e = .returned (.bool (cmpL op a b)) ∧ w.grownBy w' none := by
  have CT := Lib.hid true_any
  have CMt := Lib.hid (match_any a b w ha hb)
  have t1 : (st a).toList = a := st_toList a
  have t2 : (st b).toList = b := st_toList b
  obtain ⟨SA, hSA⟩ : ∃ S, S = st a := ⟨_, rfl⟩
  obtain ⟨SB, hSB⟩ : ∃ S, S = st b := ⟨_, rfl⟩
  rw [← hSA] at t1 CMt ⊢
  rw [← hSB] at t2 CMt ⊢
  have CTa : Hid (∀ W, Calls Tryz.prog 12 #[.string SA] W fun e w' => e = .returned (.bool (trueL a)) ∧ w' = W) := Lib.hid fun W => by rw [hSA]; exact CT.out a W
  have CTb : Hid (∀ W, Calls Tryz.prog 12 #[.string SB] W fun e w' => e = .returned (.bool (trueL b)) ∧ w' = W) := Lib.hid fun W => by rw [hSB]; exact CT.out b W
  replace hSA := Lib.hid hSA; replace hSB := Lib.hid hSB
  rcases isCmp_cases hop with rfl | rfl | rfl | rfl | rfl | rfl | rfl | rfl | rfl
  · rw [show st [61, 61] = ⟨#[61, 61]⟩ from rfl]
    go_enter Tryz.func57, Tryz.ntmps57
    go_wp2_with fail
    go_ret
    exact ⟨by first | rfl | (simp [cmpL]; done) | (simp [cmpL]; rfl), World.grownBy.refl _ _⟩
  · rw [show st [33, 61] = ⟨#[33, 61]⟩ from rfl]
    go_enter Tryz.func57, Tryz.ntmps57
    go_wp2_with fail
    go_ret
    exact ⟨by first | rfl | (simp [cmpL]; done) | (simp [cmpL]; rfl), World.grownBy.refl _ _⟩
  · rw [show st [60] = ⟨#[60]⟩ from rfl]
    go_enter Tryz.func57, Tryz.ntmps57
    go_wp2_with fail
    go_ret
    exact ⟨by first | rfl | (simp [cmpL]; done) | (simp [cmpL]; rfl), World.grownBy.refl _ _⟩
  · rw [show st [62] = ⟨#[62]⟩ from rfl]
    go_enter Tryz.func57, Tryz.ntmps57
    go_wp2_with fail
    go_ret
    exact ⟨by first | rfl | (simp [cmpL]; done) | (simp [cmpL]; rfl), World.grownBy.refl _ _⟩
  · rw [show st [60, 61] = ⟨#[60, 61]⟩ from rfl]
    go_enter Tryz.func57, Tryz.ntmps57
    go_wp2_with fail
    go_ret
    exact ⟨by first | rfl | (simp [cmpL]; done) | (simp [cmpL]; rfl), World.grownBy.refl _ _⟩
  · rw [show st [62, 61] = ⟨#[62, 61]⟩ from rfl]
    go_enter Tryz.func57, Tryz.ntmps57
    go_wp2_with fail
    go_ret
    exact ⟨by first | rfl | (simp [cmpL]; done) | (simp [cmpL]; rfl), World.grownBy.refl _ _⟩
  · rw [show st [124, 124] = ⟨#[124, 124]⟩ from rfl]
    cases hta : trueL a with
    | true =>
      rw [hta] at CTa
      have hres : cmpL [124, 124] a b = true := by unfold cmpL; simp [hta]
      replace hta := Lib.hid hta; replace hres := Lib.hid hres
      go_enter Tryz.func57, Tryz.ntmps57
      go_wp2_with fail
      refine (CTa.out _).mono ?_
      rintro e w1 ⟨rfl, rfl⟩
      go_wp2_with fail
      go_ret
      exact ⟨by rw [hres.out]; rfl, World.grownBy.refl _ _⟩
    | false =>
      rw [hta] at CTa
      have hres : cmpL [124, 124] a b = trueL b := by unfold cmpL; simp [hta]
      obtain ⟨q, hq⟩ : ∃ q, q = trueL b := ⟨_, rfl⟩
      rw [← hq] at CTb hres
      replace hta := Lib.hid hta; replace hres := Lib.hid hres; replace hq := Lib.hid hq
      go_enter Tryz.func57, Tryz.ntmps57
      go_wp2_with fail
      refine (CTa.out _).mono ?_
      rintro e w1 ⟨rfl, rfl⟩
      go_wp2_with fail
      refine (CTb.out _).mono ?_
      rintro e w2 ⟨rfl, rfl⟩
      go_wp2_with fail
      go_ret
      exact ⟨by rw [hres.out]; rfl, World.grownBy.refl _ _⟩
  · rw [show st [38, 38] = ⟨#[38, 38]⟩ from rfl]
    cases hta : trueL a with
    | false =>
      rw [hta] at CTa
      have hres : cmpL [38, 38] a b = false := by unfold cmpL; simp [hta]
      replace hta := Lib.hid hta; replace hres := Lib.hid hres
      go_enter Tryz.func57, Tryz.ntmps57
      go_wp2_with fail
      refine (CTa.out _).mono ?_
      rintro e w1 ⟨rfl, rfl⟩
      go_wp2_with fail
      go_ret
      exact ⟨by rw [hres.out]; rfl, World.grownBy.refl _ _⟩
    | true =>
      rw [hta] at CTa
      have hres : cmpL [38, 38] a b = trueL b := by unfold cmpL; simp [hta]
      obtain ⟨q, hq⟩ : ∃ q, q = trueL b := ⟨_, rfl⟩
      rw [← hq] at CTb hres
      replace hta := Lib.hid hta; replace hres := Lib.hid hres; replace hq := Lib.hid hq
      go_enter Tryz.func57, Tryz.ntmps57
      go_wp2_with fail
      refine (CTa.out _).mono ?_
      rintro e w1 ⟨rfl, rfl⟩
      go_wp2_with fail
      refine (CTb.out _).mono ?_
      rintro e w2 ⟨rfl, rfl⟩
      go_wp2_with fail
      go_ret
      exact ⟨by rw [hres.out]; rfl, World.grownBy.refl _ _⟩
  · rw [show st [109] = ⟨#[109]⟩ from rfl]
    have hres : cmpL [109] a b = matchL a b := by unfold cmpL; simp
    obtain ⟨q, hq⟩ : ∃ q, q = matchL a b := ⟨_, rfl⟩
    rw [← hq] at CMt hres
    replace hres := Lib.hid hres; replace hq := Lib.hid hq
    go_enter Tryz.func57, Tryz.ntmps57
    go_wp2_with fail
    refine CMt.out.mono ?_
    rintro e w1 ⟨rfl, G1⟩
    replace G1 := Lib.hid G1
    go_wp2_with fail
    go_ret
    exact ⟨by rw [hres.out]; rfl, G1.out⟩
end Go.Proofs.YtfhdfhlabkeipaaGreatDoor
namespace Go.Proofs.YtfhdfhlabkeipaaGreatDoor
open Go.RowKit
set_option linter.unusedSimpArgs false
set_option linter.unusedVariables false

section
variable {ops : Array Oper} {rest : List Oper} {o : Oper} {a : Act} {Q : Exit → Act → World → Prop} {w : World}
theorem rd_block {g : Nat} {c : Array Value} {t : TypeId} (hg : w.heap[g]? = some (.cells c t (0, 0))) : Rd w (some ⟨g, 0, none⟩) c.toList := fun _ => ⟨g, 0, rfl, (Array.getElem?_eq_some_iff.1 hg).1, fun j x hj => by
  rw [cell_of_heap hg, Nat.zero_add]
  simpa using hj⟩
/-- append of two texts at []string. -/
theorem ap91two (hgd : o.guard = none) (s x : Operand) (ho : o.op = .call { callee := .builtin .append, args := #[s, x], argTypes := #[91, 91] })
    (base : Nat) (v : Value) (n : Nat) (xs : List Value) (hs : a.eval s = v) (hown : w.ownsRow base 9 1 v n xs) (g : Nat) (u1 u2 : ByteArray) (hx : a.eval x = .slice (some ⟨g, 0, none⟩) 2 2) (hg : w.heap[g]? = some (.cells #[.string u1, .string u2] 9 (0, 0)))
    (hb : n ≤ 1000000) (hbase : base ≤ w.heap.size)
    (h : ∀ A' c' w', w'.ownsRow base 9 1 (.slice A' (n + 2) c') (n + 2) (xs ++ [.string u1, .string u2]) → w.grownBy w' v.ownBlock → wpList Tryz.prog ops Q rest (a.put o.dst (.slice A' (n + 2) c')) w') : wpList Tryz.prog ops Q (o :: rest) a w := by
  obtain ⟨i0, hi0, hz0, hz1, hz2⟩ := info_parts info9
  exact wpList_append_rd w hgd s x 91 ho base 9 i0 _ 1 16 Tryz.underlying91 hi0 hz0 hz1 hz2 rfl (by omega) v n xs hs hown (some ⟨g, 0, none⟩) 2 2 [.string u1, .string u2] hx rfl (rd_block hg) (by intro q hq; simp at hq; rcases hq with rfl | rfl <;> rfl) (by unfold maxLen; omega) (by omega) hbase fun A' c' w' h1 h2 _ => h A' c' w' h1 h2
end
theorem three_of {l : List B} (h : 1 ≤ l.length) : ∃ q0 q1 q2, (l ++ [[], []])[0]? = some q0 ∧ (l ++ [[], []])[1]? = some q1 ∧ (l ++ [[], []])[2]? = some q2 ∧ (l ++ [[], []]).headD [] = q0 ∧ (l ++ [[], []]).tail.headD [] = q1 ∧ (l ++ [[], []]).tail.tail.headD [] = q2 := by
  rcases l with _ | ⟨a, _ | ⟨b, _ | ⟨c, l⟩⟩⟩
  · simp at h
  · exact ⟨a, [], [], rfl, rfl, rfl, rfl, rfl, rfl⟩
  · exact ⟨a, b, [], rfl, rfl, rfl, rfl, rfl, rfl⟩
  · exact ⟨a, b, c, rfl, rfl, rfl, rfl, rfl, rfl⟩
theorem piecesF_pos (m : Nat) (s : B) : 1 ≤ (piecesF m s).length := by
  cases m with
  | zero => simp [piecesF]
  | succ m =>
    unfold piecesF
    cases outL 44 s 0 0 <;> simp
theorem piecesF_len : ∀ (m : Nat) (s : B), (piecesF m s).length ≤ m + 1
  | 0, s => by simp [piecesF]
  | m + 1, s => by
    unfold piecesF
    cases outL 44 s 0 0 with
    | none => simp
    | some k => simp only [List.length_cons]; have := piecesF_len m (s.drop (k + 1)); omega

theorem own_some {w : World} {base sz n c : Nat} {e : TypeId} {A : Option Addr} {xs : List Value} (h : w.ownsRow base e sz (.slice A n c) n xs) (hn : 0 < n) : ∃ g, A = some ⟨g, 0, none⟩ := by
  rcases h.2 with ⟨h, rfl⟩ | ⟨g, c1, cur, h, _⟩
  · omega
  · injection h with h
    exact ⟨g, h⟩
theorem cells3 {w : World} {base m c g : Nat} {ps : List B} (h : w.ownsRow base 9 1 (.slice (some ⟨g, 0, none⟩) m c) m (ss ps ++ [.string ⟨#[]⟩, .string ⟨#[]⟩])) {j : Nat} {q : B} (hq : (ps ++ [[], []])[j]? = some q) : w.cell? ⟨g, j, none⟩ = some (.string (st q)) := by
  have e : ss ps ++ [.string ⟨#[]⟩, .string ⟨#[]⟩] = ss (ps ++ [[], []]) := by unfold ss; rw [List.map_append]; rfl
  rw [e] at h
  obtain ⟨b, off, e2, _, h2⟩ := (own_rd h).at_ (ss_at hq)
  cases e2
  rwa [Nat.zero_add] at h2
theorem Mk.rowE {w w' : World} {mb ab base cap deep steps : Nat} {scs : List (Option Sc)} (h : Mk base mb w ab cap scs deep steps) {b0 m sz : Nat} {e : TypeId} {v : Value} {xs : List Value} (ho : w.ownsRow b0 e sz v m xs) (he : e ≠ 28) (he2 : e ≠ 56) (hb : base ≤ b0) (hB : base ≤ w.heap.size) (g : w.grownBy w' v.ownBlock) : Mk base mb w' ab cap scs deep steps := by
  obtain ⟨n1, n2⟩ := h.ne_row ho he he2
  obtain ⟨cs, h1, h2⟩ := h.sc
  refine ⟨(g.block mb h.lt (fun e => n1 e.symm)).trans h.h, h.lo, h.dl, h.sl, h.ne, h.tb.below ⟨g.os, g.tape, g.output, g.size, fun k hk => g.block k (by omega) (fun e => by have := (own_lt ho e.symm).1; omega)⟩, cs, own_same h1 fun b hb => ?_, fun j o hj => ?_⟩
  · have : ab = b := by simpa [Value.ownBlock] using hb
    subst this
    exact g.block ab h.ab_lo.2 (fun e => n2 e.symm)
  · obtain ⟨v1, v2, q1, q2, q3, q4, q5⟩ := h2 j o hj
    refine ⟨v1, v2, q1, q2, q3, q4, fun s hs => (q5 s hs).below ⟨g.os, g.tape, g.output, g.size, fun k hk => g.block k (by omega) (fun e => ?_)⟩⟩
    have := (own_lt ho e.symm).1
    omega

set_option maxRecDepth 100000 in
set_option maxHeartbeats 2000000 in
theorem either_any (base mb deep L : Nat) (scs : List (Option Sc)) (tx : Tx) (hT : TxOk base mb deep L tx) (hl : scs.length ≤ L) (hL : L ≤ 100) (s : B) (n0 ab0 cap0 : Nat) (w : World) (hs : s.length ≤ 8192)
    (hM : Mk base mb w ab0 cap0 scs deep n0) (hB : base ≤ w.heap.size) (hno : eitherL tx scs s n0 ≠ .no) :
    Calls Tryz.prog 53 #[.pointer (some ⟨mb, 0, none⟩), .string (st s)] w (ResP base mb scs deep ab0 w (eitherL tx scs s n0)) := by
  obtain ⟨R, hR⟩ : ∃ R, R = eitherL tx scs s n0 := ⟨_, rfl⟩
  rw [← hR] at hno ⊢
  have CP := pieces_any s 2 w (by omega) (by omega)
  have hmem := piecesF_mem 2 s
  obtain ⟨q0, q1, q2, t0, t1, t2, u0, u1, u2⟩ := three_of (piecesF_pos 2 s)
  unfold eitherL at hR
  dsimp only at hR
  rw [u0, u1, u2] at hR
  have hpl3 := piecesF_len 2 s
  have hpl1 := piecesF_pos 2 s
  obtain ⟨ps, hps⟩ : ∃ ps, ps = piecesF 2 s := ⟨_, rfl⟩
  rw [← hps] at CP hmem t0 t1 t2 hpl3 hpl1
  obtain ⟨pl, hpl⟩ : ∃ pl, pl = ps.length := ⟨_, rfl⟩
  rw [← hpl] at CP hpl3 hpl1
  have hql : ∀ q : B, q ∈ ps ++ [[], []] → q.length ≤ 8192 := fun q hq => by
    rcases List.mem_append.1 hq with h | h
    · exact Nat.le_trans (hmem q h) hs
    · simp at h; subst h; simp
  have l1 := hql q1 (List.mem_of_getElem? t1)
  have l2 := hql q2 (List.mem_of_getElem? t2)
  obtain ⟨S, hS⟩ : ∃ S, S = st s := ⟨_, rfl⟩
  rw [← hS] at CP ⊢
  replace CP : Hid (Calls Tryz.prog 66 #[.string S, .int .i64 3] w fun e w' => ∃ A c, e = .returned (.slice A pl c) ∧ w'.ownsRow w.heap.size 9 1 (.slice A pl c) pl (ss ps) ∧ w.grownBy w' none) := Lib.hid CP
  cases hv : valueL scs q0 with
  | none => rw [hv] at hR; exact absurd hR hno
  | some v0 =>
  cases v0 with
  | none => rw [hv] at hR; exact absurd hR hno
  | some v =>
  rw [hv] at hR
  dsimp only at hR
  have CV := fun ab cap W (hM : Mk base mb W ab cap scs deep n0) (hB : base ≤ W.heap.size) => value_any base mb ab cap deep n0 scs q0 W hM hB (by omega) (some v) hv
  unfold inV at CV
  dsimp only [Option.getD_some, Option.isSome_some] at CV
  replace hR := Lib.hid hR; replace hno := Lib.hid hno; replace hT := Lib.hid hT; replace hM := Lib.hid hM; replace hB := Lib.hid hB; replace hps := Lib.hid hps; replace hmem := Lib.hid hmem; replace hpl := Lib.hid hpl; replace hS := Lib.hid hS; replace hl := Lib.hid hl; replace hql := Lib.hid hql; replace t0 := Lib.hid t0; replace t1 := Lib.hid t1; replace t2 := Lib.hid t2; replace u0 := Lib.hid u0; replace u1 := Lib.hid u1; replace u2 := Lib.hid u2; replace l1 := Lib.hid l1; replace l2 := Lib.hid l2; replace CV := Lib.hid CV; replace hv := Lib.hid hv
  go_enter Tryz.func53, Tryz.ntmps53
  go_wp2_with fail
  refine CP.out.mono ?_
  rintro e w1 ⟨A, c, rfl, hO, hG⟩
  replace hO := Lib.hid hO; replace hG := Lib.hid hG
  go_wp2_with (at_builtin; refine ap91two rfl (.tmp 9) (.tmp 10) rfl w.heap.size (.slice A pl c) pl (ss ps) rfl (own_keep hO.out (World.grownBy_alloc _ _ none)) w1.heap.size ⟨#[]⟩ ⟨#[]⟩ rfl (heap_alloc_new w1 _) (by omega) (Nat.le_trans hG.out.size (World.grownBy_alloc _ _ none).size) ?_; intro A2 c2 w2 h1 h2; obtain ⟨g2, rfl⟩ := own_some h1 (by omega); have k0 := cells3 h1 t0.out; have k1 := Lib.hid (cells3 h1 t1.out); have k2 := Lib.hid (cells3 h1 t2.out); replace h1 := Lib.hid h1; replace h2 := Lib.hid h2)
  have hK2 : Kp mb ab0 w w2 := (Kp.refl.grow0 (g_alloc hG.out _)).grow h2.out fun b e => (own_lt hO.out e).1
  have hM2 := (hM.out.grown hB.out (g_alloc hG.out _)).rowE (own_keep hO.out (World.grownBy_alloc _ _ none)) (by decide) (by decide) hB.out (Nat.le_trans hB.out (g_alloc hG.out _).size) h2.out
  have hB2 : base ≤ w2.heap.size := Nat.le_trans hB.out hK2.size
  have CV2 := CV.out ab0 cap0 w2 hM2 hB2
  have hg2 : g2 < w2.heap.size := (own_lt h1.out rfl).2
  replace hK2 := Lib.hid hK2; replace hM2 := Lib.hid hM2; replace hB2 := Lib.hid hB2; replace CV2 := Lib.hid CV2; replace hg2 := Lib.hid hg2
  refine CV2.out.mono ?_
  rintro e w3 ⟨rfl, G3⟩
  have hM3 := hM2.out.grown hB2.out G3
  have hB3 : base ≤ w3.heap.size := Nat.le_trans hB2.out G3.size
  have hK3 := hK2.out.grow0 G3
  have k1' := G3.cell k1.out (by simp)
  have k2' := G3.cell k2.out (by simp)
  clear k0
  replace hM3 := Lib.hid hM3; replace hB3 := Lib.hid hB3; replace hK3 := Lib.hid hK3; replace G3 := Lib.hid G3
  have fin : ∀ (q : B), q.length ≤ 8192 → tx scs q n0 ≠ .no → R = tx scs q n0 → Calls Tryz.prog 26 #[.pointer (some ⟨mb, 0, none⟩), .string (st q)] w3 fun e w' => (∃ x n, e = .returned (.string (st x)) ∧ ResP base mb scs deep ab0 w R (.returned (.string (st x))) w') ∨ (∃ k, e = Pan k ∧ ResP base mb scs deep ab0 w R (Pan k) w') := fun q hq hn hRq => by
    refine (hT.out scs q n0 ab0 cap0 w3 hl.out hq hM3.out hB3.out hn).mono fun e w' h => ?_
    rw [hRq]
    cases ht : tx scs q n0 with
    | no => exact absurd ht hn
    | ok x n1 =>
      rw [ht] at h
      obtain ⟨rfl, h1, ab', cap', h2, h3⟩ := h
      refine .inl ⟨x, n1, rfl, rfl, hK3.out.trans h1 (.inl rfl), ab', cap', h2, ?_⟩
      rcases h3 with rfl | h3
      · exact .inl rfl
      · exact .inr (Nat.le_trans hK3.out.size h3)
    | bad k =>
      rw [ht] at h
      obtain ⟨rfl, h1⟩ := h
      exact .inr ⟨k, rfl, rfl, hK3.out.trans h1 (.inl rfl)⟩
  replace fin := Lib.hid fin
  by_cases hvl : v.length ≤ 8192
  · have CS := Lib.hid (short_ok v w3 hvl)
    have CT := Lib.hid (true_any v w3)
    have hR2 := hR.out
    rw [if_pos hvl] at hR2
    cases htv : trueL v with
    | true =>
      rw [htv] at hR2 CT
      replace hR2 : R = tx scs q1 n0 := hR2
      have F := fin.out q1 l1.out (fun h => hno.out (hR2.trans h)) hR2
      obtain ⟨SX, hSX⟩ : ∃ SX, SX = st q1 := ⟨_, rfl⟩
      rw [← hSX] at F k1'
      clear k2'
      replace F := Lib.hid F; replace hR2 := Lib.hid hR2; replace htv := Lib.hid htv; replace hSX := Lib.hid hSX; replace hvl := Lib.hid hvl
      go_wp2_with fail
      refine CS.out.mono ?_
      rintro e w4 ⟨rfl, rfl⟩
      go_wp2_with fail
      refine CT.out.mono ?_
      rintro e w5 ⟨rfl, rfl⟩
      go_wp2_with fail
      refine F.out.mono ?_
      rintro e w6 (⟨x, n, rfl, hres⟩ | ⟨k, rfl, hres⟩)
      · replace hres := Lib.hid hres
        go_wp2_with fail
        go_ret
        exact hres.out
      · replace hres := Lib.hid hres
        unfold Pan
        go_wp2_with fail
        exact ⟨rfl, hres.out⟩
    | false =>
      rw [htv] at hR2 CT
      replace hR2 : R = tx scs q2 n0 := hR2
      have F := fin.out q2 l2.out (fun h => hno.out (hR2.trans h)) hR2
      obtain ⟨SX, hSX⟩ : ∃ SX, SX = st q2 := ⟨_, rfl⟩
      rw [← hSX] at F k2'
      clear k1'
      replace F := Lib.hid F; replace hR2 := Lib.hid hR2; replace htv := Lib.hid htv; replace hSX := Lib.hid hSX; replace hvl := Lib.hid hvl
      go_wp2_with fail
      refine CS.out.mono ?_
      rintro e w4 ⟨rfl, rfl⟩
      go_wp2_with fail
      refine CT.out.mono ?_
      rintro e w5 ⟨rfl, rfl⟩
      go_wp2_with fail
      refine F.out.mono ?_
      rintro e w6 (⟨x, n, rfl, hres⟩ | ⟨k, rfl, hres⟩)
      · replace hres := Lib.hid hres
        go_wp2_with fail
        go_ret
        exact hres.out
      · replace hres := Lib.hid hres
        unfold Pan
        go_wp2_with fail
        exact ⟨rfl, hres.out⟩
  · have CS := short_bad v w3 hvl
    unfold Pan at CS
    have hR2 := hR.out
    rw [if_neg hvl] at hR2
    replace CS := Lib.hid CS; replace hR2 := Lib.hid hR2; replace hvl := Lib.hid hvl
    go_wp2_with fail
    refine CS.out.mono ?_
    rintro e w4 ⟨rfl, rfl⟩
    go_wp2_with fail
    refine ⟨rfl, ?_⟩
    rw [hR2.out]
    exact ⟨rfl, hK3.out⟩
end Go.Proofs.YtfhdfhlabkeipaaGreatDoor
