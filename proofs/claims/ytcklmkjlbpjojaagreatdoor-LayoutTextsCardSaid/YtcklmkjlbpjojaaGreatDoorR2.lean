/- Layout: the reader of a body: next. Layout: the reader of a body: number. -/
import Derived.Test.YtcklmkjlbpjojaaGreatDoorH2
import Derived.Test.YtcklmkjlbpjojaaGreatDoorG2
namespace Go.Proofs.YtcklmkjlbpjojaaGreatDoor
open Go.RowKit
set_option linter.unusedSimpArgs false
set_option linter.unusedVariables false

/-- The reader: what is left, is it bad? -/
def Rdr (rb : Nat) (s : List UInt8) (bad : Bool) (w : World) : Prop := w.heap[rb]? = some (.cells #[.string (st s), .bool bad] 88 (0, 0))
/-- next, as a function. -/
def nextP (some : List UInt8) : List UInt8 → Bool → UInt8 × List UInt8 × Bool
  | [], _ => (0, [], true)
  | c :: r, bad => if c ∈ some then (c, r, bad) else (0, [], true)
theorem nextP_nil (some : List UInt8) (bad : Bool) : nextP some [] bad = (0, [], true) := rfl
theorem Rdr.c0 {rb : Nat} {s : List UInt8} {bad : Bool} {w : World} (h : Rdr rb s bad w) : w.cell? ⟨rb, 0, none⟩ = some (.string (st s)) := by rw [cell_of_heap h]; rfl
theorem Rdr.c1 {rb : Nat} {s : List UInt8} {bad : Bool} {w : World} (h : Rdr rb s bad w) : w.cell? ⟨rb, 1, none⟩ = some (.bool bad) := by rw [cell_of_heap h]; rfl
theorem Rdr.set0 {rb : Nat} {s s' : List UInt8} {bad : Bool} {w : World} (h : Rdr rb s bad w) : Rdr rb s' bad (w.setCell ⟨rb, 0, none⟩ (.string (st s'))) := by
  have := heap_set (j := 0) h (.string (st s'))
  exact this
theorem Rdr.set1 {rb : Nat} {s : List UInt8} {bad bad' : Bool} {w : World} (h : Rdr rb s bad w) : Rdr rb s bad' (w.setCell ⟨rb, 1, none⟩ (.bool bad')) := by
  have := heap_set (j := 1) h (.bool bad')
  exact this
theorem Rdr.off {rb : Nat} {s : List UInt8} {bad : Bool} {w w' : World} {S : List Nat} (h : Rdr rb s bad w) (o : Off S w w') (hS : rb ∉ S) : Rdr rb s bad w' := (o.block rb (lt_of_heap h) hS).trans h
theorem st_tl (l : List UInt8) : (st l).toList = l := ByteArray.toList_mk l
theorem st_drop (l : List UInt8) (k n : Nat) (hn : n = l.length) : (st l).extract k n = st (l.drop k) := by
  rw [Lib.extract_eq]
  subst hn
  have e : (st l).data.toList = l := by simp [st]
  rw [e, List.take_of_length_le (by simp)]
  rfl
theorem ib_mem (l : List UInt8) (c : UInt8) (w : World) : Calls Tryz.prog 66 #[.string (st l), .int .u8 c.toNat] w fun e w' => (∃ r : Int, e = .returned (.int .i64 r) ∧ (r < 0 ↔ c ∉ l)) ∧ w' = w := by
  refine (Tryz.strings_IndexByte (st l) c.toNat w).mono ?_
  rintro e w' ⟨rfl, rfl⟩
  refine ⟨⟨_, rfl, ?_⟩, rfl⟩
  have e1 : ((c.toNat : Int)).toNat.toUInt8 = c := by simp
  rw [e1]
  have e2 : (st l).data.toList = l := by simp [st]
  rw [e2]
  clear e1 e2
  induction l with
  | nil => simp [Lib.indexByte]
  | cons b l ih =>
    have hge := Lib.indexByte_ge l c
    unfold Lib.indexByte
    by_cases h1 : b = c
    · subst h1; simp
    · have hb : (b == c) = false := by simpa using h1
      rw [hb]
      simp only [Bool.false_eq_true, if_false, List.mem_cons, not_or]
      by_cases h2 : Lib.indexByte l c = -1
      · have : (Lib.indexByte l c == -1) = true := by simp [h2]
        rw [this]
        simp only [if_true]
        constructor
        · intro _; exact ⟨fun e => h1 e.symm, ih.1 (by omega)⟩
        · intro _; omega
      · have : (Lib.indexByte l c == -1) = false := by simp [h2]
        rw [this]
        simp only [Bool.false_eq_true, if_false]
        constructor
        · intro h; omega
        · intro h; have := ih.2 h.2; omega

set_option maxHeartbeats 400000 in
set_option maxRecDepth 100000 in
theorem next_any (rb : Nat) (l s : List UInt8) (bad : Bool) (w : World) (hR : Rdr rb s bad w) (hs : s.length ≤ 5000) :
    Calls Tryz.prog 86 #[ptr rb, .string (st l)] w fun e w' => e = .returned (.int .u8 (nextP l s bad).1.toNat) ∧ Rdr rb (nextP l s bad).2.1 (nextP l s bad).2.2 w' ∧ Off [rb] w w' := by
  have c0 := hR.c0
  have c1 := hR.c1
  have f0 := free_of_heap hR 0
  have f1 := free_of_heap hR 1
  unfold ptr
  cases s with
  | nil =>
    obtain ⟨S, hS⟩ : ∃ S, S = st [] := ⟨_, rfl⟩
    rw [← hS] at c0
    have hE : S.toList.isEmpty = true := by rw [hS, st_tl]; rfl
    have hZ : S.size = 0 := by rw [hS]; rfl
    have hend : Rdr rb [] true ((w.setCell ⟨rb, 1, none⟩ (.bool true)).setCell ⟨rb, 0, none⟩ (.string ⟨#[]⟩)) := hR.set1.set0
    have hoff : Off [rb] w ((w.setCell ⟨rb, 1, none⟩ (.bool true)).setCell ⟨rb, 0, none⟩ (.string ⟨#[]⟩)) := (Off.set w ⟨rb, 1, none⟩ _).trans (Off.set _ ⟨rb, 0, none⟩ _) (by simp)
    replace hR := Lib.hid hR; replace hS := Lib.hid hS; replace hend := Lib.hid hend; replace hoff := Lib.hid hoff
    go_enter Tryz.func86, Tryz.ntmps86
    go_wp2_with fail
    go_ret
    exact ⟨rfl, hend.out, hoff.out⟩
  | cons c r =>
    have CI := Lib.hid (fun W => ib_mem l c W)
    obtain ⟨S, hS⟩ : ∃ S, S = st (c :: r) := ⟨_, rfl⟩
    rw [← hS] at c0
    have hE : S.toList.isEmpty = false := by rw [hS, st_tl]; rfl
    have hZ : S.size = r.length + 1 := by rw [hS, st_size]; rfl
    have hG : ∀ h, S[0]'h = c := by subst hS; intro h; rfl
    have hr : r.length ≤ 5000 := by simp at hs; omega
    have hX : S.extract 1 (r.length + 1) = st r := by rw [hS]; exact st_drop (c :: r) 1 _ rfl
    have hendn : Rdr rb [] true ((w.setCell ⟨rb, 1, none⟩ (.bool true)).setCell ⟨rb, 0, none⟩ (.string ⟨#[]⟩)) := hR.set1.set0
    have hoffn : Off [rb] w ((w.setCell ⟨rb, 1, none⟩ (.bool true)).setCell ⟨rb, 0, none⟩ (.string ⟨#[]⟩)) := (Off.set w ⟨rb, 1, none⟩ _).trans (Off.set _ ⟨rb, 0, none⟩ _) (by simp)
    have hend : Rdr rb r bad (w.setCell ⟨rb, 0, none⟩ (.string (st r))) := hR.set0
    have hoff : Off [rb] w (w.setCell ⟨rb, 0, none⟩ (.string (st r))) := Off.set w ⟨rb, 0, none⟩ _
    replace hR := Lib.hid hR; replace hS := Lib.hid hS; replace hend := Lib.hid hend; replace hoff := Lib.hid hoff; replace hendn := Lib.hid hendn; replace hoffn := Lib.hid hoffn
    go_enter Tryz.func86, Tryz.ntmps86
    go_wp2_with fail
    refine (CI.out _).mono ?_
    rintro e w1 ⟨⟨i, rfl, hi⟩, rfl⟩
    by_cases hc : c ∈ l
    · have hi0 : ¬ i < 0 := fun h => hi.1 h hc
      have hn : nextP l (c :: r) bad = (c, r, bad) := if_pos hc
      replace hi := Lib.hid hi; replace hc := Lib.hid hc; replace hn := Lib.hid hn
      go_wp2_with fail
      go_ret
      rw [hn.out]
      exact ⟨rfl, hend.out, hoff.out⟩
    · have hi0 : i < 0 := hi.2 hc
      have hn : nextP l (c :: r) bad = (0, [], true) := if_neg hc
      replace hi := Lib.hid hi; replace hc := Lib.hid hc; replace hn := Lib.hid hn
      go_wp2_with fail
      go_ret
      rw [hn.out]
      exact ⟨rfl, hendn.out, hoffn.out⟩
end Go.Proofs.YtcklmkjlbpjojaaGreatDoor
namespace Go.Proofs.YtcklmkjlbpjojaaGreatDoor
open Go.RowKit
set_option linter.unusedSimpArgs false
set_option linter.unusedVariables false

def dig (c : UInt8) : Bool := decide (48 ≤ c.toNat) && decide (c.toNat ≤ 57)
def valD (l : List UInt8) : Nat := l.foldl (fun n c => 10 * n + (c.toNat - 48)) 0
/-- number, as a function. -/
def numP (s : List UInt8) (bad : Bool) : Nat × List UInt8 × Bool :=
  if (s.takeWhile dig).length = 0 ∨ 9 < (s.takeWhile dig).length ∨ (1 < (s.takeWhile dig).length ∧ s.head? = some 48) then (0, [], true)
  else (valD (s.takeWhile dig), s.drop (s.takeWhile dig).length, bad)
theorem valD_snoc (l : List UInt8) (c : UInt8) : valD (l ++ [c]) = 10 * valD l + (c.toNat - 48) := by simp [valD]
theorem fold_lt (l : List UInt8) (h : ∀ c ∈ l, dig c = true) : ∀ n, l.foldl (fun n c => 10 * n + (c.toNat - 48)) n + 1 ≤ (n + 1) * 10 ^ l.length := by
  induction l with
  | nil => intro n; simp
  | cons c l ih =>
    intro n
    rw [List.foldl_cons, List.length_cons, Nat.pow_succ]
    have h2 := h c (by simp)
    simp only [dig, Bool.and_eq_true, decide_eq_true_eq] at h2
    have h3 := ih (fun x hx => h x (by simp [hx])) (10 * n + (c.toNat - 48))
    have h4 : (10 * n + (c.toNat - 48) + 1) * 10 ^ l.length ≤ (10 * (n + 1)) * 10 ^ l.length := Nat.mul_le_mul_right _ (by omega)
    have h5 : (n + 1) * (10 ^ l.length * 10) = (10 * (n + 1)) * 10 ^ l.length := by rw [Nat.mul_comm (10 ^ l.length) 10, ← Nat.mul_assoc, Nat.mul_comm (n + 1) 10]
    omega
theorem valD_lt (l : List UInt8) (h : ∀ c ∈ l, dig c = true) : valD l < 10 ^ l.length := by
  have := fold_lt l h 0
  unfold valD
  omega
theorem tw_take {s : List UInt8} {j : Nat} (h : ∀ c ∈ s.take j, dig c = true) (h2 : s.length ≤ j ∨ ∃ c, s[j]? = some c ∧ dig c = false) : s.takeWhile dig = s.take j := by
  have e : s = s.take j ++ s.drop j := (List.take_append_drop j s).symm
  conv => lhs; rw [e]
  rw [List.takeWhile_append_of_pos h]
  rcases h2 with h2 | ⟨c, hc, hd⟩
  · rw [List.drop_of_length_le h2]; simp
  · obtain ⟨q1, q2⟩ := List.getElem?_eq_some_iff.1 hc
    rw [List.drop_eq_getElem_cons q1, q2, List.takeWhile_cons, hd]; simp
theorem tw_ge {s : List UInt8} {j : Nat} (h : ∀ c ∈ s.take j, dig c = true) (hj : j ≤ s.length) : j ≤ (s.takeWhile dig).length := by
  have e : s = s.take j ++ s.drop j := (List.take_append_drop j s).symm
  conv => rhs; rw [e]
  rw [List.takeWhile_append_of_pos h, List.length_append, List.length_take]
  omega
theorem pow9 {n : Nat} (h : n ≤ 9) : 10 ^ n ≤ 1000000000 := by
  have := Nat.pow_le_pow_right (n := 10) (by omega) h
  exact this

theorem num_exit {s : List UInt8} {bad : Bool} {j : Nat} (hj : j ≤ s.length) (hj9 : j ≤ 9) (h : ∀ c ∈ s.take j, dig c = true) (h2 : s.length ≤ j ∨ ∃ c, s[j]? = some c ∧ dig c = false) :
    numP s bad = if j = 0 ∨ (1 < j ∧ s.head? = some 48) then (0, [], true) else (valD (s.take j), s.drop j, bad) := by
  have e := tw_take h h2
  have hl : (s.takeWhile dig).length = j := by rw [e, List.length_take]; omega
  unfold numP
  rw [hl, e]
  by_cases hc : j = 0 ∨ (1 < j ∧ s.head? = some 48)
  · rw [if_pos hc, if_pos (by rcases hc with h | h; exact .inl h; exact .inr (.inr h))]
  · rw [if_neg hc, if_neg (by rintro (h | h | h); exact hc (.inl h); omega; exact hc (.inr h))]

set_option maxHeartbeats 400000 in
set_option maxRecDepth 100000 in
theorem number_any (rb : Nat) (s : List UInt8) (bad : Bool) (w : World) (hR : Rdr rb s bad w) (hs : s.length ≤ 5000) :
    Calls Tryz.prog 85 #[ptr rb] w fun e w' => e = .returned (.int .i64 (numP s bad).1) ∧ Rdr rb (numP s bad).2.1 (numP s bad).2.2 w' ∧ Off [rb] w w' := by
  have c0 := hR.c0
  have c1 := hR.c1
  have f0 := free_of_heap hR 0
  have f1 := free_of_heap hR 1
  obtain ⟨S, hS⟩ : ∃ S, S = st s := ⟨_, rfl⟩
  rw [← hS] at c0
  obtain ⟨len, hlen⟩ : ∃ len, len = s.length := ⟨_, rfl⟩
  have hZ : S.size = len := by rw [hS, st_size, hlen]
  rw [← hlen] at hs
  have hG : ∀ (j : Nat) (c : UInt8), s[j]? = some c → ∀ h, S[j]'h = c := by
    subst hS
    intro j c hc h
    obtain ⟨q1, q2⟩ := List.getElem?_eq_some_iff.1 hc
    exact q2
  have hbadE : Rdr rb [] true ((w.setCell ⟨rb, 1, none⟩ (.bool true)).setCell ⟨rb, 0, none⟩ (.string ⟨#[]⟩)) ∧ Off [rb] w ((w.setCell ⟨rb, 1, none⟩ (.bool true)).setCell ⟨rb, 0, none⟩ (.string ⟨#[]⟩)) := ⟨hR.set1.set0, (Off.set w ⟨rb, 1, none⟩ _).trans (Off.set _ ⟨rb, 0, none⟩ _) (by simp)⟩
  have hokE : ∀ k, Rdr rb (s.drop k) bad (w.setCell ⟨rb, 0, none⟩ (.string (S.extract k len))) ∧ Off [rb] w (w.setCell ⟨rb, 0, none⟩ (.string (S.extract k len))) := fun k => by
    rw [hS, st_drop s k len hlen]
    exact ⟨hR.set0, Off.set w ⟨rb, 0, none⟩ _⟩
  unfold ptr
  replace hR := Lib.hid hR; replace hS := Lib.hid hS; replace hlen := Lib.hid hlen; replace hG := Lib.hid hG; replace hbadE := Lib.hid hbadE; replace hokE := Lib.hid hokE
  go_enter Tryz.func85, Tryz.ntmps85
  go_wp2_with fail
  go_loopw [3, 4] (fun nv iv wr => ∃ (j n : Nat), j ≤ 9 ∧ j ≤ len ∧ n ≤ 1000000000 ∧ nv = .int .i64 n ∧ iv = .int .i64 j ∧ wr = w ∧ Hid (n = valD (s.take j) ∧ ∀ c ∈ s.take j, dig c = true)) (fun _ iv _ => 20 - (intOf iv).toNat)
  case atStart => exact ⟨0, 0, by omega, by omega, by omega, rfl, rfl, rfl, Lib.hid ⟨rfl, by simp⟩⟩
  case round =>
    obtain ⟨j, n, hj9, hjl, hn9, rfl, rfl, rfl, hI⟩ := hrel
    by_cases hlt : j < len
    · obtain ⟨c, hc⟩ : ∃ c, s[j]? = some c := ⟨s[j]'(by rw [← hlen.out]; exact hlt), List.getElem?_eq_getElem _⟩
      have hg := hG.out j c hc
      have hc255 : (c.toNat : Int) ≤ 255 := by have := c.toNat_lt; omega
      have hc0 : (0 : Int) ≤ (c.toNat : Int) := by omega
      have hjl2 : (j : Int) < (len : Int) := by omega
      have hwi : IntKind.i64.wrap ((j : Int) + 1) = (j : Int) + 1 := by rw [IntKind.wrap_i64]; omega
      by_cases hd : 48 ≤ c.toNat ∧ c.toNat ≤ 57
      · have hdc : dig c = true := by simp only [dig, Bool.and_eq_true, decide_eq_true_eq]; exact hd
        obtain ⟨hd1, hd2⟩ : (48 : Int) ≤ (c.toNat : Int) ∧ (c.toNat : Int) ≤ 57 := by omega
        have hw8 : IntKind.u8.wrap ((c.toNat : Int) - 48) = (c.toNat : Int) - 48 := by rw [IntKind.wrap_u8]; omega
        have hw10 : IntKind.i64.wrap (10 * (n : Int)) = 10 * (n : Int) := by rw [IntKind.wrap_i64]; omega
        have hw11 : IntKind.i64.wrap (10 * (n : Int) + ((c.toNat : Int) - 48)) = 10 * (n : Int) + ((c.toNat : Int) - 48) := by rw [IntKind.wrap_i64]; omega
        have hn' : 10 * n + (c.toNat - 48) = valD (s.take (j + 1)) ∧ ∀ x ∈ s.take (j + 1), dig x = true := by
          rw [take_succ' hc]
          refine ⟨by rw [valD_snoc, ← hI.out.1], fun x hx => ?_⟩
          rcases List.mem_append.1 hx with hx | hx
          · exact hI.out.2 x hx
          · simp at hx; subst hx; exact hdc
        replace hn' := Lib.hid hn'; replace hd := Lib.hid hd; replace hc := Lib.hid hc
        by_cases hj9' : j = 9
        · have hbad : numP s bad = (0, [], true) := by
            unfold numP
            rw [if_pos]
            refine .inr (.inl ?_)
            have := tw_ge hn'.out.2 (by rw [← hlen.out]; omega)
            omega
          have hjj : (9 : Int) < (j : Int) + 1 := by omega
          replace hbad := Lib.hid hbad; replace hj9' := Lib.hid hj9'
          go_wp2_with fail
          go_ret
          rw [hbad.out]
          exact ⟨rfl, hbadE.out⟩
        · have hjj : ¬ ((9 : Int) < (j : Int) + 1) := by omega
          replace hj9' := Lib.hid hj9'
          go_wp2_with fail
          refine ⟨⟨j + 1, 10 * n + (c.toNat - 48), by have := hj9'.out; omega, by omega, ?_, ?_, by go_num, trivial, hn'⟩, by simp [intOf]; omega⟩
          · rw [hn'.out.1]
            have h1 := valD_lt _ hn'.out.2
            have h2 : (s.take (j + 1)).length = j + 1 := by rw [List.length_take, ← hlen.out]; omega
            have h3 := pow9 (n := j + 1) (by have := hj9'.out; omega)
            rw [h2] at h1
            omega
          · congr 1; have := hd.out; omega
      · have hdc : dig c = false := by
          cases h : dig c with
          | false => rfl
          | true => simp only [dig, Bool.and_eq_true, decide_eq_true_eq] at h; exact absurd h hd
        have hex := num_exit (bad := bad) (by rw [← hlen.out]; omega) hj9 hI.out.2 (.inr ⟨c, hc, hdc⟩)
        replace hdc := Lib.hid hdc; replace hc := Lib.hid hc
        rcases Nat.lt_or_ge c.toNat 48 with hcl | hcl
        · have hd1 : ¬ ((48 : Int) ≤ (c.toNat : Int)) := by omega
          replace hd := Lib.hid hd; replace hcl := Lib.hid hcl
          rcases Nat.eq_zero_or_pos j with hj0 | hjp
          · have hbad : numP s bad = (0, [], true) := by rw [hex, if_pos (.inl hj0)]
            have hjz : ((j : Int) == 0) = true := by rw [hj0]; rfl
            replace hbad := Lib.hid hbad; replace hj0 := Lib.hid hj0
            clear hex
            go_wp2_with fail
            go_ret
            rw [hbad.out]
            exact ⟨rfl, hbadE.out⟩
          · have hjz : ((j : Int) == 0) = false := beq_eq_false_iff_ne.2 (by omega)
            have hj10 : ¬ ((9 : Int) < (j : Int)) := by omega
            obtain ⟨d, hd0⟩ : ∃ d, s[0]? = some d := ⟨s[0]'(by rw [← hlen.out]; omega), List.getElem?_eq_getElem _⟩
            have hgd := hG.out 0 d hd0
            have hhead : s.head? = some d := by rw [List.head?_eq_getElem?]; exact hd0
            have hlpos : 0 < len := by omega
            have hoke := hokE.out j
            by_cases hcnd : 1 < j ∧ d.toNat = 48
            · obtain ⟨k1, k2⟩ := hcnd
              have hbad : numP s bad = (0, [], true) := by
                have hh48 : s.head? = some 48 := by rw [hhead]; exact congrArg some (UInt8.toNat_inj.1 k2)
                rw [hex, if_pos (.inr ⟨k1, hh48⟩)]
              have k3 : (1 : Int) < (j : Int) := by omega
              have k4 : ((d.toNat : Int) == 48) = true := by rw [k2]; rfl
              replace hbad := Lib.hid hbad; replace k1 := Lib.hid k1; replace k2 := Lib.hid k2; replace hhead := Lib.hid hhead; replace hd0 := Lib.hid hd0; replace hoke := Lib.hid hoke
              clear hex
              go_wp2_with fail
              go_ret
              rw [hbad.out]
              exact ⟨rfl, hbadE.out⟩
            · have hok : numP s bad = (n, s.drop j, bad) := by
                rw [hex, if_neg ?_, ← hI.out.1]
                rintro (h | ⟨h1, h2⟩)
                · omega
                · rw [hhead] at h2
                  injection h2 with h2
                  exact hcnd ⟨h1, by rw [h2]; rfl⟩
              have hcnd2 : ¬ (1 : Int) < (j : Int) ∨ ((d.toNat : Int) == 48) = false := by
                rcases Nat.lt_or_ge 1 j with h | h
                · right; exact beq_eq_false_iff_ne.2 (fun e => hcnd ⟨h, by omega⟩)
                · left; omega
              replace hok := Lib.hid hok; replace hcnd := Lib.hid hcnd; replace hhead := Lib.hid hhead; replace hd0 := Lib.hid hd0; replace hoke := Lib.hid hoke
              clear hex
              by_cases k3 : (1 : Int) < (j : Int)
              · have k4 : ((d.toNat : Int) == 48) = false := by rcases hcnd2 with h | h; exact absurd k3 h; exact h
                clear hcnd2
                go_wp2_with fail
                go_ret
                rw [hok.out]
                exact ⟨rfl, hoke.out⟩
              · clear hcnd2
                go_wp2_with fail
                go_ret
                rw [hok.out]
                exact ⟨rfl, hoke.out⟩
        · have hd1 : (48 : Int) ≤ (c.toNat : Int) := by omega
          have hd2 : ¬ ((c.toNat : Int) ≤ 57) := by omega
          replace hd := Lib.hid hd; replace hcl := Lib.hid hcl
          rcases Nat.eq_zero_or_pos j with hj0 | hjp
          · have hbad : numP s bad = (0, [], true) := by rw [hex, if_pos (.inl hj0)]
            have hjz : ((j : Int) == 0) = true := by rw [hj0]; rfl
            replace hbad := Lib.hid hbad; replace hj0 := Lib.hid hj0
            clear hex
            go_wp2_with fail
            go_ret
            rw [hbad.out]
            exact ⟨rfl, hbadE.out⟩
          · have hjz : ((j : Int) == 0) = false := beq_eq_false_iff_ne.2 (by omega)
            have hj10 : ¬ ((9 : Int) < (j : Int)) := by omega
            obtain ⟨d, hd0⟩ : ∃ d, s[0]? = some d := ⟨s[0]'(by rw [← hlen.out]; omega), List.getElem?_eq_getElem _⟩
            have hgd := hG.out 0 d hd0
            have hhead : s.head? = some d := by rw [List.head?_eq_getElem?]; exact hd0
            have hlpos : 0 < len := by omega
            have hoke := hokE.out j
            by_cases hcnd : 1 < j ∧ d.toNat = 48
            · obtain ⟨k1, k2⟩ := hcnd
              have hbad : numP s bad = (0, [], true) := by
                have hh48 : s.head? = some 48 := by rw [hhead]; exact congrArg some (UInt8.toNat_inj.1 k2)
                rw [hex, if_pos (.inr ⟨k1, hh48⟩)]
              have k3 : (1 : Int) < (j : Int) := by omega
              have k4 : ((d.toNat : Int) == 48) = true := by rw [k2]; rfl
              replace hbad := Lib.hid hbad; replace k1 := Lib.hid k1; replace k2 := Lib.hid k2; replace hhead := Lib.hid hhead; replace hd0 := Lib.hid hd0; replace hoke := Lib.hid hoke
              clear hex
              go_wp2_with fail
              go_ret
              rw [hbad.out]
              exact ⟨rfl, hbadE.out⟩
            · have hok : numP s bad = (n, s.drop j, bad) := by
                rw [hex, if_neg ?_, ← hI.out.1]
                rintro (h | ⟨h1, h2⟩)
                · omega
                · rw [hhead] at h2
                  injection h2 with h2
                  exact hcnd ⟨h1, by rw [h2]; rfl⟩
              have hcnd2 : ¬ (1 : Int) < (j : Int) ∨ ((d.toNat : Int) == 48) = false := by
                rcases Nat.lt_or_ge 1 j with h | h
                · right; exact beq_eq_false_iff_ne.2 (fun e => hcnd ⟨h, by omega⟩)
                · left; omega
              replace hok := Lib.hid hok; replace hcnd := Lib.hid hcnd; replace hhead := Lib.hid hhead; replace hd0 := Lib.hid hd0; replace hoke := Lib.hid hoke
              clear hex
              by_cases k3 : (1 : Int) < (j : Int)
              · have k4 : ((d.toNat : Int) == 48) = false := by rcases hcnd2 with h | h; exact absurd k3 h; exact h
                clear hcnd2
                go_wp2_with fail
                go_ret
                rw [hok.out]
                exact ⟨rfl, hoke.out⟩
              · clear hcnd2
                go_wp2_with fail
                go_ret
                rw [hok.out]
                exact ⟨rfl, hoke.out⟩
    · have hjl2 : ¬ ((j : Int) < (len : Int)) := by omega
      have hex := num_exit (bad := bad) (by rw [← hlen.out]; omega) hj9 hI.out.2 (.inl (by rw [← hlen.out]; omega))
      rcases Nat.eq_zero_or_pos j with hj0 | hjp
      · have hbad : numP s bad = (0, [], true) := by rw [hex, if_pos (.inl hj0)]
        have hjz : ((j : Int) == 0) = true := by rw [hj0]; rfl
        replace hbad := Lib.hid hbad; replace hj0 := Lib.hid hj0
        clear hex
        go_wp2_with fail
        go_ret
        rw [hbad.out]
        exact ⟨rfl, hbadE.out⟩
      · have hjz : ((j : Int) == 0) = false := beq_eq_false_iff_ne.2 (by omega)
        have hj10 : ¬ ((9 : Int) < (j : Int)) := by omega
        obtain ⟨d, hd0⟩ : ∃ d, s[0]? = some d := ⟨s[0]'(by rw [← hlen.out]; omega), List.getElem?_eq_getElem _⟩
        have hgd := hG.out 0 d hd0
        have hhead : s.head? = some d := by rw [List.head?_eq_getElem?]; exact hd0
        have hlpos : 0 < len := by omega
        have hoke := hokE.out j
        by_cases hcnd : 1 < j ∧ d.toNat = 48
        · obtain ⟨k1, k2⟩ := hcnd
          have hbad : numP s bad = (0, [], true) := by
            have hh48 : s.head? = some 48 := by rw [hhead]; exact congrArg some (UInt8.toNat_inj.1 k2)
            rw [hex, if_pos (.inr ⟨k1, hh48⟩)]
          have k3 : (1 : Int) < (j : Int) := by omega
          have k4 : ((d.toNat : Int) == 48) = true := by rw [k2]; rfl
          replace hbad := Lib.hid hbad; replace k1 := Lib.hid k1; replace k2 := Lib.hid k2; replace hhead := Lib.hid hhead; replace hd0 := Lib.hid hd0; replace hoke := Lib.hid hoke
          clear hex
          go_wp2_with fail
          go_ret
          rw [hbad.out]
          exact ⟨rfl, hbadE.out⟩
        · have hok : numP s bad = (n, s.drop j, bad) := by
            rw [hex, if_neg ?_, ← hI.out.1]
            rintro (h | ⟨h1, h2⟩)
            · omega
            · rw [hhead] at h2
              injection h2 with h2
              exact hcnd ⟨h1, by rw [h2]; rfl⟩
          have hcnd2 : ¬ (1 : Int) < (j : Int) ∨ ((d.toNat : Int) == 48) = false := by
            rcases Nat.lt_or_ge 1 j with h | h
            · right; exact beq_eq_false_iff_ne.2 (fun e => hcnd ⟨h, by omega⟩)
            · left; omega
          replace hok := Lib.hid hok; replace hcnd := Lib.hid hcnd; replace hhead := Lib.hid hhead; replace hd0 := Lib.hid hd0; replace hoke := Lib.hid hoke
          clear hex
          by_cases k3 : (1 : Int) < (j : Int)
          · have k4 : ((d.toNat : Int) == 48) = false := by rcases hcnd2 with h | h; exact absurd k3 h; exact h
            clear hcnd2
            go_wp2_with fail
            go_ret
            rw [hok.out]
            exact ⟨rfl, hoke.out⟩
          · clear hcnd2
            go_wp2_with fail
            go_ret
            rw [hok.out]
            exact ⟨rfl, hoke.out⟩
end Go.Proofs.YtcklmkjlbpjojaaGreatDoor
