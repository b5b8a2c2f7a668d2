/- Format: strings.Trim with one star as its set: what is left is empty just if all bytes are stars. -/
import Derived.Test.YtfhdfhlabkeipaaGreatDoorC2
namespace Go.Proofs.YtfhdfhlabkeipaaGreatDoor
open Go.RowKit
set_option linter.unusedSimpArgs false
set_option linter.unusedVariables false

theorem st_ext (l : B) (a b : Nat) : (st l).extract a b = st ((l.take b).drop a) := by
  rw [Lib.extract_eq]
  have e : (st l).data.toList = l := by simp [st]
  rw [e]
  first | rfl | (simp [st, List.drop_take])
theorem st_drop (l : B) (k n : Nat) (hn : n = l.length) : (st l).extract k n = st (l.drop k) := by
  rw [st_ext, List.take_of_length_le (by omega)]
theorem st_take (l : B) (k : Nat) : (st l).extract 0 k = st (l.take k) := by
  rw [st_ext, List.drop_zero]
theorem st_nil_iff (l : B) : (st l).toList = [] ↔ l = [] := by
  cases l with
  | nil => simp [st]
  | cons a r =>
    constructor
    · intro h
      have := congrArg List.length h
      simp [st] at this
    · intro h; cases h

def isStar (c : UInt8) : Bool := c == 42
def trimLL (l : B) : B := l.dropWhile isStar
def trimRL (l : B) : B := (l.reverse.dropWhile isStar).reverse
theorem dw_rep (k : Nat) (l : B) (h : l = [] ∨ ∃ c, l[0]? = some c ∧ c ≠ 42) : (List.replicate k 42 ++ l).dropWhile isStar = l := by
  induction k with
  | zero =>
    rw [List.replicate_zero, List.nil_append]
    rcases h with rfl | ⟨c, h, hc⟩
    · rfl
    · cases l with
      | nil => rfl
      | cons a r =>
        simp at h
        subst h
        rw [List.dropWhile_cons_of_neg]
        simp [isStar, hc]
  | succ k ih => rw [List.replicate_succ, List.cons_append, List.dropWhile_cons_of_pos (by simp [isStar])]; exact ih
theorem trimLL_eq {l l' : B} {k : Nat} (h : l = List.replicate k 42 ++ l') (h2 : l' = [] ∨ ∃ c, l'[0]? = some c ∧ c ≠ 42) : trimLL l = l' := by
  rw [h]; exact dw_rep k l' h2
theorem trimRL_eq {l l' : B} {k : Nat} (h : l = l' ++ List.replicate k 42) (h2 : l' = [] ∨ ∃ m c, l'.length = m + 1 ∧ l'[m]? = some c ∧ c ≠ 42) : trimRL l = l' := by
  unfold trimRL
  rw [h, List.reverse_append, List.reverse_replicate, dw_rep k _ ?_, List.reverse_reverse]
  rcases h2 with rfl | ⟨m, c, h3, h4, h5⟩
  · exact .inl rfl
  · refine .inr ⟨c, ?_, h5⟩
    rw [List.getElem?_reverse (by omega), h3]
    simpa using h4
theorem trim_len (l : B) : (trimRL l).length ≤ l.length := by
  unfold trimRL
  rw [List.length_reverse]
  have : ∀ x : B, (x.dropWhile isStar).length ≤ x.length := fun x => (List.dropWhile_sublist isStar).length_le
  have := this l.reverse
  rwa [List.length_reverse] at this

set_option maxHeartbeats 1000000 in
theorem trimR_any (l : B) (w : World) (hl : l.length ≤ 1000000) :
    Calls Tryz.prog 29 #[.string (st l), .int .u8 42] w fun e w' => e = .returned (.string (st (trimRL l))) ∧ w' = w := by
  go_enter Tryz.func29, Tryz.ntmps29
  go_wp2_with fail
  go_loopw [0] (fun sv wr => ∃ (l' : B) (k : Nat), sv = .string (st l') ∧ wr = w ∧ Hid (l = l' ++ List.replicate k 42) ∧ l'.length ≤ 1000000) (fun sv _ => match sv with | .string s => s.size | _ => 0)
  case atStart => exact ⟨l, 0, rfl, rfl, Lib.hid (by simp), hl⟩
  case round =>
    obtain ⟨l', k, rfl, rfl, hI, hl'⟩ := hrel
    obtain ⟨S, hS⟩ : ∃ S, S = st l' := ⟨_, rfl⟩
    obtain ⟨n, hn⟩ : ∃ n, n = l'.length := ⟨_, rfl⟩
    have hZ : S.size = n := by rw [hS, st_size, hn]
    have hZ' : (st l').size = n := by rw [st_size, hn]
    rw [← hn] at hl'
    have hle : n ≤ l.length := by rw [hI.out, List.length_append, hn]; omega
    rcases n with _ | m
    · have hl0 : l' = [] := List.eq_nil_of_length_eq_zero hn.symm
      rw [← hS]
      replace hS := Lib.hid hS; replace hn := Lib.hid hn; replace hle := Lib.hid hle
      go_wp2_with fail
      go_ret
      exact ⟨by rw [trimRL_eq hI.out (.inl (List.eq_nil_of_length_eq_zero hn.out.symm)), hS.out]; rfl, rfl⟩
    · obtain ⟨c, hc⟩ : ∃ c, l'[m]? = some c := ⟨l'[m]'(by omega), List.getElem?_eq_getElem _⟩
      have hg := get_at hc hS
      have hwm : IntKind.i64.wrap (((m + 1 : Nat) : Int) - 1) = (m : Int) := by rw [IntKind.wrap_i64]; omega
      have ht : l'.take m ++ [c] = l' := by rw [← take_at hc, List.take_of_length_le (by omega)]
      have hex : S.extract 0 m = st (l'.take m) := by rw [hS, st_take]
      by_cases h42 : c = 42
      · have e42 : (c.toNat : Int) = 42 := u8_eq (n := 42) (by omega) h42
        have hI' : l = l'.take m ++ List.replicate (k + 1) 42 := by
          rw [hI.out]
          conv => lhs; rw [← ht]
          rw [h42, List.append_assoc]
          rfl
        have hlt : (l'.take m).length = m := by rw [List.length_take]; omega
        rw [← hS]
        replace hS := Lib.hid hS; replace hn := Lib.hid hn; replace hle := Lib.hid hle; replace hc := Lib.hid hc; replace ht := Lib.hid ht; replace hI' := Lib.hid hI'; replace h42 := Lib.hid h42; replace hex := Lib.hid hex; replace hZ' := Lib.hid hZ'; replace hlt := Lib.hid hlt
        go_wp2_with fail
        refine ⟨⟨l'.take m, k + 1, by first | rw [hex.out] | simp [hex.out], by first | trivial | rfl, hI', by rw [hlt.out]; omega⟩, ?_⟩
        have := hex.out
        simp [this, st_size]
        have := hlt.out
        have := hn.out
        omega
      · have e42 : ¬ ((c.toNat : Int) = 42) := u8_ne (n := 42) (by omega) h42
        rw [← hS]
        replace hS := Lib.hid hS; replace hn := Lib.hid hn; replace hle := Lib.hid hle; replace hc := Lib.hid hc; replace ht := Lib.hid ht; replace h42 := Lib.hid h42; replace hex := Lib.hid hex; replace hZ' := Lib.hid hZ'
        go_wp2_with fail
        go_ret
        exact ⟨by rw [trimRL_eq hI.out (.inr ⟨m, c, hn.out.symm, hc.out, h42.out⟩), hS.out]; rfl, rfl⟩
set_option maxHeartbeats 1000000 in
theorem trimL_any (l : B) (w : World) (hl : l.length ≤ 1000000) :
    Calls Tryz.prog 28 #[.string (st l), .int .u8 42] w fun e w' => e = .returned (.string (st (trimLL l))) ∧ w' = w := by
  go_enter Tryz.func28, Tryz.ntmps28
  go_wp2_with fail
  go_loopw [0] (fun sv wr => ∃ (l' : B) (k : Nat), sv = .string (st l') ∧ wr = w ∧ Hid (l = List.replicate k 42 ++ l') ∧ l'.length ≤ 1000000) (fun sv _ => match sv with | .string s => s.size | _ => 0)
  case atStart => exact ⟨l, 0, rfl, rfl, Lib.hid (by simp), hl⟩
  case round =>
    obtain ⟨l', k, rfl, rfl, hI, hl'⟩ := hrel
    obtain ⟨S, hS⟩ : ∃ S, S = st l' := ⟨_, rfl⟩
    obtain ⟨n, hn⟩ : ∃ n, n = l'.length := ⟨_, rfl⟩
    have hZ : S.size = n := by rw [hS, st_size, hn]
    have hZ' : (st l').size = n := by rw [st_size, hn]
    rw [← hn] at hl'
    rcases n with _ | m
    · have hl0 : l' = [] := List.eq_nil_of_length_eq_zero hn.symm
      rw [← hS]
      replace hS := Lib.hid hS; replace hn := Lib.hid hn; replace hl0 := Lib.hid hl0; replace hZ' := Lib.hid hZ'
      go_wp2_with fail
      go_ret
      exact ⟨by rw [trimLL_eq hI.out (.inl hl0.out), hS.out]; rfl, rfl⟩
    · obtain ⟨c, hc⟩ : ∃ c, l'[0]? = some c := ⟨l'[0]'(by omega), List.getElem?_eq_getElem _⟩
      have hg := get_at hc hS
      have hd := drop_at hc
      rw [List.drop_zero, Nat.zero_add] at hd
      have hex : S.extract 1 (m + 1) = st (l'.drop 1) := by rw [hS, st_drop _ _ _ hn]
      by_cases h42 : c = 42
      · have e42 : (c.toNat : Int) = 42 := u8_eq (n := 42) (by omega) h42
        have hI' : l = List.replicate (k + 1) 42 ++ l'.drop 1 := by
          rw [hI.out]
          conv => lhs; rw [hd]
          rw [h42, List.replicate_succ', List.append_assoc]
          rfl
        have hlt : (l'.drop 1).length = m := by rw [List.length_drop]; omega
        rw [← hS]
        replace hS := Lib.hid hS; replace hn := Lib.hid hn; replace hc := Lib.hid hc; replace hd := Lib.hid hd; replace hI' := Lib.hid hI'; replace h42 := Lib.hid h42; replace hex := Lib.hid hex; replace hZ' := Lib.hid hZ'; replace hlt := Lib.hid hlt
        go_wp2_with fail
        refine ⟨⟨l'.drop 1, k + 1, by first | rw [hex.out] | simp [hex.out], by first | trivial | rfl, hI', by rw [hlt.out]; omega⟩, ?_⟩
        have := hex.out
        simp [this, st_size]
        have := hlt.out
        have := hn.out
        omega
      · have e42 : ¬ ((c.toNat : Int) = 42) := u8_ne (n := 42) (by omega) h42
        have hfin : ∃ c, l'[0]? = some c ∧ c ≠ 42 := ⟨c, hc, h42⟩
        rw [← hS]
        replace hS := Lib.hid hS; replace hn := Lib.hid hn; replace hc := Lib.hid hc; replace hd := Lib.hid hd; replace h42 := Lib.hid h42; replace hex := Lib.hid hex; replace hZ' := Lib.hid hZ'; replace hfin := Lib.hid hfin
        go_wp2_with fail
        go_ret
        exact ⟨by rw [trimLL_eq hI.out (.inr hfin.out), hS.out]; rfl, rfl⟩
theorem stars_app (a b : B) : stars (a ++ b) = (stars a && stars b) := by simp [stars]
theorem stars_rep (k : Nat) : stars (List.replicate k 42) = true := by simp [stars]
theorem stars_head {l : B} {c : UInt8} (h : l[0]? = some c) (hc : c ≠ 42) : stars l = false := by
  cases l with
  | nil => simp at h
  | cons a r =>
    simp at h
    subst h
    simp [stars, hc]

theorem dw_nil : ∀ l : B, l.dropWhile isStar = [] ↔ stars l = true
  | [] => by simp [stars]
  | a :: r => by
    by_cases h : a = 42
    · subst h
      rw [List.dropWhile_cons_of_pos (by simp [isStar]), dw_nil r]
      simp [stars]
    · rw [List.dropWhile_cons_of_neg (by simp [isStar, h])]
      simp [stars, h]
theorem stars_rev (l : B) : stars l.reverse = stars l := by simp [stars]
theorem trim_nil (l : B) : trimLL (trimRL l) = [] ↔ stars l = true := by
  unfold trimLL
  rw [dw_nil]
  obtain ⟨k, hk⟩ : ∃ k, l = trimRL l ++ List.replicate k 42 := by
    unfold trimRL
    have h := List.takeWhile_append_dropWhile (p := isStar) (l := l.reverse)
    have h2 : l = (l.reverse.dropWhile isStar).reverse ++ (l.reverse.takeWhile isStar).reverse := by rw [← List.reverse_append, h, List.reverse_reverse]
    refine ⟨(l.reverse.takeWhile isStar).length, ?_⟩
    have h3 : ∀ x : B, (∀ c ∈ x, c = 42) → x.reverse = List.replicate x.length 42 := fun x hx => by
      rw [List.eq_replicate_iff]
      exact ⟨by simp, fun c hc => hx c (by simpa using hc)⟩
    rw [← h3 _ fun c hc => by have := List.all_takeWhile (p := isStar) (l := l.reverse); rw [List.all_eq_true] at this; simpa [isStar] using this c hc]
    exact h2
  conv => rhs; rw [hk, stars_app, stars_rep, Bool.and_true]

set_option maxHeartbeats 1000000 in
set_option maxRecDepth 100000 in
theorem trim_any (l : B) (w : World) (hl : l.length ≤ 1000000) :
    Calls Tryz.prog 22 #[.string (st l), .string ⟨#[42]⟩] w fun e w' => e = .returned (.string (st (trimLL (trimRL l)))) ∧ w.grownBy w' none := by
  rcases l with _ | ⟨a, r⟩
  · rw [show st [] = ⟨#[]⟩ from rfl]
    go_enter Tryz.func22, Tryz.ntmps22
    go_wp2_with fail
    go_ret
    exact ⟨rfl, World.grownBy.refl _ _⟩
  · have CR : Hid (∀ n, Calls Tryz.prog 29 #[.string (st (a :: r)), .int .u8 42] (w.drewN n) fun e w' => e = .returned (.string (st (trimRL (a :: r)))) ∧ ∃ k, w' = w.drewN k) := Lib.hid fun n => (trimR_any (a :: r) _ hl).mono fun e w' h => ⟨h.1, n, h.2⟩
    have CL : Hid (∀ n, Calls Tryz.prog 28 #[.string (st (trimRL (a :: r))), .int .u8 42] (w.drewN n) fun e w' => e = .returned (.string (st (trimLL (trimRL (a :: r))))) ∧ ∃ k, w' = w.drewN k) := Lib.hid fun n => (trimL_any _ _ (Nat.le_trans (trim_len _) hl)).mono fun e w' h => ⟨h.1, n, h.2⟩
    have hne : (st (a :: r)).toList.isEmpty = false := by
      cases h : (st (a :: r)).toList with
      | nil => have := (st_nil_iff _).1 h; cases this
      | cons _ _ => rfl
    obtain ⟨L, hL⟩ : ∃ L, L = a :: r := ⟨_, rfl⟩
    rw [← hL] at CR CL hne hl ⊢
    obtain ⟨S, hS⟩ : ∃ S, S = st L := ⟨_, rfl⟩
    rw [← hS] at CR hne ⊢
    obtain ⟨S1, hS1⟩ : ∃ S1, S1 = st (trimRL L) := ⟨_, rfl⟩
    rw [← hS1] at CR CL
    obtain ⟨S2, hS2⟩ : ∃ S2, S2 = st (trimLL (trimRL L)) := ⟨_, rfl⟩
    rw [← hS2] at CL ⊢
    replace hL := Lib.hid hL; replace hS := Lib.hid hS; replace hS1 := Lib.hid hS1; replace hS2 := Lib.hid hS2
    go_enter Tryz.func22, Tryz.ntmps22
    go_upto_region 4 with fail
    go_big_quiet ((first | (go_at_call 29; exact CR.out _) | (go_at_call 28; exact CL.out _)))
    go_wp2_with fail
    go_ret
    exact ⟨rfl, g_drewN _ _⟩
end Go.Proofs.YtfhdfhlabkeipaaGreatDoor
