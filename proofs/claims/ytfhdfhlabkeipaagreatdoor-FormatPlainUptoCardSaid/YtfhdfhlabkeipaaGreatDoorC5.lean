/- Format: the small functions: True, flag, must, short, named. -/
import Derived.Test.YtfhdfhlabkeipaaGreatDoorC4
namespace Go.Proofs.YtfhdfhlabkeipaaGreatDoor
open Go.RowKit
set_option linter.unusedSimpArgs false
set_option linter.unusedVariables false

/-- An error that is given up with. -/
def Pan (e : Int) : Ending := .panicked [{ v := .iface 29 (.int .i64 e), recovered := false }]
theorem st_inj {a b : B} (h : st a = st b) : a = b := by
  have := congrArg sl h
  rwa [sl_st, sl_st] at this
theorem st_toList (l : B) : (st l).toList = l := by simp [st]
theorem eq_str (a b : B) : ((st a).toList == (st b).toList) = (a == b) := by rw [st_toList, st_toList]

theorem flag_any (b : Bool) (w : World) : Calls Tryz.prog 56 #[.bool b] w fun e w' => e = .returned (.string (st (flagL b))) ∧ w' = w := by
  cases b
  · go_enter Tryz.func56, Tryz.ntmps56
    go_wp2_with fail
    go_ret
    exact ⟨rfl, rfl⟩
  · go_enter Tryz.func56, Tryz.ntmps56
    go_wp2_with fail
    go_ret
    exact ⟨rfl, rfl⟩
theorem must_ok (e0 : Int) (w : World) : Calls Tryz.prog 37 #[.bool true, .int .i64 e0] w fun e w' => e = .returned (.tuple #[]) ∧ w' = w := by
  go_enter Tryz.func37, Tryz.ntmps37
  go_wp2_with fail
  go_end0
  exact ⟨rfl, rfl⟩
theorem must_bad (e0 : Int) (w : World) : Calls Tryz.prog 37 #[.bool false, .int .i64 e0] w fun e w' => e = Pan e0 ∧ w' = w := by
  go_enter Tryz.func37, Tryz.ntmps37
  go_wp2_with fail
  exact ⟨rfl, rfl, rfl⟩
theorem true_any (s : B) (w : World) : Calls Tryz.prog 12 #[.string (st s)] w fun e w' => e = .returned (.bool (trueL s)) ∧ w' = w := by
  go_enter Tryz.func12, Tryz.ntmps12
  by_cases h : s = []
  · subst h
    rw [show st [] = ⟨#[]⟩ from rfl]
    go_wp2_with fail
    go_ret
    exact ⟨rfl, rfl⟩
  · have h1 : (st s).toList.isEmpty = false := by rw [empty_iff]; simp [h]
    have h2 : ((st s).toList == [48]) = (s == [48]) := by rw [st_toList]
    go_wp2_with fail
    go_ret
    exact ⟨by
      have : trueL s = !(s == [48]) := by
        unfold trueL
        have : (s != []) = true := by simp [h]
        rw [this, Bool.true_and]; rfl
      rw [this]; rfl, rfl⟩
set_option maxRecDepth 100000 in
theorem short_ok (s : B) (w : World) (h : s.length ≤ 8192) : Calls Tryz.prog 46 #[.string (st s)] w fun e w' => e = .returned (.string (st s)) ∧ w' = w := by
  have CM := Lib.hid (must_ok 2 w)
  have hz : (st s).size = s.length := st_size s
  obtain ⟨n, hn⟩ : ∃ n, n = s.length := ⟨_, rfl⟩
  rw [← hn] at hz h
  have hi : (n : Int) ≤ 8192 := by omega
  replace hn := Lib.hid hn
  go_enter Tryz.func46, Tryz.ntmps46
  go_wp2_with fail
  refine CM.out.mono ?_
  rintro e w1 ⟨rfl, rfl⟩
  go_wp2_with fail
  go_ret
  exact ⟨rfl, rfl⟩
set_option maxRecDepth 100000 in
theorem short_bad (s : B) (w : World) (h : ¬ s.length ≤ 8192) : Calls Tryz.prog 46 #[.string (st s)] w fun e w' => e = Pan 2 ∧ w' = w := by
  have CM := Lib.hid (must_bad 2 w)
  have hz : (st s).size = s.length := st_size s
  obtain ⟨n, hn⟩ : ∃ n, n = s.length := ⟨_, rfl⟩
  rw [← hn] at hz h
  have hi : ¬ ((n : Int) ≤ 8192) := by omega
  replace hn := Lib.hid hn
  go_enter Tryz.func46, Tryz.ntmps46
  go_wp2_with fail
  refine CM.out.mono ?_
  rintro e w1 ⟨rfl, rfl⟩
  unfold Pan
  go_wp2_with fail
  exact ⟨rfl, rfl, rfl⟩
theorem named_any (c : UInt8) (w : World) : Calls Tryz.prog 39 #[.int .u8 (c.toNat : Int)] w fun e w' => e = .returned (.string (st (namedL c))) ∧ w' = w := by
  have key : ∀ n : Nat, UInt8.ofNat n = c → n < 256 → (c.toNat : Int) = n := fun n h hn => by subst h; simp [UInt8.toNat_ofNat']; omega
  by_cases h1 : c = 83
  · subst h1; go_enter Tryz.func39, Tryz.ntmps39; go_wp2_with fail; go_ret; exact ⟨rfl, rfl⟩
  by_cases h2 : c = 87
  · subst h2; go_enter Tryz.func39, Tryz.ntmps39; go_wp2_with fail; go_ret; exact ⟨rfl, rfl⟩
  by_cases h3 : c = 73
  · subst h3; go_enter Tryz.func39, Tryz.ntmps39; go_wp2_with fail; go_ret; exact ⟨rfl, rfl⟩
  by_cases h4 : c = 80
  · subst h4; go_enter Tryz.func39, Tryz.ntmps39; go_wp2_with fail; go_ret; exact ⟨rfl, rfl⟩
  by_cases h5 : c = 70
  · subst h5; go_enter Tryz.func39, Tryz.ntmps39; go_wp2_with fail; go_ret; exact ⟨rfl, rfl⟩
  by_cases h6 : c = 84
  · subst h6; go_enter Tryz.func39, Tryz.ntmps39; go_wp2_with fail; go_ret; exact ⟨rfl, rfl⟩
  by_cases h7 : c = 68
  · subst h7; go_enter Tryz.func39, Tryz.ntmps39; go_wp2_with fail; go_ret; exact ⟨rfl, rfl⟩
  by_cases h8 : c = 72
  · subst h8; go_enter Tryz.func39, Tryz.ntmps39; go_wp2_with fail; go_ret; exact ⟨rfl, rfl⟩
  have hr : namedL c = [] := by unfold namedL; rw [if_neg h1, if_neg h2, if_neg h3, if_neg h4, if_neg h5, if_neg h6, if_neg h7, if_neg h8]
  rw [hr]
  have e1 : ¬ ((c.toNat : Int) = 83) := u8_ne (n := 83) (by omega) h1
  have e2 : ¬ ((c.toNat : Int) = 87) := u8_ne (n := 87) (by omega) h2
  have e3 : ¬ ((c.toNat : Int) = 73) := u8_ne (n := 73) (by omega) h3
  have e4 : ¬ ((c.toNat : Int) = 80) := u8_ne (n := 80) (by omega) h4
  have e5 : ¬ ((c.toNat : Int) = 70) := u8_ne (n := 70) (by omega) h5
  have e6 : ¬ ((c.toNat : Int) = 84) := u8_ne (n := 84) (by omega) h6
  have e7 : ¬ ((c.toNat : Int) = 68) := u8_ne (n := 68) (by omega) h7
  have e8 : ¬ ((c.toNat : Int) = 72) := u8_ne (n := 72) (by omega) h8
  clear h1 h2 h3 h4 h5 h6 h7 h8 key hr
  go_enter Tryz.func39, Tryz.ntmps39
  go_wp2_with fail
  go_ret
  exact ⟨rfl, rfl⟩
end Go.Proofs.YtfhdfhlabkeipaaGreatDoor
