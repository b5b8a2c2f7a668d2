/- Contracts of the small functions of package frame: which codec a kind has, which frames may be. -/
import Derived.Test.YtdbjphabmdmjcaaRows
import Derived.Test.YtdbjphabmdmjcaaBase
namespace Go.Proofs.Ytdbjphabmdmjcaa
open Go.RowKit
set_option linter.unusedSimpArgs false
set_option linter.unusedVariables false

def codecOf (k : Int) : Value :=
  if k = 1 then .iface 74 (.agg #[]) else if k = 4 then .iface 74 (.agg #[]) else if k = 2 then .iface 75 (.agg #[])
  else if k = 3 then .iface 77 (.agg #[.bool false, .bool true]) else if k = 6 then .iface 77 (.agg #[.bool false, .bool true])
  else if k = 7 then .iface 77 (.agg #[.bool false, .bool true]) else if k = 8 then .iface 77 (.agg #[.bool false, .bool true])
  else if k = 5 then .iface 77 (.agg #[.bool false, .bool false]) else if k = 9 then .iface 77 (.agg #[.bool true, .bool true]) else .nilIface

theorem ret_val {a b : Value} (h : a = b) : Ending.returned a = .returned b := by rw [h]

set_option maxHeartbeats 400000 in
theorem of_any (k : Int) (w : World) : Calls Try.prog 25 #[.int .i64 k] w fun e w' => e = .returned (codecOf k) ∧ w = w' := by
  go_enter Try.func25, Try.ntmps25
  go_wp2
  all_goals
    go_ret
    exact ⟨ret_val (by simp_all [codecOf]), rfl⟩

def szR (a b : Int) (n dn : Nat) : Bool := decide (1 ≤ a) && decide (a ≤ 250) && decide (1 ≤ b) && decide (b ≤ 120) && decide (n = 0) && decide (dn = 0)
def woR (a b : Int) (n dn : Nat) (lg : Bool) : Bool := decide (a = 0) && decide (b = 0) && decide (dn = 0) && decide (1 ≤ n) && decide (n ≤ 256) && !lg
def fiR (co da : Bool) (a b : Int) (n dn : Nat) : Bool := (decide (a = 0) || co && decide (0 < a) && decide (a ≤ 255)) && decide (b = 0) && decide (n = 0) && (da || decide (dn = 0))

theorem sum_beq0 (n m : Nat) : (((n : Int)) + (m : Int) == 0) = (decide (n = 0) && decide (m = 0)) := by
  rw [Bool.eq_iff_iff]; simp; omega

set_option maxHeartbeats 400000 in
theorem szR_any (k a b : Int) (wa da : Option Addr) (n c dn dc : Nat) (w : World) (hn : n ≤ 140737488355328) (hd : dn ≤ 140737488355328) :
    Calls Try.prog 47 #[.agg #[], .agg #[.int .i64 k, .int .i64 a, .int .i64 b, .slice wa n c, .slice da dn dc]] w fun e w' =>
      e = .returned (.bool (szR a b n dn)) ∧ w.grownBy w' none := by
  go_enter Try.func47, Try.ntmps47
  go_wp2
  all_goals
    go_ret
    refine ⟨ret_bool ?_, ?_⟩
    · simp_all [szR, sum_beq0, cast_beq0]
      try omega
    · repeat (first | exact World.grownBy.refl _ _ | apply g_alloc | apply g_drew)

set_option maxHeartbeats 400000 in
theorem fiR_any (co dt : Bool) (k a b : Int) (wa da : Option Addr) (n c dn dc : Nat) (w : World) :
    Calls Try.prog 56 #[.agg #[.bool co, .bool dt], .agg #[.int .i64 k, .int .i64 a, .int .i64 b, .slice wa n c, .slice da dn dc]] w fun e w' =>
      e = .returned (.bool (fiR co dt a b n dn)) ∧ w.grownBy w' none := by
  cases co <;> cases dt
  all_goals
    go_enter Try.func56, Try.ntmps56
    go_wp2
    all_goals
      go_ret
      refine ⟨ret_bool ?_, ?_⟩
      · simp_all [fiR, cast_beq0]
        try omega
      · repeat (first | exact World.grownBy.refl _ _ | apply g_alloc | apply g_drew)

theorem szW_any (k a b : Int) (wv dv : Value) (w : World) :
    Calls Try.prog 48 #[.agg #[], .agg #[.int .i64 k, .int .i64 a, .int .i64 b, wv, dv]] w fun e w' => e = .returned (.slice none 0 0) ∧ w.grownBy w' none := by
  go_enter Try.func48, Try.ntmps48
  go_wp2
  go_ret
  exact ⟨rfl, by repeat (first | exact World.grownBy.refl _ _ | apply g_alloc | apply g_drew)⟩

theorem fiW_any (co dt : Bool) (k a b : Int) (wv dv : Value) (w : World) :
    Calls Try.prog 57 #[.agg #[.bool co, .bool dt], .agg #[.int .i64 k, .int .i64 a, .int .i64 b, wv, dv]] w fun e w' => e = .returned dv ∧ w.grownBy w' none := by
  go_enter Try.func57, Try.ntmps57
  go_wp2
  go_ret
  exact ⟨rfl, by repeat (first | exact World.grownBy.refl _ _ | apply g_alloc | apply g_drew)⟩

theorem long_any (s : ByteArray) (w : World) (hs : s.size ≤ 140737488355328) :
    Calls Try.prog 52 #[.string s] w fun e w' => e = .returned (.bool (decide (8192 < s.size))) ∧ w = w' := by
  go_enter Try.func52, Try.ntmps52
  by_cases h : 8192 < s.size
  · have h' : (8192 : Int) < s.size := by omega
    go_wp2
    go_ret
    exact ⟨ret_bool (by simp [h]), rfl⟩
  · have h' : ¬ (8192 : Int) < s.size := by omega
    go_wp2
    go_ret
    exact ⟨ret_bool (by simp [h]), rfl⟩

theorem szRead_any (p : Option Addr) (A : Option Addr) (n c : Nat) (w : World) :
    Calls Try.prog 46 #[.agg #[], .pointer p, .slice A n c] w fun e w' => e = .returned (.bool (decide (n = 0))) ∧ w.grownBy w' none := by
  have h0 := cast_beq0 n
  go_enter Try.func46, Try.ntmps46
  go_wp2
  go_ret
  exact ⟨ret_bool rfl, by repeat (first | exact World.grownBy.refl _ _ | apply g_alloc | apply g_drew)⟩
end Go.Proofs.Ytdbjphabmdmjcaa
