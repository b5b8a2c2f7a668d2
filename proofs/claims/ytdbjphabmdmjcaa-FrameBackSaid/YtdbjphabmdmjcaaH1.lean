/- Contract: the law's same, at equal frames. -/
import Derived.Test.YtdbjphabmdmjcaaH3
namespace Go.Proofs.Ytdbjphabmdmjcaa
open Go.RowKit
set_option linter.unusedSimpArgs false
set_option linter.unusedVariables false

set_option maxHeartbeats 400000 in
theorem same_any (f : Fm) (wa da wb : Option Addr) (wc dc wd : Nat) (w : World) (h1 : Rd w wa (f.ws.map .string)) (h2 : Rd w da (bs f.d)) (h3 : Rd w wb (f.ws.map .string)) (hn : f.ws.length ≤ 140737488355328) :
    Calls Try.prog 18 #[.agg #[.int .i64 f.k, .int .i64 f.a, .int .i64 f.b, .slice wa f.ws.length wc, .slice da f.d.length dc], .agg #[.int .i64 f.k, .int .i64 f.a, .int .i64 f.b, .slice wb f.ws.length wd, .string (st f.d)]] w fun e w' =>
      e = .returned (.bool true) ∧ w.grownBy w' none := by
  have G : w.grownBy ((w.alloc (.cells #[.int .i64 f.k, .int .i64 f.a, .int .i64 f.b, .slice wa f.ws.length wc, .slice da f.d.length dc] 25)).alloc (.cells #[.int .i64 f.k, .int .i64 f.a, .int .i64 f.b, .slice wb f.ws.length wd, .string (st f.d)] 33)) none := g_alloc (World.grownBy_alloc w _ none) _
  have hcv := conv_str (P := Try.prog) _ 23 9 5 Try.underlying23 Try.underlying5 Try.underlying9 da f.d.length dc f.d rfl (h2.grown G (.inl rfl))
  have r1 := h1.grown G (.inl rfl)
  have r3 := h3.grown G (.inl rfl)
  replace G := Lib.hid G
  clear h1 h2 h3
  replace r1 := Lib.hid r1; replace r3 := Lib.hid r3
  go_enter Try.func18, Try.ntmps18
  go_wp2_with fail
  go_loopw [5] (fun i wr => ∃ j k : Nat, j ≤ f.ws.length ∧ i = .int .i64 j ∧ wr = (((w.alloc (.cells #[.int .i64 f.k, .int .i64 f.a, .int .i64 f.b, .slice wa f.ws.length wc, .slice da f.d.length dc] 25)).alloc (.cells #[.int .i64 f.k, .int .i64 f.a, .int .i64 f.b, .slice wb f.ws.length wd, .string (st f.d)] 33)).drewN k)) (fun i _ => f.ws.length - (intOf i).toNat)
  case atStart => exact ⟨0, 0, Nat.zero_le _, rfl, rfl⟩
  case round =>
    obtain ⟨j, k, hj, rfl, rfl⟩ := hrel
    by_cases hlt : j < f.ws.length
    · obtain ⟨b1, o1, rfl, hb1, c1⟩ := r1.out.at_ (j := j) (u := .string f.ws[j]) (by simp [hlt])
      obtain ⟨b3, o3, rfl, hb3, c3⟩ := r3.out.at_ (j := j) (u := .string f.ws[j]) (by simp [hlt])
      have i1 : (j : Int) < f.ws.length := by omega
      have i0 : (0 : Int) ≤ j := by omega
      clear hb1 hb3
      go_wp2_with fail
      go_quiet (fail)
      go_wp2_with fail
      exact ⟨⟨j + 1, k + nq, by omega, by go_num, rfl⟩, by simp [intOf]; omega⟩
    · obtain rfl : j = f.ws.length := by omega
      go_wp2_with fail
      go_ret
      exact ⟨rfl, g_dn G.out _⟩
end Go.Proofs.Ytdbjphabmdmjcaa
