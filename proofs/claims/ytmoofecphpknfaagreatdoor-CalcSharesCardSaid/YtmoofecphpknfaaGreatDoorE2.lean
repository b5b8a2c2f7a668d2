/- Calc: the reference's Whole, Inf, rank, Less. -/
import Derived.Test.YtmoofecphpknfaaGreatDoorE1
namespace Go.Proofs.YtmoofecphpknfaaGreatDoor
open Go.RowKit
set_option linter.unusedSimpArgs false
set_option linter.unusedVariables false

theorem wh_nan (x : Nat) (h : INF < rg x) : wh x = 0 := by unfold wh; rw [if_pos h]
/-- The way through the reference's Whole within the range. -/
theorem ref_way (x : Nat) (h : Num x) (hr : InR x) : ∃ y d, floatOfInt .f64 (cutI x) = y ∧ floatBits .sub .f64 x y = some d ∧
    ((wh x = cutI x + 1 ∧ cutI x + 1 < 2 ^ 63 ∧ ∃ o, FloatKind.f64.format.order d 4602678819172646912 = some o ∧ (o = .gt ∨ o = .eq)) ∨
     (wh x = cutI x - 1 ∧ -2 ^ 63 ≤ cutI x - 1 ∧ FloatKind.f64.format.order d 4602678819172646912 = some .lt ∧ ∃ o, FloatKind.f64.format.order d 13826050856027422720 = some o ∧ (o = .lt ∨ o = .eq)) ∨
     (wh x = cutI x ∧ FloatKind.f64.format.order d 4602678819172646912 = some .lt ∧ FloatKind.f64.format.order d 13826050856027422720 = some .gt)) := by
  have hf := inr_fin x h hr
  obtain ⟨y, hy, fy, sy⟩ := back_float x hf
  obtain ⟨d, hd, nd, sd⟩ := frac_float x y hf fy sy
  refine ⟨y, d, hy, hd, ?_⟩
  have h1 := ordN d 4602678819172646912 nd (num_of _ (by decide))
  have h2 := ordN d 13826050856027422720 nd (num_of _ (by decide))
  rw [sval_half] at h1
  rw [sval_nhalf] at h2
  have hw := ref_wh x h hr (sval d) sd
  have hp : (0 : Int) < 2 ^ (ex - 1) := two_pos _
  generalize sval d = S at *
  generalize (2 : Int) ^ (ex - 1) = H at *
  rcases (by omega : H ≤ S ∨ S ≤ -H ∨ (-H < S ∧ S < H)) with c | c | c
  · left
    refine ⟨(hw.1 c).1, (hw.1 c).2, _, h1, ?_⟩
    rw [if_neg (by omega)]
    split
    · exact .inr rfl
    · exact .inl rfl
  · right; left
    refine ⟨(hw.2.1 c).1, (hw.2.1 c).2, by rw [h1, if_pos (by omega)], _, h2, ?_⟩
    split
    · exact .inl rfl
    · rw [if_pos (by omega)]; exact .inr rfl
  · right; right
    exact ⟨hw.2.2 (by omega) (by omega), by rw [h1, if_pos (by omega)], by rw [h2, if_neg (by omega), if_neg (by omega)]⟩
theorem self_ord (x : Nat) : (INF < rg x ∧ FloatKind.f64.format.order x x = none) ∨ (Num x ∧ FloatKind.f64.format.order x x = some .eq) := by
  rcases Nat.lt_or_ge INF (rg x) with h | h
  · exact .inl ⟨h, ord_nan x x (.inl (Nat.not_le.2 h))⟩
  · exact .inr ⟨h, by rw [ordN x x h h, if_neg (Int.lt_irrefl _), if_pos rfl]⟩
set_option maxRecDepth 100000 in
set_option maxHeartbeats 1000000 in
theorem refWhole_any (x : Nat) (w : World) : Calls Tryz.prog 18 #[.float .f64 x] w fun e w' => e = .returned (.int .i64 (wh x)) ∧ w' = w := by
  obtain ⟨R, hR⟩ : ∃ R, R = wh x := ⟨_, rfl⟩
  rw [← hR]
  rcases self_ord x with ⟨hn, h0⟩ | ⟨hN, h0⟩
  · rw [wh_nan x hn] at hR
    clear hn
    replace hR := Lib.hid hR
    go_enter Tryz.func18, Tryz.ntmps18
    go_wp2_with fail
    go_ret
    exact ⟨by rw [hR.out]; rfl, rfl⟩
  · rcases way3 x hN with ⟨c, o, h1, h2⟩ | ⟨c, h1, o, h2, h3⟩ | ⟨c, h1, h2⟩
    · rw [(cut_out x hN).1 c] at hR
      clear c hN
      replace hR := Lib.hid hR
      go_enter Tryz.func18, Tryz.ntmps18
      rcases h2 with rfl | rfl
      · go_wp2_with fail
        go_ret
        exact ⟨by rw [hR.out]; rfl, rfl⟩
      · go_wp2_with fail
        go_ret
        exact ⟨by rw [hR.out]; rfl, rfl⟩
    · rw [(cut_out x hN).2 c] at hR
      clear c hN
      replace hR := Lib.hid hR
      go_enter Tryz.func18, Tryz.ntmps18
      rcases h3 with rfl | rfl
      · go_wp2_with fail
        go_ret
        exact ⟨by rw [hR.out]; rfl, rfl⟩
      · go_wp2_with fail
        go_ret
        exact ⟨by rw [hR.out]; rfl, rfl⟩
    · obtain ⟨y, d, hy, hd, hw⟩ := ref_way x hN c
      have hrg := cut_range x c
      have q1 := fun W => run_convert_float_int (P := Tryz.prog) W 23 3 .f64 .i64 x (cutI x) (by rw [Tryz.underlying23]; rfl) Tryz.underlying3 (fti_cut x hN c)
      have q2 := fun W => run_float_arith (P := Tryz.prog) W .sub 23 .f64 x y d hd
      rw [← hR] at hw
      clear hd c hN hR
      generalize cutI x = n at *
      replace hw := Lib.hid hw
      rcases hw.out with ⟨e1, l1, o, h3, h4⟩ | ⟨e1, l1, h3, o, h4, h5⟩ | ⟨e1, h3, h4⟩
      · clear hw
        replace e1 := Lib.hid e1
        go_enter Tryz.func18, Tryz.ntmps18
        rcases h4 with rfl | rfl
        · go_wp2_with fail
          go_ret
          exact ⟨by rw [e1.out]; rfl, rfl⟩
        · go_wp2_with fail
          go_ret
          exact ⟨by rw [e1.out]; rfl, rfl⟩
      · clear hw
        replace e1 := Lib.hid e1
        go_enter Tryz.func18, Tryz.ntmps18
        rcases h5 with rfl | rfl
        · go_wp2_with fail
          go_ret
          exact ⟨by rw [e1.out]; rfl, rfl⟩
        · go_wp2_with fail
          go_ret
          exact ⟨by rw [e1.out]; rfl, rfl⟩
      · clear hw
        replace e1 := Lib.hid e1
        go_enter Tryz.func18, Tryz.ntmps18
        go_wp2_with fail
        go_ret
        exact ⟨by rw [e1.out]; rfl, rfl⟩
end Go.Proofs.YtmoofecphpknfaaGreatDoor
