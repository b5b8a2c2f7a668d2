/- Key: the document's answer: Mouse. -/
import Derived.Test.YtncokbppijnfiaaGreatDoorV4
import Derived.Test.YtncokbppijnfiaaGreatDoorM1
namespace Go.Proofs.YtncokbppijnfiaaGreatDoor
open Go.RowKit
set_option linter.unusedSimpArgs false
set_option linter.unusedVariables false

/-- No bytes are told. -/
def BadM (bm : Int) (r mo : Bool) (c b x y : Int) : Prop := bm = 0 ∨ r = false ∨ mo = false ∨ x < 0 ∨ 9998 < x ∨ y < 0 ∨ 9998 < y ∨ (¬ (c = 1114139 ∨ c = 1114140) ∧ (b < 1 ∨ 3 < b))
theorem bad_out {c m b x y modes : Int} : (BadM (bits .and .i64 modes 128) (rightK c m) (isMouse c) c b x y → mouseOut ⟨c, m, b, x, y⟩ modes = []) ∧ (¬ BadM (bits .and .i64 modes 128) (rightK c m) (isMouse c) c b x y → mouseOut ⟨c, m, b, x, y⟩ modes = mouseL ⟨c, m, b, x, y⟩) := by
  unfold mouseOut
  dsimp only
  by_cases h : bits .and .i64 modes 128 = 0 ∨ rightK c m = false ∨ isMouse c = false ∨ min x y < 0 ∨ 9998 < max x y
  · rw [if_pos h]
    refine ⟨fun _ => rfl, fun hn => absurd ?_ hn⟩
    rcases h with h | h | h | h | h
    · exact .inl h
    · exact .inr (.inl h)
    · exact .inr (.inr (.inl h))
    · have : x < 0 ∨ y < 0 := by omega
      exact .inr (.inr (.inr (this.elim .inl fun h => .inr (.inr (.inl h)))))
    · have : 9998 < x ∨ 9998 < y := by omega
      exact .inr (.inr (.inr (.inr (this.elim .inl fun h => .inr (.inr (.inl h))))))
  rw [if_neg h]
  have key : BadM (bits .and .i64 modes 128) (rightK c m) (isMouse c) c b x y → ¬ (c = 1114139 ∨ c = 1114140) ∧ (b < 1 ∨ 3 < b) := by
    rintro (q | q | q | q | q | q | q | q)
    · exact absurd (.inl q) h
    · exact absurd (.inr (.inl q)) h
    · exact absurd (.inr (.inr (.inl q))) h
    · exact absurd (.inr (.inr (.inr (.inl (by omega))))) h
    · exact absurd (.inr (.inr (.inr (.inr (by omega))))) h
    · exact absurd (.inr (.inr (.inr (.inl (by omega))))) h
    · exact absurd (.inr (.inr (.inr (.inr (by omega))))) h
    · exact q
  by_cases h2 : c = 1114139 ∨ c = 1114140
  · rw [if_pos h2]
    exact ⟨fun hb => absurd h2 (key hb).1, fun _ => rfl⟩
  rw [if_neg h2]
  by_cases h3 : b < 1 ∨ 3 < b
  · rw [if_pos h3]
    exact ⟨fun _ => rfl, fun hn => absurd (.inr (.inr (.inr (.inr (.inr (.inr (.inr ⟨h2, h3⟩))))))) hn⟩
  · rw [if_neg h3]
    exact ⟨fun hb => absurd (key hb).2 h3, fun _ => rfl⟩
set_option maxHeartbeats 4000000 in
set_option maxRecDepth 100000 in
theorem mouseRefB_any (k : Ms) (modes : Int) (hc : I64 k.c) (w : World) :
    Calls Tryz.prog 20 #[msV k, .int .i64 modes] w fun e w' => e = .returned (.string (st (mouseOut k modes))) ∧ w.grownBy w' none := by
  have CR : Hid (∀ W, Calls Tryz.prog 29 #[keyV k.c k.m] W fun e w' => e = .returned (.bool (rightK k.c k.m)) ∧ W.grownBy w' none) := Lib.hid fun W => rightRef_any k.c k.m hc W
  have CM : Hid (∀ W, Calls Tryz.prog 30 #[.int .i64 k.c] W fun e w' => e = .returned (.bool (isMouse k.c)) ∧ w' = W) := Lib.hid fun W => mouseRef_any k.c W
  have hrt := fun (h : rightK k.c k.m = true) => right_mods h
  obtain ⟨c, m, b, x, y⟩ := k
  dsimp only at *
  have ho := bad_out (c := c) (m := m) (b := b) (x := x) (y := y) (modes := modes)
  obtain ⟨r, hr⟩ : ∃ r, r = rightK c m := ⟨_, rfl⟩
  obtain ⟨mo, hmo⟩ : ∃ r, r = isMouse c := ⟨_, rfl⟩
  obtain ⟨bm, hbm⟩ : ∃ r, r = bits .and .i64 modes 128 := ⟨_, rfl⟩
  rw [← hr, ← hmo, ← hbm] at ho
  rw [← hr] at CR hrt; rw [← hmo] at CM
  obtain ⟨OUT, hOUT⟩ : ∃ r, r = mouseOut ⟨c, m, b, x, y⟩ modes := ⟨_, rfl⟩
  rw [← hOUT] at ho ⊢
  obtain ⟨W0, hW0⟩ : ∃ W, W = w.alloc (.cells #[.int .i64 c, .int .i64 m, .int .i64 b, .int .i64 x, .int .i64 y] 40) := ⟨_, rfl⟩
  have g0 : w.grownBy W0 none := by rw [hW0]; exact World.grownBy_alloc _ _ _
  obtain ⟨bR, hbR⟩ : ∃ n, n = w.heap.size := ⟨_, rfl⟩
  have hR0 : MC W0 bR ⟨c, m, b, x, y⟩ := by rw [hW0, hbR]; exact MC.new w ⟨c, m, b, x, y⟩
  obtain ⟨x0, x1, x2, x3, x4, _⟩ := hR0.cells
  dsimp only at x0 x1 x2 x3 x4
  have CR0 := Lib.hid (CR.out W0)
  replace hW0 := Lib.hid hW0; replace g0 := Lib.hid g0; replace hbR := Lib.hid hbR; replace hR0 := Lib.hid hR0; replace ho := Lib.hid ho; replace hOUT := Lib.hid hOUT; replace hr := Lib.hid hr; replace hmo := Lib.hid hmo; replace hrt := Lib.hid hrt; replace hc := Lib.hid hc
  replace hbm := hbm.symm
  clear CR
  unfold msV
  unfold keyV at CR0
  dsimp only
  go_enter Tryz.func20, Tryz.ntmps20
  go_wp2_with fail
  rw [← hW0.out, ← hbR.out]
  refine CR0.out.mono ?_
  rintro e w1 ⟨rfl, g1⟩
  have G1 := g0.out.trans g1
  have hR1 := hR0.out.grown g1
  obtain ⟨y0, y1, y2, y3, y4, _⟩ := hR1.cells
  dsimp only at y0 y1 y2 y3 y4
  replace G1 := Lib.hid G1; replace hR1 := Lib.hid hR1
  clear g1 x0 x1 x2 x3 x4 CR0 hR0
  go_wp2_with fail
  refine (CM.out _).mono ?_
  rintro e w2 ⟨rfl, rfl⟩
  clear CM
  obtain ⟨wh, hwh⟩ : ∃ b : Bool, b = decide (c = 1114139 ∨ c = 1114140) := ⟨_, rfl⟩
  have hwt : wh = true → c = 1114139 ∨ c = 1114140 := fun h => by rw [hwh] at h; exact of_decide_eq_true h
  have hwf : wh = false → ¬ (c = 1114139 ∨ c = 1114140) := fun h => by rw [hwh] at h; exact of_decide_eq_false h
  replace hwh := Lib.hid hwh; replace hwt := Lib.hid hwt; replace hwf := Lib.hid hwf
  go_upto_region 4 with fail
  go_cut [8] (fun tv wx => tv = .bool wh ∧ wx = w2)
  case first =>
    by_cases h1 : c = 1114139
    · have e1 : wh = true := by rw [hwh.out]; exact decide_eq_true (.inl h1)
      subst e1
      have k1 : (c == 1114139) = true := by rw [h1]; rfl
      replace h1 := Lib.hid h1
      go_wp2_with fail
      go_meet
      exact ⟨rfl, rfl⟩
    · have k1 : (c == 1114139) = false := by rw [beq_eq_false_iff_ne]; exact h1
      by_cases h2 : c = 1114140
      · have e1 : wh = true := by rw [hwh.out]; exact decide_eq_true (.inr h2)
        subst e1
        have k2 : (c == 1114140) = true := by rw [h2]; rfl
        replace h2 := Lib.hid h2
        go_wp2_with fail
        go_meet
        exact ⟨rfl, rfl⟩
      · have e1 : wh = false := by rw [hwh.out]; exact decide_eq_false fun h => h.elim h1 h2
        have k2 : (c == 1114140) = false := by rw [beq_eq_false_iff_ne]; exact h2
        subst e1
        go_wp2_with fail
        go_meet
        exact ⟨rfl, rfl⟩
  case rest =>
  obtain ⟨rfl, rfl⟩ := hcut
  obtain ⟨bb, hbb⟩ : ∃ q : Bool, (q = true ↔ BadM bm r mo c b x y) := by
    rcases Classical.em (BadM bm r mo c b x y) with h | h
    · exact ⟨true, ⟨fun _ => h, fun _ => rfl⟩⟩
    · exact ⟨false, ⟨fun e => (by cases e), fun h' => absurd h' h⟩⟩
  have hbt : BadM bm r mo c b x y → bb = true := hbb.2
  have hbf : ¬ BadM bm r mo c b x y → bb = false := fun h => by
    cases bb with
    | true => exact absurd (hbb.1 rfl) h
    | false => rfl
  replace hbb := Lib.hid hbb; replace hbt := Lib.hid hbt; replace hbf := Lib.hid hbf
  go_upto_region 5 with fail
  go_cut [73] (fun tv wx => tv = .bool bb ∧ wx = wc)
  case first =>
    by_cases h1 : bm = 0
    · obtain rfl : bb = true := hbt.out (.inl h1)
      have k1 : (bm == 0) = true := by rw [h1]; rfl
      replace h1 := Lib.hid h1
      go_wp2_with fail
      go_meet
      exact ⟨rfl, rfl⟩
    have k1 : (bm == 0) = false := by rw [beq_eq_false_iff_ne]; exact h1
    cases r with
    | false =>
      obtain rfl : bb = true := hbt.out (.inr (.inl rfl))
      go_wp2_with fail
      go_meet
      exact ⟨rfl, rfl⟩
    | true =>
    cases mo with
    | false =>
      obtain rfl : bb = true := hbt.out (.inr (.inr (.inl rfl)))
      go_wp2_with fail
      go_meet
      exact ⟨rfl, rfl⟩
    | true =>
    by_cases h2 : x < 0
    · obtain rfl : bb = true := hbt.out (.inr (.inr (.inr (.inl h2))))
      have k2 : decide (x < 0) = true := decide_eq_true h2
      go_wp2_with fail
      go_meet
      exact ⟨rfl, rfl⟩
    have k2 : decide (x < 0) = false := decide_eq_false h2
    by_cases h3 : 9998 < x
    · obtain rfl : bb = true := hbt.out (.inr (.inr (.inr (.inr (.inl h3)))))
      have k3 : decide (9998 < x) = true := decide_eq_true h3
      go_wp2_with fail
      go_meet
      exact ⟨rfl, rfl⟩
    have k3 : decide (9998 < x) = false := decide_eq_false h3
    by_cases h4 : y < 0
    · obtain rfl : bb = true := hbt.out (.inr (.inr (.inr (.inr (.inr (.inl h4))))))
      have k4 : decide (y < 0) = true := decide_eq_true h4
      go_wp2_with fail
      go_meet
      exact ⟨rfl, rfl⟩
    have k4 : decide (y < 0) = false := decide_eq_false h4
    by_cases h5 : 9998 < y
    · obtain rfl : bb = true := hbt.out (.inr (.inr (.inr (.inr (.inr (.inr (.inl h5)))))))
      have k5 : decide (9998 < y) = true := decide_eq_true h5
      go_wp2_with fail
      go_meet
      exact ⟨rfl, rfl⟩
    have k5 : decide (9998 < y) = false := decide_eq_false h5
    have hx : BadM bm true true c b x y → ¬ (c = 1114139 ∨ c = 1114140) ∧ (b < 1 ∨ 3 < b) := by
      rintro (q | q | q | q | q | q | q | q)
      · exact absurd q h1
      · cases q
      · cases q
      · exact absurd q h2
      · exact absurd q h3
      · exact absurd q h4
      · exact absurd q h5
      · exact q
    replace hx := Lib.hid hx
    cases wh with
    | true =>
      obtain rfl : bb = false := hbf.out fun h => (hx.out h).1 (hwt.out rfl)
      go_wp2_with fail
      go_meet
      exact ⟨rfl, rfl⟩
    | false =>
    by_cases h6 : b < 1
    · obtain rfl : bb = true := hbt.out (.inr (.inr (.inr (.inr (.inr (.inr (.inr ⟨hwf.out rfl, .inl h6⟩)))))))
      have k6 : decide (b < 1) = true := decide_eq_true h6
      go_wp2_with fail
      go_meet
      exact ⟨rfl, rfl⟩
    have k6 : decide (b < 1) = false := decide_eq_false h6
    by_cases h7 : 3 < b
    · obtain rfl : bb = true := hbt.out (.inr (.inr (.inr (.inr (.inr (.inr (.inr ⟨hwf.out rfl, .inr h7⟩)))))))
      have k7 : decide (3 < b) = true := decide_eq_true h7
      go_wp2_with fail
      go_meet
      exact ⟨rfl, rfl⟩
    have k7 : decide (3 < b) = false := decide_eq_false h7
    obtain rfl : bb = false := hbf.out fun h => (hx.out h).2.elim h6 h7
    go_wp2_with fail
    go_meet
    exact ⟨rfl, rfl⟩
  case rest =>
  obtain ⟨rfl, rfl⟩ := hcut
  cases bb with
  | true =>
    have e1 : OUT = [] := ho.out.1 (hbb.out.1 rfl)
    replace e1 := Lib.hid e1
    go_wp2_with fail
    go_ret
    exact ⟨by rw [e1.out]; rfl, G1.out⟩
  | false =>
  have hnb : ¬ BadM bm r mo c b x y := fun h => by have := hbb.out.2 h; cases this
  have e1 := ho.out.2 hnb
  have hr1 : r = true := by
    cases r with
    | true => rfl
    | false => exact absurd (.inr (.inl rfl)) hnb
  have hm1 : mo = true := by
    cases mo with
    | true => rfl
    | false => exact absurd (.inr (.inr (.inl rfl))) hnb
  obtain ⟨m0, m7, _⟩ := hrt.out hr1
  have hxy : 0 ≤ x ∧ x ≤ 9998 ∧ 0 ≤ y ∧ y ≤ 9998 := by
    have a1 : ¬ x < 0 := fun h => hnb (.inr (.inr (.inr (.inl h))))
    have a2 : ¬ 9998 < x := fun h => hnb (.inr (.inr (.inr (.inr (.inl h)))))
    have a3 : ¬ y < 0 := fun h => hnb (.inr (.inr (.inr (.inr (.inr (.inl h))))))
    have a4 : ¬ 9998 < y := fun h => hnb (.inr (.inr (.inr (.inr (.inr (.inr (.inl h)))))))
    omega
  have hbB : ¬ (c = 1114139 ∨ c = 1114140) → 1 ≤ b ∧ b ≤ 3 := fun h => by
    have a1 : ¬ (b < 1 ∨ 3 < b) := fun h' => hnb (.inr (.inr (.inr (.inr (.inr (.inr (.inr ⟨h, h'⟩)))))))
    omega
  have hcm : 1114136 ≤ c ∧ c ≤ 1114140 := by
    have := hmo.out
    rw [hm1] at this
    unfold isMouse at this
    simp only [Bool.true_eq, Bool.and_eq_true, decide_eq_true_eq] at this
    exact this
  have hI : ∀ N z, mouseN c m b = N + 4 * m → mouseZ c = z → 0 ≤ N → N ≤ 65 → MI OUT w wc bR c m b x y N z := fun N z h2 h3 h4 h5 => mouse_mi e1 h2 h3 ⟨h4, h5⟩ ⟨m0, m7⟩ hxy G1.out hR1.out
  have hc5 : c = 1114139 ∨ c = 1114140 ∨ c = 1114136 ∨ c = 1114137 ∨ c = 1114138 := by omega
  replace hI := Lib.hid hI; replace hc5 := Lib.hid hc5; replace hbB := Lib.hid hbB; replace hxy := Lib.hid hxy; replace e1 := Lib.hid e1; replace hr1 := Lib.hid hr1; replace hm1 := Lib.hid hm1; replace hcm := Lib.hid hcm; replace hnb := Lib.hid hnb
  go_upto_block 0 with fail
  go_cut [9, 10] (fun nv zv wx => ∃ (N : Int) (z : UInt8), nv = .int .i64 N ∧ zv = .string (st [z]) ∧ Hid (MI OUT w wx bR c m b x y N z))
  case first =>
    rcases hc5.out with q | q | q | q | q
    · subst q
      go_wp2_with fail
      go_meet
      exact ⟨64, 77, rfl, rfl, Lib.hid (hI.out 64 77 rfl rfl (by omega) (by omega))⟩
    · subst q
      go_wp2_with fail
      go_meet
      exact ⟨65, 77, rfl, rfl, Lib.hid (hI.out 65 77 rfl rfl (by omega) (by omega))⟩
    all_goals
      subst q
      obtain ⟨b1, b3⟩ := hbB.out (by decide)
      have hw1 : wrap64 (b - 1) = b - 1 := wrap64_id (by omega) (by omega)
      have hw2 : wrap64 (b - 1 + 32) = b - 1 + 32 := wrap64_id (by omega) (by omega)
      go_wp2_with fail
      go_meet
      first
        | exact ⟨b - 1, 77, rfl, rfl, Lib.hid (hI.out (b - 1) 77 rfl rfl (by omega) (by omega))⟩
        | exact ⟨b - 1, 109, rfl, rfl, Lib.hid (hI.out (b - 1) 109 rfl rfl (by omega) (by omega))⟩
        | exact ⟨b - 1 + 32, 77, rfl, rfl, Lib.hid (hI.out (b - 1 + 32) 77 rfl rfl (by omega) (by omega))⟩
  case rest =>
    clear hI
    obtain ⟨N, z, rfl, rfl, hI⟩ := hcut
    obtain ⟨z0, z1, z2, z3, z4, _⟩ := hI.out.hk.cells
    have hnb := hI.out.hn; have hmb := hI.out.hm; have hxy := hI.out.hxy
    clear z0 z2 y0 y1 y2 y3 y4
    dsimp only at z1 z3 z4
    obtain ⟨nn, hnn⟩ : ∃ n, n = N + 4 * m := ⟨_, rfl⟩
    obtain ⟨xx, hxx⟩ : ∃ n, n = x + 1 := ⟨_, rfl⟩
    obtain ⟨yy, hyy⟩ : ∃ n, n = y + 1 := ⟨_, rfl⟩
    have w2 : wrap64 (N + 4 * m) = nn := by rw [hnn, IntWalk.wrap64_in _ (by omega)]
    have w3 : wrap64 (x + 1) = xx := by rw [hxx, IntWalk.wrap64_in _ (by omega)]
    have w4 : wrap64 (y + 1) = yy := by rw [hyy, IntWalk.wrap64_in _ (by omega)]
    obtain ⟨sn, hsn⟩ : ∃ s, s = st (Lib.itoa nn) := ⟨_, rfl⟩
    obtain ⟨sx, hsx⟩ : ∃ s, s = st (Lib.itoa xx) := ⟨_, rfl⟩
    obtain ⟨sy, hsy⟩ : ∃ s, s = st (Lib.itoa yy) := ⟨_, rfl⟩
    obtain ⟨sz, hsz⟩ : ∃ s, s = st [z] := ⟨_, rfl⟩
    have l1 := Lib.itoa_length_le nn (by omega) (by omega)
    have l2 := Lib.itoa_length_le xx (by omega) (by omega)
    have l3 := Lib.itoa_length_le yy (by omega) (by omega)
    obtain ⟨s1, s2, s3, s4, s5, s6, k1, k2, k3, k4, k5, k6, k7⟩ : ∃ s1 s2 s3 s4 s5 s6, Adds ⟨#[27, 91, 60]⟩ sn s1 ∧ Adds s1 ⟨#[59]⟩ s2 ∧ Adds s2 sx s3 ∧ Adds s3 ⟨#[59]⟩ s4 ∧ Adds s4 sy s5 ∧ Adds s5 sz s6 ∧ s6 = st OUT := by
      subst hsn; subst hsx; subst hsy; subst hsz
      refine ⟨_, _, _, _, _, _, adds_st [27, 91, 60] _ (by simp; omega), adds_st _ [59] (by simp; omega), adds_st _ _ (by simp; omega), adds_st _ [59] (by simp; omega), adds_st _ _ (by simp; omega), adds_st _ _ (by simp; omega), ?_⟩
      rw [hI.out.out, hnn, hxx, hyy]
    unfold Adds at k1 k2 k3 k4 k5 k6
    have CS : Hid (∀ (t : Int) (s : ByteArray) (X : Gn wc), ((t = wrap64 (N + 4 * m) ∧ s = sn) ∨ (t = wrap64 (x + 1) ∧ s = sx) ∨ (t = wrap64 (y + 1) ∧ s = sy)) → Calls Tryz.prog 33 #[.int .i64 t] X.V fun e w' => e = .returned (.string s) ∧ ∃ Y : Gn wc, w' = Y.V) := Lib.hid fun t s X h => by
      have go : ∀ z, 0 ≤ z → z ≤ 1000000 → Calls Tryz.prog 33 #[.int .i64 z] X.V fun e w' => e = .returned (.string (st (Lib.itoa z))) ∧ ∃ Y : Gn wc, w' = Y.V := fun z a b => (digits_z z a b X.V).mono fun e w' ⟨h1, h2⟩ => ⟨h1, ⟨w', X.h.trans h2⟩, rfl⟩
      rcases h with ⟨rfl, rfl⟩ | ⟨rfl, rfl⟩ | ⟨rfl, rfl⟩
      · rw [w2, hsn]; exact go _ (by omega) (by omega)
      · rw [w3, hsx]; exact go _ (by omega) (by omega)
      · rw [w4, hsy]; exact go _ (by omega) (by omega)
    rw [← hsz]
    replace w2 := Lib.hid w2; replace w3 := Lib.hid w3; replace w4 := Lib.hid w4
    replace hnn := Lib.hid hnn; replace hxx := Lib.hid hxx; replace hyy := Lib.hid hyy
    replace hsn := Lib.hid hsn; replace hsx := Lib.hid hsx; replace hsy := Lib.hid hsy; replace hsz := Lib.hid hsz; replace k7 := Lib.hid k7
    replace hbm := Lib.hid hbm; replace hxy := Lib.hid hxy; replace hnb := Lib.hid hnb; replace hmb := Lib.hid hmb
    have zz1 : ∀ X : Gn wc, X.V.cell? ⟨bR, 1, none⟩ = some (.int .i64 m) := fun X => X.h.cell z1 (by simp)
    have zz3 : ∀ X : Gn wc, X.V.cell? ⟨bR, 3, none⟩ = some (.int .i64 x) := fun X => X.h.cell z3 (by simp)
    have zz4 : ∀ X : Gn wc, X.V.cell? ⟨bR, 4, none⟩ = some (.int .i64 y) := fun X => X.h.cell z4 (by simp)
    go_upto_region 18 with fail
    refine wp_region_gr (by kernel_rfl) (by kernel_rfl) ?_
    repeat (go_big_quiet_step ((go_at_call 33; exact CS.out _ _ _ (by first | exact .inl ⟨rfl, rfl⟩ | exact .inr (.inl ⟨rfl, rfl⟩) | exact .inr (.inr ⟨rfl, rfl⟩)))))
    refine wpQuiet_nil ?_
    intro _ hw'
    obtain ⟨GX, hw''⟩ := hw'
    subst hw''
    have GW := hI.out.hg.trans GX.h
    generalize GX.V = wg at GW ⊢
    go_wp2_with fail
    go_ret
    exact ⟨by rw [k7.out]; rfl, GW⟩
end Go.Proofs.YtncokbppijnfiaaGreatDoor
