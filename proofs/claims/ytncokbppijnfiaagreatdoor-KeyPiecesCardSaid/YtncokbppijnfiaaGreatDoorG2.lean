/- Key: sequence, in general. -/
import Derived.Test.YtncokbppijnfiaaGreatDoorC10
import Derived.Test.YtncokbppijnfiaaGreatDoorG1
import Derived.Test.YtncokbppijnfiaaGreatDoorD2
namespace Go.Proofs.YtncokbppijnfiaaGreatDoor
open Go.RowKit
set_option linter.unusedSimpArgs false
set_option linter.unusedVariables false

theorem letteredL_in (z : UInt8) : letteredL z = 0 ∨ (1114112 ≤ letteredL z ∧ letteredL z ≤ 1114125) := by
  unfold letteredL
  repeat' split
  all_goals first | (left; rfl) | (right; omega)
theorem trim_no (p : List UInt8) (h : p.head? ≠ some 60) : Lib.trimPrefix p [60] = p ∧ Lib.hasPrefix p [60] = false := by
  cases p with
  | nil => exact ⟨rfl, rfl⟩
  | cons a r =>
    have ha : a ≠ 60 := fun e => h (by rw [e]; rfl)
    have e2 : Lib.hasPrefix (a :: r) [60] = false := by simp [Lib.hasPrefix, List.isPrefixOf, Ne.symm ha]
    exact ⟨by unfold Lib.trimPrefix; rw [e2]; rfl, e2⟩
theorem take2 (p : List UInt8) : Lib.hasPrefix p [49, 59] = decide (p.take 2 = [49, 59]) := by
  match p with
  | [] => rfl
  | [a] => simp [Lib.hasPrefix, List.isPrefixOf]
  | a :: b :: r =>
    show (List.isPrefixOf [49, 59] (a :: b :: r)) = decide ([a, b] = [49, 59])
    simp only [List.isPrefixOf, Bool.and_true]
    by_cases h1 : a = 49
    · subst h1
      by_cases h2 : b = 59
      · subst h2; rfl
      · have h3 : ((59 : UInt8) == b) = false := by rw [beq_eq_false_iff_ne]; exact Ne.symm h2
        rw [h3]; simp [h2]
    · have h3 : ((49 : UInt8) == a) = false := by rw [beq_eq_false_iff_ne]; exact Ne.symm h1
      rw [h3]; simp [h1]
theorem listedF_len : ∀ {ps : List (List UInt8)} {l : List Int}, listedF ps = some l → l.length = ps.length
  | [], l, h => by simp [listedF] at h; subst h; rfl
  | d :: r, l, h => by
    unfold listedF at h
    cases hd : numL d with
    | none => rw [hd] at h; cases h
    | some u =>
      rw [hd] at h
      dsimp only at h
      cases hr : listedF r with
      | none => rw [hr] at h; cases h
      | some l' =>
        rw [hr] at h
        simp only [Option.map_some, Option.some.injEq] at h
        subst h
        simp [listedF_len hr]
theorem listed_pos {p : List UInt8} {l : List Int} (h : listedL p = some l) : 1 ≤ l.length := by
  rw [listedF_len h, pieces_len]; omega
/-- The rest of sequence, behind the numbers. -/
def seqEnd (p : List UInt8) (z : UInt8) (l : List Int) : Ms × Bool :=
  if 2 < l.length ∨ (l.length = 2 ∧ (l.getD 1 0 < 2 ∨ 8 < l.getD 1 0)) then (msNone, false)
  else if z = 126 then (msOne (tildeL (l.getD 0 0)) (if l.length = 2 then l.getD 1 0 - 1 else 0), decide (tildeL (l.getD 0 0) ≠ 0 ∧ (tildeL (l.getD 0 0) < 1114141 ∨ l.length = 1)))
  else (msOne (letteredL z) (if l.length = 2 then l.getD 1 0 - 1 else 0), decide (letteredL z ≠ 0 ∧ l.length = 2 ∧ p.take 2 = [49, 59]))
set_option maxHeartbeats 4000000 in
set_option maxRecDepth 100000 in
theorem sequence_any (p : List UInt8) (z : UInt8) (hp : p.length ≤ 90000) (w : World) (hW : Wd w) :
    Calls Tryz.prog 75 #[.string (st p), .int .u8 (z.toNat : Int)] w fun e w' => e = .returned (.tuple #[msV (sequenceL p z).1, .bool (sequenceL p z).2]) ∧ w.grownBy w' none := by
  by_cases h60 : p.head? = some 60
  · obtain ⟨q, rfl⟩ : ∃ q, p = 60 :: q := by
      cases p with
      | nil => cases h60
      | cons a r => injection h60 with h; exact ⟨r, by rw [h]⟩
    exact sequence_lt q z (by simp at hp; omega) (fun l h => listedL_bound l h) w hW
  have hres : Tryz.f75.results = #[.cell 4 40, .tmp 5] := by kernel_rfl
  obtain ⟨hT1, hT2⟩ := trim_no p h60
  have CC : Hid (∀ W, Calls Tryz.prog 85 #[.string (st p), .string ⟨#[60]⟩] W fun e w' => e = .returned (.tuple #[.string (st p), .bool false]) ∧ w' = W) := Lib.hid fun W => by
    have := Tryz.strings_CutPrefix (st p) ⟨#[60]⟩ W
    have e1 : Lib.trimPrefix (st p).data.toList (⟨#[60]⟩ : ByteArray).data.toList = p := by rw [st_data]; exact hT1
    have e2 : Lib.hasPrefix (st p).data.toList (⟨#[60]⟩ : ByteArray).data.toList = false := by rw [st_data]; exact hT2
    rw [e1, e2] at this
    exact this
  have CH : Hid (∀ W, Calls Tryz.prog 40 #[.string (st p), .string ⟨#[49, 59]⟩] W fun e w' => e = .returned (.bool (decide (p.take 2 = [49, 59]))) ∧ w' = W) := Lib.hid fun W => by
    have := Tryz.strings_HasPrefix (st p) ⟨#[49, 59]⟩ W
    rw [st_data] at this
    rw [← take2]; exact this
  have CL : Hid (∀ W, Wd W → Calls Tryz.prog 62 #[.int .u8 (z.toNat : Int)] W fun e w' => e = .returned (.int .i64 (letteredL z)) ∧ w' = W) := Lib.hid fun W h => lettered_any z W h
  have CO : Hid (∀ c m W, Calls Tryz.prog 60 #[.int .i64 c, .int .i64 m] W fun e w' => e = .returned (msV (msOne c m)) ∧ W.grownBy w' none) := Lib.hid fun c m W => one_any c m W
  have CT : Hid (∀ n, 0 ≤ n → n ≤ 9999 → ∀ W, Wd W → Calls Tryz.prog 88 #[.int .i64 n] W fun e w' => e = .returned (.int .i64 (tildeL n)) ∧ W.grownBy w' none) := Lib.hid fun n a b W h => tilde_any n a b W h
  have CI : Hid (∀ W, Wd W → Calls Tryz.prog 87 #[.string (st p)] W fun e w' => W.grownBy w' none ∧ ((listedL p = none ∧ e = .returned (.tuple #[.slice none 0 0, .bool false])) ∨ ∃ l A c, listedL p = some l ∧ l.length ≤ 100001 ∧ e = .returned (.tuple #[.slice A l.length c, .bool true]) ∧ Rd w' A (ints l))) := Lib.hid fun W h => listed_any p (by omega) W h
  have hSL : sequenceL p z = if p = [] ∧ z = 90 then (msOne 1114134 0, true) else if p = [] then (msOne (letteredL z) 0, decide (letteredL z ≠ 0 ∧ letteredL z < 1114122)) else match listedL p with | none => (msNone, false) | some l => seqEnd p z l := by
    unfold sequenceL
    rw [if_neg h60]
    rfl
  have hlz := letteredL_in z
  obtain ⟨LZ, hLZ⟩ : ∃ r, r = letteredL z := ⟨_, rfl⟩
  obtain ⟨SL, hSLe⟩ : ∃ r, r = sequenceL p z := ⟨_, rfl⟩
  rw [← hSLe] at hSL ⊢
  have hLs : ∀ l, listedL p = some l → ∀ v ∈ l, 0 ≤ v ∧ v ≤ 9999 := fun l h => listedL_bound l h
  obtain ⟨zi, hzi⟩ : ∃ i : Int, i = z.toNat := ⟨_, rfl⟩
  obtain ⟨S, hS⟩ : ∃ S, S = st p := ⟨_, rfl⟩
  obtain ⟨L1, hL1⟩ : ∃ l, l = listedL p := ⟨_, rfl⟩
  rw [← hL1] at CI hSL hLs
  rw [← hLZ] at CL hSL hlz
  rw [← hzi] at CL ⊢
  rw [← hS] at CC CH CI ⊢
  have hSz : S.toList = p := by rw [hS]; exact st_toList p
  obtain ⟨W0, hW0⟩ : ∃ W, W = w.alloc (.cells #[.int .i64 0, .int .i64 0, .int .i64 0, .int .i64 0, .int .i64 0] 40) := ⟨_, rfl⟩
  have g0 : w.grownBy W0 none := by rw [hW0]; exact World.grownBy_alloc _ _ _
  obtain ⟨bR, hbR⟩ : ∃ n, n = w.heap.size := ⟨_, rfl⟩
  have hR0 : MC W0 bR msNone := by rw [hW0, hbR]; exact MC.new w msNone
  have CL0 := Lib.hid (CL.out W0 (hW.grown g0))
  have CI0 := Lib.hid (CI.out W0 (hW.grown g0))
  replace g0 := Lib.hid g0; replace hR0 := Lib.hid hR0; replace hbR := Lib.hid hbR; replace hW0 := Lib.hid hW0; replace hW := Lib.hid hW; replace hres := Lib.hid hres; replace hS := Lib.hid hS; replace hSL := Lib.hid hSL; replace hLZ := Lib.hid hLZ; replace hSLe := Lib.hid hSLe; replace hLs := Lib.hid hLs; replace hL1 := Lib.hid hL1; replace hT1 := Lib.hid hT1; replace hT2 := Lib.hid hT2; replace h60 := Lib.hid h60; replace hlz := Lib.hid hlz; replace hzi := Lib.hid hzi
  clear CL CI
  -- the end: what is returned
  have hEnd : Hid (∀ (W : World) (k : Ms) (b : Bool), SL = (k, b) → W0.grownBy W none → MC (set5 W bR k) bR k ∧ SL = (k, b) ∧ w.grownBy (set5 W bR k) none) := Lib.hid fun W k b e g => ⟨(hR0.out.grown g).set5 k, e, set5_grown k (g0.out.trans g) (Nat.le_of_eq hbR.out.symm)⟩
  have hCells : Hid (∀ W, W0.grownBy W none → MC W bR msNone) := Lib.hid fun W g => hR0.out.grown g
  go_enter Tryz.func75, Tryz.ntmps75
  go_wp2_with fail
  rw [← hW0.out, ← hbR.out]
  refine (CC.out _).mono ?_
  rintro e w1 ⟨rfl, rfl⟩
  clear CC
  go_wp2_with fail
  refine CL0.out.mono ?_
  rintro e w2 ⟨rfl, rfl⟩
  clear CL0
  by_cases hp0 : p = []
  · have hSe : S.toList.isEmpty = true := by rw [hSz, hp0]; rfl
    replace hSz := Lib.hid hSz
    by_cases hz90 : z = 90
    · have e1 : SL = (msOne 1114134 0, true) := by rw [hSL.out, if_pos ⟨hp0, hz90⟩]
      have hz1 : zi = 90 := by rw [hzi.out, hz90]; rfl
      subst hz1
      replace e1 := Lib.hid e1; replace hz90 := Lib.hid hz90; replace hp0 := Lib.hid hp0
      go_wp2_with fail
      refine (CO.out _ _ _).mono ?_
      rintro e w4 ⟨rfl, g4⟩
      obtain ⟨q1, q2, q3⟩ := hEnd.out w4 _ _ e1.out g4
      obtain ⟨x0, x1, x2, x3, x4, x5⟩ := (hCells.out w4 g4).cells
      have f0 := x5 0; have f1 := x5 1; have f2 := x5 2; have f3 := x5 3; have f4 := x5 4
      replace q1 := Lib.hid q1; replace q2 := Lib.hid q2; replace q3 := Lib.hid q3
      clear x5 g4
      go_wp2_with fail
      refine bodyPost_ret (res_ms2 hres.out _ rfl q1.out rfl) rfl ⟨?_, q3.out⟩
      rw [q2.out]; rfl
    · have hz1 : ¬ zi = 90 := fun e => hz90 (UInt8.toNat_inj.1 (by have := hzi.out; show z.toNat = 90; omega))
      obtain ⟨bb, hbb⟩ : ∃ b : Bool, b = decide (LZ ≠ 0 ∧ LZ < 1114122) := ⟨_, rfl⟩
      have e1 : SL = (msOne LZ 0, bb) := by rw [hSL.out, if_neg (fun h => hz90 h.2), if_pos hp0, hbb]
      replace e1 := Lib.hid e1; replace hz90 := Lib.hid hz90; replace hp0 := Lib.hid hp0
      have hcs : (LZ = 0 ∧ bb = false) ∨ (LZ ≠ 0 ∧ LZ < 1114122 ∧ bb = true) ∨ (LZ ≠ 0 ∧ 1114122 ≤ LZ ∧ bb = false) := by
        rw [hbb]
        by_cases a : LZ = 0
        · left; exact ⟨a, by simp [a]⟩
        · by_cases b : LZ < 1114122
          · right; left; exact ⟨a, b, by simp [a, b]⟩
          · right; right; exact ⟨a, by omega, by simp [a]; omega⟩
      replace hbb := Lib.hid hbb
      rcases hcs with ⟨a, b⟩ | ⟨a, a', b⟩ | ⟨a, a', b⟩
      all_goals
        subst b
        try subst a
        try (have hq1 : (LZ == 0) = false := by rw [beq_eq_false_iff_ne]; exact a)
        try (have hq2 : (LZ != 0) = true := by rw [bne, hq1]; rfl)
        try (have hq3 : decide (LZ < 1114122) = true := decide_eq_true a')
        try (have hq3 : decide (LZ < 1114122) = false := decide_eq_false (by omega))
        go_wp2_with fail
        refine (CO.out _ _ _).mono ?_
        rintro e w4 ⟨rfl, g4⟩
        obtain ⟨q1, q2, q3⟩ := hEnd.out w4 _ _ e1.out g4
        obtain ⟨x0, x1, x2, x3, x4, x5⟩ := (hCells.out w4 g4).cells
        have f0 := x5 0; have f1 := x5 1; have f2 := x5 2; have f3 := x5 3; have f4 := x5 4
        replace q1 := Lib.hid q1; replace q2 := Lib.hid q2; replace q3 := Lib.hid q3
        clear x5 g4
        go_wp2_with fail
        refine bodyPost_ret (res_ms2 hres.out _ rfl q1.out rfl) rfl ⟨?_, q3.out⟩
        rw [q2.out]; rfl
  · have hSe : S.toList.isEmpty = false := by
      rw [hSz]
      cases p with
      | nil => exact absurd rfl hp0
      | cons a r => rfl
    rw [if_neg (fun h => hp0 h.1), if_neg hp0] at hSL
    replace hSz := Lib.hid hSz; replace hp0 := Lib.hid hp0
    go_wp2_with fail
    refine CI0.out.mono ?_
    rintro e w4 ⟨g4, hcase⟩
    clear CI0
    have W4 := (hW.out.grown g0.out).grown g4
    obtain ⟨x0, x1, x2, x3, x4, x5⟩ := (hCells.out w4 g4).cells
    have f0 := x5 0; have f1 := x5 1; have f2 := x5 2; have f3 := x5 3; have f4 := x5 4
    clear x5
    replace g4 := Lib.hid g4; replace W4 := Lib.hid W4
    rcases hcase with ⟨hno, rfl⟩ | ⟨l, A, c, hyes, hl5, rfl, hRd⟩
    · have e1 : SL = (msNone, false) := by rw [hSL.out, hno]
      obtain ⟨q1, q2, q3⟩ := hEnd.out w4 _ _ e1 g4.out
      replace q1 := Lib.hid q1; replace q2 := Lib.hid q2; replace q3 := Lib.hid q3; replace e1 := Lib.hid e1; replace hno := Lib.hid hno
      go_wp2_with fail
      refine bodyPost_ret (res_ms2 hres.out _ rfl q1.out rfl) rfl ⟨?_, q3.out⟩
      rw [q2.out]; rfl
    have e1 : SL = seqEnd p z l := by rw [hSL.out, hyes]
    have hv := hLs.out l hyes
    unfold seqEnd at e1
    obtain ⟨n, hn⟩ : ∃ n, n = l.length := ⟨_, rfl⟩
    rw [← hn] at e1 hl5 ⊢
    replace hyes := Lib.hid hyes
    by_cases hn2 : 2 < n
    · rw [if_pos (.inl hn2)] at e1
      obtain ⟨q1, q2, q3⟩ := hEnd.out w4 _ _ e1 g4.out
      have hn2' : (2 : Int) < (n : Int) := by omega
      replace q1 := Lib.hid q1; replace q2 := Lib.hid q2; replace q3 := Lib.hid q3; replace e1 := Lib.hid e1; replace hn := Lib.hid hn; replace hRd := Lib.hid hRd; replace hv := Lib.hid hv
      go_wp2_with fail
      refine bodyPost_ret (res_ms2 hres.out _ rfl q1.out rfl) rfl ⟨?_, q3.out⟩
      rw [q2.out]; rfl
    have hnn : n = 1 ∨ n = 2 := by
      have : 1 ≤ n := by rw [hn]; exact listed_pos (by rw [← hL1.out]; exact hyes.out)
      omega
    rcases hnn with h1 | h1
    · subst h1
      obtain ⟨a, rfl⟩ : ∃ a, l = [a] := by
        match l, hn with
        | [a], _ => exact ⟨a, rfl⟩
      rw [if_neg (by omega)] at e1
      have hva := hv a (by simp)
      obtain ⟨B, o, rfl, _, a0⟩ := hRd.at_ (j := 0) (u := .int .i64 a) rfl
      rw [Nat.add_zero] at a0
      clear x0 x1 x2 x3 x4 f0 f1 f2 f3 f4
      replace hn := Lib.hid hn; replace hRd := Lib.hid hRd; replace hv := Lib.hid hv
      rw [if_neg (show ¬ (1 = 2) by omega)] at e1
      by_cases hz126 : z = 126
      · skip
        rw [if_pos hz126] at e1
        have hz1 : zi = 126 := by rw [hzi.out, hz126]; rfl
        subst hz1
        replace hz126 := Lib.hid hz126
        have CTa := Lib.hid (CT.out a hva.1 hva.2 w4 W4.out)
        obtain ⟨TL, hTL⟩ : ∃ t, t = tildeL a := ⟨_, rfl⟩
        rw [← hTL] at CTa
        replace e1 : SL = (msOne TL 0, decide (TL ≠ 0 ∧ (TL < 1114141 ∨ 1 = 1))) := by rw [e1, hTL]; rfl
        replace hTL := Lib.hid hTL
        go_wp2_with fail
        refine CTa.out.mono ?_
        rintro e w5 ⟨rfl, g5⟩
        have G5 := g4.out.trans g5
        replace G5 := Lib.hid G5
        obtain ⟨x0, x1, x2, x3, x4, x5⟩ := (hCells.out w5 G5.out).cells
        clear x0 x1 x2 x3 x4 x5 CTa
        have r0 := g5.cell a0 (by simp)
        clear g5
        by_cases ht0 : TL = 0
        · have e2 : SL = (msOne 0 0, false) := by rw [e1, ht0]; simp
          subst ht0
          replace e2 := Lib.hid e2; replace e1 := Lib.hid e1
          go_wp2_with fail
          refine (CO.out _ _ _).mono ?_
          rintro e w6 ⟨rfl, g6⟩
          have g46 := G5.out.trans g6
          obtain ⟨q1, q2, q3⟩ := hEnd.out w6 _ _ e2.out g46
          obtain ⟨x0, x1, x2, x3, x4, x5⟩ := (hCells.out w6 g46).cells
          have f0 := x5 0; have f1 := x5 1; have f2 := x5 2; have f3 := x5 3; have f4 := x5 4
          replace q1 := Lib.hid q1; replace q2 := Lib.hid q2; replace q3 := Lib.hid q3; replace g46 := Lib.hid g46
          clear x5 g6
          go_wp2_with fail
          refine bodyPost_ret (res_ms2 hres.out _ rfl q1.out rfl) rfl ⟨?_, q3.out⟩
          rw [q2.out]; rfl
        have e2 : SL = (msOne TL 0, true) := by rw [e1]; simp [ht0]
        replace e2 := Lib.hid e2; replace e1 := Lib.hid e1
        by_cases htl : TL < 1114141
        · skip
          have hq1 : (TL == 0) = false := by rw [beq_eq_false_iff_ne]; exact ht0
          have hq2 : (TL != 0) = true := by rw [bne, hq1]; rfl
          have hq3 : decide (TL < 1114141) = true := decide_eq_true htl
          go_wp2_with fail
          refine (CO.out _ _ _).mono ?_
          rintro e w6 ⟨rfl, g6⟩
          have g46 := G5.out.trans g6
          obtain ⟨q1, q2, q3⟩ := hEnd.out w6 _ _ e2.out g46
          obtain ⟨x0, x1, x2, x3, x4, x5⟩ := (hCells.out w6 g46).cells
          have f0 := x5 0; have f1 := x5 1; have f2 := x5 2; have f3 := x5 3; have f4 := x5 4
          replace q1 := Lib.hid q1; replace q2 := Lib.hid q2; replace q3 := Lib.hid q3; replace g46 := Lib.hid g46
          clear x5 g6
          go_wp2_with fail
          refine bodyPost_ret (res_ms2 hres.out _ rfl q1.out rfl) rfl ⟨?_, q3.out⟩
          rw [q2.out]; rfl
        · skip
          have hq1 : (TL == 0) = false := by rw [beq_eq_false_iff_ne]; exact ht0
          have hq2 : (TL != 0) = true := by rw [bne, hq1]; rfl
          have hq3 : decide (TL < 1114141) = false := decide_eq_false htl
          go_wp2_with fail
          refine (CO.out _ _ _).mono ?_
          rintro e w6 ⟨rfl, g6⟩
          have g46 := G5.out.trans g6
          obtain ⟨q1, q2, q3⟩ := hEnd.out w6 _ _ e2.out g46
          obtain ⟨x0, x1, x2, x3, x4, x5⟩ := (hCells.out w6 g46).cells
          have f0 := x5 0; have f1 := x5 1; have f2 := x5 2; have f3 := x5 3; have f4 := x5 4
          replace q1 := Lib.hid q1; replace q2 := Lib.hid q2; replace q3 := Lib.hid q3; replace g46 := Lib.hid g46
          clear x5 g6
          go_wp2_with fail
          refine bodyPost_ret (res_ms2 hres.out _ rfl q1.out rfl) rfl ⟨?_, q3.out⟩
          rw [q2.out]; rfl
      · skip
        rw [if_neg hz126] at e1
        have hz1 : ¬ zi = 126 := fun e => hz126 (UInt8.toNat_inj.1 (by have := hzi.out; show z.toNat = 126; omega))
        replace hz126 := Lib.hid hz126
        have e2 : SL = (msOne LZ 0, false) := by rw [e1, hLZ.out]; simp
        have G5 := g4
        replace e2 := Lib.hid e2; replace e1 := Lib.hid e1
        by_cases ht0 : LZ = 0
        · subst ht0
          go_wp2_with fail
          refine (CO.out _ _ _).mono ?_
          rintro e w6 ⟨rfl, g6⟩
          have g46 := G5.out.trans g6
          obtain ⟨q1, q2, q3⟩ := hEnd.out w6 _ _ e2.out g46
          obtain ⟨x0, x1, x2, x3, x4, x5⟩ := (hCells.out w6 g46).cells
          have f0 := x5 0; have f1 := x5 1; have f2 := x5 2; have f3 := x5 3; have f4 := x5 4
          replace q1 := Lib.hid q1; replace q2 := Lib.hid q2; replace q3 := Lib.hid q3; replace g46 := Lib.hid g46
          clear x5 g6
          go_wp2_with fail
          refine bodyPost_ret (res_ms2 hres.out _ rfl q1.out rfl) rfl ⟨?_, q3.out⟩
          rw [q2.out]; rfl
        · have hq1 : (LZ == 0) = false := by rw [beq_eq_false_iff_ne]; exact ht0
          have hq2 : (LZ != 0) = true := by rw [bne, hq1]; rfl
          go_wp2_with fail
          refine (CO.out _ _ _).mono ?_
          rintro e w6 ⟨rfl, g6⟩
          have g46 := G5.out.trans g6
          obtain ⟨q1, q2, q3⟩ := hEnd.out w6 _ _ e2.out g46
          obtain ⟨x0, x1, x2, x3, x4, x5⟩ := (hCells.out w6 g46).cells
          have f0 := x5 0; have f1 := x5 1; have f2 := x5 2; have f3 := x5 3; have f4 := x5 4
          replace q1 := Lib.hid q1; replace q2 := Lib.hid q2; replace q3 := Lib.hid q3; replace g46 := Lib.hid g46
          clear x5 g6
          go_wp2_with fail
          refine bodyPost_ret (res_ms2 hres.out _ rfl q1.out rfl) rfl ⟨?_, q3.out⟩
          rw [q2.out]; rfl
    · subst h1
      obtain ⟨a, b, rfl⟩ : ∃ a b, l = [a, b] := by
        match l, hn with
        | [a, b], _ => exact ⟨a, b, rfl⟩
      have hva := hv a (by simp)
      have hvb := hv b (by simp)
      obtain ⟨B, o, rfl, _, a0⟩ := hRd.at_ (j := 0) (u := .int .i64 a) rfl
      obtain ⟨_, _, e', _, a1⟩ := hRd.at_ (j := 1) (u := .int .i64 b) rfl
      cases e'
      rw [Nat.add_zero] at a0
      by_cases hbb : b < 2 ∨ 8 < b
      · rw [if_pos (.inr ⟨rfl, hbb⟩)] at e1
        obtain ⟨q1, q2, q3⟩ := hEnd.out w4 _ _ e1 g4.out
        replace q1 := Lib.hid q1; replace q2 := Lib.hid q2; replace q3 := Lib.hid q3; replace e1 := Lib.hid e1; replace hn := Lib.hid hn; replace hRd := Lib.hid hRd; replace hv := Lib.hid hv
        by_cases hb2 : b < 2
        · have hd1 : decide (b < 2) = true := decide_eq_true hb2
          clear hbb
          go_wp2_with fail
          refine bodyPost_ret (res_ms2 hres.out _ rfl q1.out rfl) rfl ⟨?_, q3.out⟩
          rw [q2.out]; rfl
        · have hd1 : decide (b < 2) = false := decide_eq_false hb2
          have hb8 : 8 < b := by omega
          have hd2 : decide (8 < b) = true := decide_eq_true hb8
          clear hbb
          go_wp2_with fail
          refine bodyPost_ret (res_ms2 hres.out _ rfl q1.out rfl) rfl ⟨?_, q3.out⟩
          rw [q2.out]; rfl
      rw [if_neg (by rintro (h | ⟨_, h⟩); omega; exact hbb h)] at e1
      have hb2 : 2 ≤ b := by omega
      have hb8 : b ≤ 8 := by omega
      have hd1 : decide (b < 2) = false := decide_eq_false (by omega)
      have hd2 : decide (8 < b) = false := decide_eq_false (by omega)
      clear x0 x1 x2 x3 x4 f0 f1 f2 f3 f4 hbb
      have hwb : wrap64 (b - 1) = b - 1 := IntWalk.wrap64_in _ (by omega)
      replace hn := Lib.hid hn; replace hRd := Lib.hid hRd; replace hv := Lib.hid hv
      rw [if_pos (show 2 = 2 from rfl)] at e1
      by_cases hz126 : z = 126
      · skip
        rw [if_pos hz126] at e1
        have hz1 : zi = 126 := by rw [hzi.out, hz126]; rfl
        subst hz1
        replace hz126 := Lib.hid hz126
        have CTa := Lib.hid (CT.out a hva.1 hva.2 w4 W4.out)
        obtain ⟨TL, hTL⟩ : ∃ t, t = tildeL a := ⟨_, rfl⟩
        rw [← hTL] at CTa
        replace e1 : SL = (msOne TL (b - 1), decide (TL ≠ 0 ∧ (TL < 1114141 ∨ 2 = 1))) := by rw [e1, hTL]; rfl
        replace hTL := Lib.hid hTL
        go_wp2_with fail
        refine CTa.out.mono ?_
        rintro e w5 ⟨rfl, g5⟩
        have G5 := g4.out.trans g5
        replace G5 := Lib.hid G5
        obtain ⟨x0, x1, x2, x3, x4, x5⟩ := (hCells.out w5 G5.out).cells
        clear x0 x1 x2 x3 x4 x5 CTa
        have r0 := g5.cell a0 (by simp)
        have r1 := g5.cell a1 (by simp)
        clear g5
        by_cases ht0 : TL = 0
        · have e2 : SL = (msOne 0 (b - 1), false) := by rw [e1, ht0]; simp
          subst ht0
          replace e2 := Lib.hid e2; replace e1 := Lib.hid e1
          go_wp2_with fail
          refine (CO.out _ _ _).mono ?_
          rintro e w6 ⟨rfl, g6⟩
          have g46 := G5.out.trans g6
          obtain ⟨q1, q2, q3⟩ := hEnd.out w6 _ _ e2.out g46
          obtain ⟨x0, x1, x2, x3, x4, x5⟩ := (hCells.out w6 g46).cells
          have f0 := x5 0; have f1 := x5 1; have f2 := x5 2; have f3 := x5 3; have f4 := x5 4
          replace q1 := Lib.hid q1; replace q2 := Lib.hid q2; replace q3 := Lib.hid q3; replace g46 := Lib.hid g46
          clear x5 g6
          go_wp2_with fail
          refine bodyPost_ret (res_ms2 hres.out _ rfl q1.out rfl) rfl ⟨?_, q3.out⟩
          rw [q2.out]; rfl
        by_cases htl : TL < 1114141
        · have e2 : SL = (msOne TL (b - 1), true) := by rw [e1]; simp [ht0, htl]
          replace e2 := Lib.hid e2; replace e1 := Lib.hid e1
          have hq1 : (TL == 0) = false := by rw [beq_eq_false_iff_ne]; exact ht0
          have hq2 : (TL != 0) = true := by rw [bne, hq1]; rfl
          have hq3 : decide (TL < 1114141) = true := decide_eq_true htl
          go_wp2_with fail
          refine (CO.out _ _ _).mono ?_
          rintro e w6 ⟨rfl, g6⟩
          have g46 := G5.out.trans g6
          obtain ⟨q1, q2, q3⟩ := hEnd.out w6 _ _ e2.out g46
          obtain ⟨x0, x1, x2, x3, x4, x5⟩ := (hCells.out w6 g46).cells
          have f0 := x5 0; have f1 := x5 1; have f2 := x5 2; have f3 := x5 3; have f4 := x5 4
          replace q1 := Lib.hid q1; replace q2 := Lib.hid q2; replace q3 := Lib.hid q3; replace g46 := Lib.hid g46
          clear x5 g6
          go_wp2_with fail
          refine bodyPost_ret (res_ms2 hres.out _ rfl q1.out rfl) rfl ⟨?_, q3.out⟩
          rw [q2.out]; rfl
        · have e2 : SL = (msOne TL (b - 1), false) := by rw [e1]; simp [ht0]; omega
          replace e2 := Lib.hid e2; replace e1 := Lib.hid e1
          have hq1 : (TL == 0) = false := by rw [beq_eq_false_iff_ne]; exact ht0
          have hq2 : (TL != 0) = true := by rw [bne, hq1]; rfl
          have hq3 : decide (TL < 1114141) = false := decide_eq_false htl
          go_wp2_with fail
          refine (CO.out _ _ _).mono ?_
          rintro e w6 ⟨rfl, g6⟩
          have g46 := G5.out.trans g6
          obtain ⟨q1, q2, q3⟩ := hEnd.out w6 _ _ e2.out g46
          obtain ⟨x0, x1, x2, x3, x4, x5⟩ := (hCells.out w6 g46).cells
          have f0 := x5 0; have f1 := x5 1; have f2 := x5 2; have f3 := x5 3; have f4 := x5 4
          replace q1 := Lib.hid q1; replace q2 := Lib.hid q2; replace q3 := Lib.hid q3; replace g46 := Lib.hid g46
          clear x5 g6
          go_wp2_with fail
          refine bodyPost_ret (res_ms2 hres.out _ rfl q1.out rfl) rfl ⟨?_, q3.out⟩
          rw [q2.out]; rfl
      · skip
        rw [if_neg hz126] at e1
        have hz1 : ¬ zi = 126 := fun e => hz126 (UInt8.toNat_inj.1 (by have := hzi.out; show z.toNat = 126; omega))
        replace hz126 := Lib.hid hz126
        have G5 := g4
        replace e1 : SL = (msOne LZ (b - 1), decide (LZ ≠ 0 ∧ 2 = 2 ∧ p.take 2 = [49, 59])) := by rw [e1, hLZ.out]; rfl
        obtain ⟨pp, hpp⟩ : ∃ b : Bool, b = decide (p.take 2 = [49, 59]) := ⟨_, rfl⟩
        rw [← hpp] at CH
        by_cases ht0 : LZ = 0
        · have e2 : SL = (msOne 0 (b - 1), false) := by rw [e1, ht0]; simp
          subst ht0
          replace e2 := Lib.hid e2; replace e1 := Lib.hid e1; replace hpp := Lib.hid hpp
          go_wp2_with fail
          refine (CO.out _ _ _).mono ?_
          rintro e w6 ⟨rfl, g6⟩
          have g46 := G5.out.trans g6
          obtain ⟨q1, q2, q3⟩ := hEnd.out w6 _ _ e2.out g46
          obtain ⟨x0, x1, x2, x3, x4, x5⟩ := (hCells.out w6 g46).cells
          have f0 := x5 0; have f1 := x5 1; have f2 := x5 2; have f3 := x5 3; have f4 := x5 4
          replace q1 := Lib.hid q1; replace q2 := Lib.hid q2; replace q3 := Lib.hid q3; replace g46 := Lib.hid g46
          clear x5 g6
          go_wp2_with fail
          refine bodyPost_ret (res_ms2 hres.out _ rfl q1.out rfl) rfl ⟨?_, q3.out⟩
          rw [q2.out]; rfl
        · have e2 : SL = (msOne LZ (b - 1), pp) := by rw [e1, hpp]; simp [ht0]
          replace e2 := Lib.hid e2; replace e1 := Lib.hid e1; replace hpp := Lib.hid hpp
          have hq1 : (LZ == 0) = false := by rw [beq_eq_false_iff_ne]; exact ht0
          have hq2 : (LZ != 0) = true := by rw [bne, hq1]; rfl
          go_wp2_with fail
          refine (CO.out _ _ _).mono ?_
          rintro e w6 ⟨rfl, g6⟩
          have g46 := G5.out.trans g6
          obtain ⟨q1, q2, q3⟩ := hEnd.out w6 _ _ e2.out g46
          obtain ⟨x0, x1, x2, x3, x4, x5⟩ := (hCells.out w6 g46).cells
          have f0 := x5 0; have f1 := x5 1; have f2 := x5 2; have f3 := x5 3; have f4 := x5 4
          replace q1 := Lib.hid q1; replace q2 := Lib.hid q2; replace q3 := Lib.hid q3; replace g46 := Lib.hid g46
          clear x5 g6
          go_wp2_with fail
          refine (CH.out _).mono ?_
          rintro e w7 ⟨rfl, rfl⟩
          go_wp2_with fail
          refine bodyPost_ret (res_ms2 hres.out _ rfl q1.out rfl) rfl ⟨?_, q3.out⟩
          rw [q2.out]; rfl
end Go.Proofs.YtncokbppijnfiaaGreatDoor
