/- Key: Parse. -/
import Derived.Test.YtncokbppijnfiaaGreatDoorD3
namespace Go.Proofs.YtncokbppijnfiaaGreatDoor
open Go.RowKit
set_option linter.unusedSimpArgs false
set_option linter.unusedVariables false

theorem st_drop (l : List UInt8) (k n : Nat) (hn : n = l.length) : (st l).extract k n = st (l.drop k) := by
  rw [Lib.extract_eq]
  subst hn
  have e : (st l).data.toList = l := by simp [st]
  rw [e, List.take_of_length_le (by simp)]
  rfl
/-- Behind the modifiers. -/
structure PI (PM : Option (Int × List UInt8)) (w wx : World) (bK bR : Nat) (t : List UInt8) (m : Int) : Prop where
  e : PM = modsL m t
  k : KC wx bK 0 m
  r : KC wx bR 0 0
  g : w.grownBy wx none
  h0 : 0 ≤ m
  h7 : m ≤ 7
  l : t.length ≤ 1000000
theorem mods_stop {m : Int} {t : List UInt8} (h : t.length ≤ 2 ∨ t[1]? ≠ some 45 ∨ ∃ a, t[0]? = some a ∧ modOf a = 0) : modsL m t = some (m, t) := by
  match t, h with
  | [], _ => rfl
  | [a], _ => rfl
  | [a, b], _ => rfl
  | a :: b :: c :: r, h =>
    unfold modsL
    rw [if_neg]
    rintro ⟨h1, h2⟩
    rcases h with h | h | ⟨x, h3, h4⟩
    · simp at h
    · exact h (by simp [h1])
    · simp at h3; subst h3; exact h2 h4
theorem mods_go {m : Int} {a c : UInt8} {r : List UInt8} (h : modOf a ≠ 0) : modsL m (a :: 45 :: c :: r) = if m / modOf a % 2 = 1 then none else modsL (m + modOf a) (c :: r) := by
  rw [modsL, if_pos ⟨rfl, h⟩]
theorem modOf_cases (a : UInt8) : (a = 67 ∧ modOf a = 4) ∨ (a = 77 ∧ modOf a = 2) ∨ (a = 83 ∧ modOf a = 1) ∨ (a ≠ 67 ∧ a ≠ 77 ∧ a ≠ 83 ∧ modOf a = 0) := by
  unfold modOf
  by_cases h1 : a = 67
  · left; exact ⟨h1, if_pos h1⟩
  by_cases h2 : a = 77
  · right; left; exact ⟨h2, by rw [if_neg h1, if_pos h2]⟩
  by_cases h3 : a = 83
  · right; right; left; exact ⟨h3, by rw [if_neg h1, if_neg h2, if_pos h3]⟩
  right; right; right
  exact ⟨h1, h2, h3, by rw [if_neg h1, if_neg h2, if_neg h3]⟩
theorem toNat_ne {a : UInt8} {n : Nat} (hn : n < 256) (h : a ≠ UInt8.ofNat n) : ¬ (a.toNat : Int) = n := fun e => h (by
  apply UInt8.toNat_inj.1
  rw [UInt8.toNat_ofNat']; omega)
def sizeS : Value → Nat | .string b => b.size | _ => 0
theorem plainK_I64 {c m : Int} (hc : I64 c) (h : c ≤ 9000000000) : I64 (plainK c m).1 := by
  unfold plainK lowK I64 at *
  repeat' split
  all_goals (dsimp only; omega)
theorem codeL_in (s : List UInt8) : -1 ≤ codeL s ∧ codeL s ≤ 1114142 := by
  unfold codeL
  repeat' split
  all_goals first | omega | skip
  · rename_i h
    have : specialsL.idxOf s < specialsL.length := List.idxOf_lt_length_of_mem h
    have hl : specialsL.length = 31 := by decide
    omega
  · have := decodeGo_in (st s); omega
def errL : Option (Int × Int) → Int
  | none => 6
  | some _ => 0
set_option maxHeartbeats 4000000 in
set_option maxRecDepth 100000 in
theorem parse_any (s : List UInt8) (hs : s.length ≤ 1000000) (w : World) (hW : Wd w) :
    Calls Tryz.prog 11 #[.string (st s)] w fun e w' => e = .returned (.tuple #[keyV ((parseL s).getD (0, 0)).1 ((parseL s).getD (0, 0)).2, .int .i64 (errL (parseL s))]) ∧ w.grownBy w' none := by
  have hres : Tryz.f11.results = #[.cell 2 23, .tmp 3] := by kernel_rfl
  obtain ⟨PM, hPM⟩ : ∃ r, r = modsL 0 s := ⟨_, rfl⟩
  obtain ⟨PL, hPL⟩ : ∃ r, r = parseL s := ⟨_, rfl⟩
  rw [← hPL]
  have hPL2 : PL = PM.bind fun p => finL p.1 p.2 := by rw [hPL, hPM]; rfl
  obtain ⟨W0, hW0⟩ : ∃ W, W = (w.alloc (.cells #[.int .i64 0, .int .i64 0] 23)).alloc (.cells #[.int .i64 0, .int .i64 0] 23) := ⟨_, rfl⟩
  obtain ⟨bK, hbK⟩ : ∃ n, n = w.heap.size + 1 := ⟨_, rfl⟩
  obtain ⟨bR, hbR⟩ : ∃ n, n = w.heap.size := ⟨_, rfl⟩
  have g0 : w.grownBy W0 none := by rw [hW0]; exact g_alloc (World.grownBy_alloc _ _ _) _
  have hK0 : KC W0 bK 0 0 := by rw [hW0, hbK]; have := KC.new (w.alloc (.cells #[.int .i64 0, .int .i64 0] 23)) 0 0; rwa [World.size_alloc] at this
  have hR0 : KC W0 bR 0 0 := by rw [hW0, hbR]; exact (KC.new w 0 0).grown (World.grownBy_alloc _ _ _)
  have hne : bK ≠ bR := by omega
  have hbK' : w.heap.size ≤ bK := by omega
  have hbR' : w.heap.size ≤ bR := by omega
  replace hW := Lib.hid hW; replace hW0 := Lib.hid hW0; replace g0 := Lib.hid g0; replace hR0 := Lib.hid hR0; replace hK0 := Lib.hid hK0; replace hbR := Lib.hid hbR; replace hbK := Lib.hid hbK; replace hres := Lib.hid hres; replace hPL := Lib.hid hPL; replace hPL2 := Lib.hid hPL2; replace hPM := Lib.hid hPM
  go_enter Tryz.func11, Tryz.ntmps11
  go_upto_block 0 with fail
  rw [show w.heap.size + 1 = bK from hbK.out.symm, ← hbR.out, ← hW0.out]
  go_cut [0] (fun sv wx => ∃ (t : List UInt8) (m : Int), sv = .string (st t) ∧ Hid (PI PM w wx bK bR t m ∧ PM = some (m, t)))
  case first =>
    go_wp2_with fail
    go_loopw [0] (fun sv wr => ∃ (t : List UInt8) (m : Int), sv = .string (st t) ∧ Hid (PI PM w wr bK bR t m)) (fun sv _ => sizeS sv)
    case atStart => exact ⟨s, 0, rfl, Lib.hid ⟨hPM.out, hK0.out, hR0.out, g0.out, by omega, by omega, hs⟩⟩
    case round =>
      obtain ⟨t, m, rfl, hI⟩ := hrel
      obtain ⟨y0, y1, y2⟩ := hI.out.k.cells
      obtain ⟨z0, z1, z2⟩ := hI.out.r.cells
      have y3 := y2 1; have z3 := z2 0; have z4 := z2 1
      clear y2 z2
      obtain ⟨S, hS⟩ : ∃ S, S = st t := ⟨_, rfl⟩
      rw [← hS]
      have hstop : (t.length ≤ 2 ∨ t[1]? ≠ some 45 ∨ ∃ a, t[0]? = some a ∧ modOf a = 0) → PM = some (m, t) := fun h => by rw [hI.out.e]; exact mods_stop h
      replace hstop := Lib.hid hstop
      have hsh : t.length ≤ 2 ∨ ∃ a b c r, t = a :: b :: c :: r := by
        match t with
        | [] => left; simp
        | [a] => left; simp
        | [a, b] => left; simp
        | a :: b :: c :: r => right; exact ⟨a, b, c, r, rfl⟩
      rcases hsh with h2 | ⟨a, b, c, r, ht⟩
      · have hZ : S.size = t.length := by rw [hS, st_size]
        have hZ2 : ¬ (2 : Int) < (t.length : Int) := by omega
        have e1 := hstop.out (.inl h2)
        obtain ⟨L, hL⟩ : ∃ n, n = t.length := ⟨_, rfl⟩
        rw [← hL] at hZ hZ2
        replace e1 := Lib.hid e1; replace hS := Lib.hid hS; replace hL := Lib.hid hL; replace h2 := Lib.hid h2
        go_wp2_with fail
        go_meet
        exact ⟨t, m, by rw [hS.out], Lib.hid ⟨hI.out, e1.out⟩⟩
      · subst ht
        have hZ : S.size = r.length + 3 := by rw [hS, st_size]; rfl
        have hG0 : ∀ h, S[0]'h = a := by subst hS; intro h; rfl
        have hG1 : ∀ h, S[1]'h = b := by subst hS; intro h; rfl
        have hX : S.extract 2 (r.length + 3) = st (c :: r) := by rw [hS]; exact st_drop (a :: b :: c :: r) 2 _ rfl
        have hrl : r.length ≤ 1000000 := by have := hI.out.l; simp at this; omega
        by_cases hb45 : b = 45
        rotate_left
        · have hb1 : ¬ (b.toNat : Int) = 45 := toNat_ne (n := 45) (by omega) hb45
          have e1 := hstop.out (.inr (.inl (by simpa using hb45)))
          replace e1 := Lib.hid e1; replace hS := Lib.hid hS; replace hb45 := Lib.hid hb45
          go_wp2_with fail
          go_meet
          exact ⟨a :: b :: c :: r, m, by rw [hS.out], Lib.hid ⟨hI.out, e1.out⟩⟩
        have hb1 : (b.toNat : Int) = 45 := by rw [hb45]; rfl
        rcases modOf_cases a with ⟨ha, hma⟩ | ⟨ha, hma⟩ | ⟨ha, hma⟩ | ⟨ha1, ha2, ha3, hma⟩
        · subst ha
          by_cases hm : m / 4 % 2 = 1
          · have hq1 := and_k (k := 4) hI.out.h0 hI.out.h7 (by omega)
            rw [if_pos hm] at hq1
            have e1 : PM = none := by rw [hI.out.e, hb45, mods_go (by rw [hma]; decide), hma, if_pos hm]
            have e2 : PL = none := by rw [hPL2.out, e1]; rfl
            have hfin := hI.out.r.set2 0 0
            have gfin := set2_grown 0 0 hI.out.g hbR'
            replace hS := Lib.hid hS; replace hb45 := Lib.hid hb45; replace hm := Lib.hid hm; replace e1 := Lib.hid e1; replace e2 := Lib.hid e2; replace hma := Lib.hid hma; replace hfin := Lib.hid hfin; replace gfin := Lib.hid gfin
            go_wp2_with fail
            refine bodyPost_ret (res_k2 hres.out _ rfl hfin.out rfl) rfl ⟨?_, gfin.out⟩
            rw [e2.out]; rfl
          · have hq1 := and_k (k := 4) hI.out.h0 hI.out.h7 (by omega)
            rw [if_neg hm] at hq1
            obtain ⟨hb2, hb3⟩ := or_k (k := 4) hI.out.h0 hI.out.h7 (by omega) hm
            have e1 : PM = modsL (m + 4) (c :: r) := by rw [hI.out.e, hb45, mods_go (by rw [hma]; decide), hma, if_neg hm]
            have hk2 := hI.out.k.set1 (m + 4)
            have hr2 := hI.out.r.other hne 1 (.int .i64 (m + 4))
            have g2 := set_grown (j := 1) (v := .int .i64 (m + 4)) hI.out.g hbK'
            have hl2 : (c :: r).length ≤ 1000000 := by have := hI.out.l; simp at this ⊢; omega
            have hm2 : 0 ≤ m + 4 := by have := hI.out.h0; omega
            replace hS := Lib.hid hS; replace hb45 := Lib.hid hb45; replace hm := Lib.hid hm; replace e1 := Lib.hid e1; replace hma := Lib.hid hma; replace hk2 := Lib.hid hk2; replace hr2 := Lib.hid hr2; replace g2 := Lib.hid g2
            go_wp2_with fail
            exact ⟨⟨c :: r, m + 4, by first | rfl | rw [hX], Lib.hid ⟨e1.out, hk2.out, hr2.out, g2.out, hm2, hb3, hl2⟩⟩, by simp [sizeS, hX, hZ]; try (rw [st_size]; simp; try omega)⟩
        · subst ha
          by_cases hm : m / 2 % 2 = 1
          · have hq1 := and_k (k := 2) hI.out.h0 hI.out.h7 (by omega)
            rw [if_pos hm] at hq1
            have e1 : PM = none := by rw [hI.out.e, hb45, mods_go (by rw [hma]; decide), hma, if_pos hm]
            have e2 : PL = none := by rw [hPL2.out, e1]; rfl
            have hfin := hI.out.r.set2 0 0
            have gfin := set2_grown 0 0 hI.out.g hbR'
            replace hS := Lib.hid hS; replace hb45 := Lib.hid hb45; replace hm := Lib.hid hm; replace e1 := Lib.hid e1; replace e2 := Lib.hid e2; replace hma := Lib.hid hma; replace hfin := Lib.hid hfin; replace gfin := Lib.hid gfin
            go_wp2_with fail
            refine bodyPost_ret (res_k2 hres.out _ rfl hfin.out rfl) rfl ⟨?_, gfin.out⟩
            rw [e2.out]; rfl
          · have hq1 := and_k (k := 2) hI.out.h0 hI.out.h7 (by omega)
            rw [if_neg hm] at hq1
            obtain ⟨hb2, hb3⟩ := or_k (k := 2) hI.out.h0 hI.out.h7 (by omega) hm
            have e1 : PM = modsL (m + 2) (c :: r) := by rw [hI.out.e, hb45, mods_go (by rw [hma]; decide), hma, if_neg hm]
            have hk2 := hI.out.k.set1 (m + 2)
            have hr2 := hI.out.r.other hne 1 (.int .i64 (m + 2))
            have g2 := set_grown (j := 1) (v := .int .i64 (m + 2)) hI.out.g hbK'
            have hl2 : (c :: r).length ≤ 1000000 := by have := hI.out.l; simp at this ⊢; omega
            have hm2 : 0 ≤ m + 2 := by have := hI.out.h0; omega
            replace hS := Lib.hid hS; replace hb45 := Lib.hid hb45; replace hm := Lib.hid hm; replace e1 := Lib.hid e1; replace hma := Lib.hid hma; replace hk2 := Lib.hid hk2; replace hr2 := Lib.hid hr2; replace g2 := Lib.hid g2
            go_wp2_with fail
            exact ⟨⟨c :: r, m + 2, by first | rfl | rw [hX], Lib.hid ⟨e1.out, hk2.out, hr2.out, g2.out, hm2, hb3, hl2⟩⟩, by simp [sizeS, hX, hZ]; try (rw [st_size]; simp; try omega)⟩
        · subst ha
          by_cases hm : m / 1 % 2 = 1
          · have hq1 := and_k (k := 1) hI.out.h0 hI.out.h7 (by omega)
            rw [if_pos hm] at hq1
            have e1 : PM = none := by rw [hI.out.e, hb45, mods_go (by rw [hma]; decide), hma, if_pos hm]
            have e2 : PL = none := by rw [hPL2.out, e1]; rfl
            have hfin := hI.out.r.set2 0 0
            have gfin := set2_grown 0 0 hI.out.g hbR'
            replace hS := Lib.hid hS; replace hb45 := Lib.hid hb45; replace hm := Lib.hid hm; replace e1 := Lib.hid e1; replace e2 := Lib.hid e2; replace hma := Lib.hid hma; replace hfin := Lib.hid hfin; replace gfin := Lib.hid gfin
            go_wp2_with fail
            refine bodyPost_ret (res_k2 hres.out _ rfl hfin.out rfl) rfl ⟨?_, gfin.out⟩
            rw [e2.out]; rfl
          · have hq1 := and_k (k := 1) hI.out.h0 hI.out.h7 (by omega)
            rw [if_neg hm] at hq1
            obtain ⟨hb2, hb3⟩ := or_k (k := 1) hI.out.h0 hI.out.h7 (by omega) hm
            have e1 : PM = modsL (m + 1) (c :: r) := by rw [hI.out.e, hb45, mods_go (by rw [hma]; decide), hma, if_neg hm]
            have hk2 := hI.out.k.set1 (m + 1)
            have hr2 := hI.out.r.other hne 1 (.int .i64 (m + 1))
            have g2 := set_grown (j := 1) (v := .int .i64 (m + 1)) hI.out.g hbK'
            have hl2 : (c :: r).length ≤ 1000000 := by have := hI.out.l; simp at this ⊢; omega
            have hm2 : 0 ≤ m + 1 := by have := hI.out.h0; omega
            replace hS := Lib.hid hS; replace hb45 := Lib.hid hb45; replace hm := Lib.hid hm; replace e1 := Lib.hid e1; replace hma := Lib.hid hma; replace hk2 := Lib.hid hk2; replace hr2 := Lib.hid hr2; replace g2 := Lib.hid g2
            go_wp2_with fail
            exact ⟨⟨c :: r, m + 1, by first | rfl | rw [hX], Lib.hid ⟨e1.out, hk2.out, hr2.out, g2.out, hm2, hb3, hl2⟩⟩, by simp [sizeS, hX, hZ]; try (rw [st_size]; simp; try omega)⟩
        · have q1 : ¬ (a.toNat : Int) = 67 := toNat_ne (n := 67) (by omega) ha1
          have q2 : ¬ (a.toNat : Int) = 77 := toNat_ne (n := 77) (by omega) ha2
          have q3 : ¬ (a.toNat : Int) = 83 := toNat_ne (n := 83) (by omega) ha3
          have e1 := hstop.out (.inr (.inr ⟨a, rfl, hma⟩))
          replace e1 := Lib.hid e1; replace hS := Lib.hid hS; replace hb45 := Lib.hid hb45; replace ha1 := Lib.hid ha1; replace ha2 := Lib.hid ha2; replace ha3 := Lib.hid ha3; replace hma := Lib.hid hma
          go_wp2_with fail
          go_meet
          exact ⟨a :: b :: c :: r, m, by rw [hS.out], Lib.hid ⟨hI.out, e1.out⟩⟩
  case rest =>
    obtain ⟨t, m, rfl, hI⟩ := hcut
    have hPL3 : PL = finL m t := by rw [hPL2.out, hI.out.2]; rfl
    have W1 := hW.out.grown hI.out.1.g
    have CC := Lib.hid (code_any t hI.out.1.l wc W1)
    obtain ⟨y0, y1, y2⟩ := hI.out.1.k.cells
    obtain ⟨z0, z1, z2⟩ := hI.out.1.r.cells
    have hcd := codeL_in t
    obtain ⟨cd, hcde⟩ : ∃ r, r = codeL t := ⟨_, rfl⟩
    unfold finL at hPL3
    rw [← hcde] at CC hPL3 hcd
    have m0 := hI.out.1.h0; have m7 := hI.out.1.h7
    have b4 := and_k (k := 4) m0 m7 (by omega)
    have hc64 : I64 cd := by unfold I64; omega
    replace hcde := Lib.hid hcde; replace hPL3 := Lib.hid hPL3; replace W1 := Lib.hid W1
    clear y0 y1 y2 z0 z1 z2
    go_wp2_with fail
    refine CC.out.mono ?_
    rintro e w2 ⟨rfl, g2⟩
    have hk2 := hI.out.1.k.grown g2; have hr2 := hI.out.1.r.grown g2; have G2 := hI.out.1.g.trans g2
    obtain ⟨y0, y1, y2⟩ := hk2.cells
    obtain ⟨z0, z1, z2⟩ := hr2.cells
    have y3 := y2 0; have y4 := y2 1; have z3 := z2 0; have z4 := z2 1
    have hk3 := hk2.set0 cd
    have hr3 := hr2.other hne 0 (.int .i64 cd)
    have G3 := set_grown (j := 0) (v := .int .i64 cd) G2 hbK'
    obtain ⟨W3, hW3⟩ : ∃ W, W = w2.setCell ⟨bK, 0, none⟩ (.int .i64 cd) := ⟨_, rfl⟩
    rw [← hW3] at hk3 hr3 G3
    clear y0 z0 y1 z1 y2 z2 z3 z4
    replace hk2 := Lib.hid hk2; replace hr2 := Lib.hid hr2; replace G2 := Lib.hid G2
    obtain ⟨u, hu⟩ : ∃ u, w2.cell? ⟨bK, 0, none⟩ = some u := ⟨_, hk2.out.cells.1⟩
    go_upto_region 17 with fail
    rw [← hW3]
    obtain ⟨a0, a1, a2⟩ := hk3.cells
    obtain ⟨r0, r1, r2⟩ := hr3.cells
    have a3 := a2 0; have a4 := a2 1; have r3 := r2 0; have r4 := r2 1
    have W3' := hW.out.grown G3
    clear hu y3 y4 CC a2 r2
    -- what is left: the key (c, m) in bK
    have hend : Hid (∀ (W : World) (c' m' : Int), KC W bK c' m' → KC W bR 0 0 → w.grownBy W none → True) := Lib.hid fun _ _ _ _ _ _ => trivial
    by_cases h4 : 4 ≤ m
    · have hq : m / 4 % 2 = 1 := by omega
      rw [if_pos hq] at b4
      have CP := Lib.hid (plain_any cd m hc64 ⟨h4, m7⟩ W3)
      have hP64 := plainK_I64 (m := m) hc64 (by omega)
      have CR := fun W (h : Wd W) => right_any (plainK cd m).1 (plainK cd m).2 hP64 W h
      have hPL4 : PL = if rightK (plainK cd m).1 (plainK cd m).2 then some (plainK cd m) else none := by rw [hPL3.out, if_pos h4]
      obtain ⟨PK, hPK⟩ : ∃ r, r = plainK cd m := ⟨_, rfl⟩
      rw [← hPK] at CP CR hPL4
      obtain ⟨rr, hrr⟩ : ∃ r, r = rightK PK.1 PK.2 := ⟨_, rfl⟩
      rw [← hrr] at CR hPL4
      replace hW3 := Lib.hid hW3; replace hk3 := Lib.hid hk3; replace hr3 := Lib.hid hr3; replace G3 := Lib.hid G3; replace W3' := Lib.hid W3'; replace CR := Lib.hid CR; replace hPL4 := Lib.hid hPL4; replace hPK := Lib.hid hPK; replace hrr := Lib.hid hrr; replace hP64 := Lib.hid hP64
      unfold keyV at *
      go_wp2_with fail
      refine CP.out.mono ?_
      rintro e w5 ⟨rfl, g5⟩
      have hk5 := hk3.out.grown g5; have hr5 := hr3.out.grown g5; have G5 := G3.out.trans g5
      obtain ⟨c0, c1, c2⟩ := hk5.cells
      have c3 := c2 0; have c4 := c2 1
      have hk6 := hk5.set2 PK.1 PK.2
      have hr6 := (hr5.other hne 0 (.int .i64 PK.1)).other hne 1 (.int .i64 PK.2)
      have G6 := set2_grown PK.1 PK.2 G5 hbK'
      have hW6 := hW.out.grown G6
      unfold set2 at hk6 G6 hW6
      clear a0 a1 a3 a4 r0 r1 r3 r4 CP c2
      replace hk5 := Lib.hid hk5; replace hr5 := Lib.hid hr5; replace G5 := Lib.hid G5
      go_upto_region 19 with fail
      obtain ⟨W6, hW6e⟩ : ∃ W, W = (w5.setCell ⟨bK, 0, none⟩ (.int .i64 PK.1)).setCell ⟨bK, 1, none⟩ (.int .i64 PK.2) := ⟨_, rfl⟩
      rw [← hW6e] at hk6 hr6 G6 hW6 ⊢
      obtain ⟨d0, d1, _⟩ := hk6.cells
      have CR6 := Lib.hid (CR.out W6 hW6)
      replace hW6e := Lib.hid hW6e; replace hk6 := Lib.hid hk6; replace hr6 := Lib.hid hr6; replace G6 := Lib.hid G6; replace hW6 := Lib.hid hW6
      clear c0 c1 c3 c4 g5
      go_wp2_with fail
      refine CR6.out.mono ?_
      rintro e w7 ⟨rfl, g7⟩
      have hk7 := hk6.out.grown g7; have hr7 := hr6.out.grown g7; have G7 := G6.out.trans g7
      obtain ⟨e0, e1, _⟩ := hk7.cells
      obtain ⟨f0, f1, f2⟩ := hr7.cells
      have f3 := f2 0; have f4 := f2 1
      clear f2 d0 d1 CR6 g7
      cases rr
      · have hP : PL = none := by rw [hPL4.out, if_neg (by simp)]
        have hfin := hr7.set2 0 0
        have gfin := set2_grown 0 0 G7 hbR'
        replace hP := Lib.hid hP; replace hfin := Lib.hid hfin; replace gfin := Lib.hid gfin; replace hk7 := Lib.hid hk7; replace hr7 := Lib.hid hr7; replace G7 := Lib.hid G7
        go_wp2_with fail
        refine bodyPost_ret (res_k2 hres.out _ rfl hfin.out rfl) rfl ⟨?_, gfin.out⟩
        rw [hP.out]; rfl
      · have hP : PL = some PK := by rw [hPL4.out, if_pos rfl]
        have hfin := hr7.set2 PK.1 PK.2
        have gfin := set2_grown PK.1 PK.2 G7 hbR'
        replace hP := Lib.hid hP; replace hfin := Lib.hid hfin; replace gfin := Lib.hid gfin; replace hk7 := Lib.hid hk7; replace hr7 := Lib.hid hr7; replace G7 := Lib.hid G7
        go_wp2_with fail
        refine bodyPost_ret (res_k2 hres.out _ rfl hfin.out rfl) rfl ⟨?_, gfin.out⟩
        rw [hP.out]; rfl
    · have hq : ¬ m / 4 % 2 = 1 := by omega
      rw [if_neg hq] at b4
      have CR := right_any cd m hc64 W3 W3'
      have hPL4 : PL = if rightK cd m then some (cd, m) else none := by rw [hPL3.out, if_neg h4]
      obtain ⟨rr, hrr⟩ : ∃ r, r = rightK cd m := ⟨_, rfl⟩
      rw [← hrr] at CR hPL4
      replace hW3 := Lib.hid hW3; replace hk3 := Lib.hid hk3; replace hr3 := Lib.hid hr3; replace G3 := Lib.hid G3; replace W3' := Lib.hid W3'; replace CR := Lib.hid CR; replace hPL4 := Lib.hid hPL4; replace hrr := Lib.hid hrr
      unfold keyV at *
      go_wp2_with fail
      refine CR.out.mono ?_
      rintro e w7 ⟨rfl, g7⟩
      have hk7 := hk3.out.grown g7; have hr7 := hr3.out.grown g7; have G7 := G3.out.trans g7
      obtain ⟨e0, e1, _⟩ := hk7.cells
      obtain ⟨f0, f1, f2⟩ := hr7.cells
      have f3 := f2 0; have f4 := f2 1
      clear f2 a0 a1 a3 a4 r0 r1 r3 r4 CR g7
      cases rr
      · have hP : PL = none := by rw [hPL4.out, if_neg (by simp)]
        have hfin := hr7.set2 0 0
        have gfin := set2_grown 0 0 G7 hbR'
        replace hP := Lib.hid hP; replace hfin := Lib.hid hfin; replace gfin := Lib.hid gfin; replace hk7 := Lib.hid hk7; replace hr7 := Lib.hid hr7; replace G7 := Lib.hid G7
        go_wp2_with fail
        refine bodyPost_ret (res_k2 hres.out _ rfl hfin.out rfl) rfl ⟨?_, gfin.out⟩
        rw [hP.out]; rfl
      · have hP : PL = some (cd, m) := by rw [hPL4.out, if_pos rfl]
        have hfin := hr7.set2 cd m
        have gfin := set2_grown cd m G7 hbR'
        replace hP := Lib.hid hP; replace hfin := Lib.hid hfin; replace gfin := Lib.hid gfin; replace hk7 := Lib.hid hk7; replace hr7 := Lib.hid hr7; replace G7 := Lib.hid G7
        go_wp2_with fail
        refine bodyPost_ret (res_k2 hres.out _ rfl hfin.out rfl) rfl ⟨?_, gfin.out⟩
        rw [hP.out]; rfl
end Go.Proofs.YtncokbppijnfiaaGreatDoor
