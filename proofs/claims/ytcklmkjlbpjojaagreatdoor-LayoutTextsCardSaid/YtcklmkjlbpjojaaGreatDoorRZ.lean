/- Layout: the walk of LayoutTexts. -/
import Derived.Test.YtcklmkjlbpjojaaGreatDoorRY
namespace Go.Proofs.YtcklmkjlbpjojaaGreatDoor
open Go.RowKit
set_option linter.unusedSimpArgs false
set_option linter.unusedVariables false

theorem sign_at : ∀ q, (hq : q < 16) → (⟨#[48, 49, 50, 51, 52, 53, 54, 55, 56, 57, 97, 98, 99, 100, 101, 102]⟩ : ByteArray)[q]'(by show q < 16; exact hq) = hexd q := by
  intro q hq
  rcases (by omega : q = 0 ∨ q = 1 ∨ q = 2 ∨ q = 3 ∨ q = 4 ∨ q = 5 ∨ q = 6 ∨ q = 7 ∨ q = 8 ∨ q = 9 ∨ q = 10 ∨ q = 11 ∨ q = 12 ∨ q = 13 ∨ q = 14 ∨ q = 15) with rfl | rfl | rfl | rfl | rfl | rfl | rfl | rfl | rfl | rfl | rfl | rfl | rfl | rfl | rfl | rfl <;> rfl
@[go_sem high] theorem run_index_hex (i : Int) (w : World) (h0 : 0 ≤ i) (h1 : i ≤ 15) : Sem.run Tryz.prog (Instr.index 9 (.string ⟨#[48, 49, 50, 51, 52, 53, 54, 55, 56, 57, 97, 98, 99, 100, 101, 102]⟩) (.int .i64 i)) w = .ok (.int .u8 ((hexd i.toNat).toNat : Int)) w := by
  have hi : 0 ≤ i ∧ i < ((⟨#[48, 49, 50, 51, 52, 53, 54, 55, 56, 57, 97, 98, 99, 100, 101, 102]⟩ : ByteArray).size : Int) := by
    refine ⟨h0, ?_⟩
    show i < ((16 : Nat) : Int)
    omega
  rw [run_index_string w 9 _ .i64 i Tryz.underlying9, dif_pos hi]
  rw [← sign_at i.toNat (by omega)]
theorem Both2.grown {B tr tr2 : Nat} {w0 w w1 : World} {t u : T} (h : Both2 B tr tr2 w0 w t u) (g : w.grownBy w1 none) (hB : B ≤ w0.heap.size) : Both2 B tr tr2 w0 w1 t u :=
  ⟨h.ht.grown g, h.hu.grown g, h.lo, below_grown h.be g hB, h.al, h.nt, h.nu⟩
set_option maxHeartbeats 4000000 in
set_option maxRecDepth 100000 in
theorem texts_any (z : Int) (s : List UInt8) (w : World) (i1 : I64 z) (hs : s.length ≤ 9223372036854775807) (hTab : Tab w) (hD : Deb w) :
    Calls Tryz.prog 3 #[.int .i64 z, .string (st s)] w fun e w' => e = .returned (.bool true) ∧ Below w.heap.size w w' := by
  have CS := Lib.hid (shown_any w hTab hD)
  obtain ⟨k, hk⟩ : ∃ k : Nat, k = pickN z 6 := ⟨_, rfl⟩
  have hk6 : k < 6 := by rw [hk]; exact pickN_lt _ (by omega)
  have CP : Hid (∀ W, Calls Tryz.prog 8 #[.int .i64 z, .int .i64 6] W fun e w' => e = .returned (.int .i64 (k : Int)) ∧ w' = W) := Lib.hid fun W => by
    rw [hk]; exact (pick_any z 6 W i1.1 i1.2 (by omega) (by omega)).mono fun e w' h => ⟨h.1, h.2.symm⟩
  obtain ⟨S, hS⟩ : ∃ S, S = st s := ⟨_, rfl⟩
  rw [← hS]
  obtain ⟨n, hn⟩ : ∃ n, n = s.length := ⟨_, rfl⟩
  have hZ : S.size = n := by rw [hS, st_size, hn]
  obtain ⟨sm, hsm⟩ : ∃ m, m = sumB s := ⟨_, rfl⟩
  have hsm6 : sm < 65536 := by rw [hsm]; exact sumB_lt _
  have C11 : Hid (∀ W, Calls Tryz.prog 11 #[.string S] W fun e w' => e = .returned (.int .i64 (sm : Int)) ∧ w' = W) := Lib.hid fun W => by
    rw [hS, hsm]; exact (sum_any s W hs).mono fun e w' h => ⟨h.1, h.2.symm⟩
  have C12 : Hid (∀ W, Calls Tryz.prog 12 #[.string S] W fun e w' => e = .returned (.int .i64 (sm : Int)) ∧ w' = W) := Lib.hid fun W => by
    rw [hS, hsm]; exact sumR_any s W hs
  have hw1 : IntKind.i64.wrap (1 + (k : Int)) = 1 + (k : Int) := by rw [IntKind.wrap_i64]; omega
  have hn63 : n ≤ 9223372036854775807 := by omega
  replace hk := Lib.hid hk; replace hS := Lib.hid hS; replace hn := Lib.hid hn; replace hsm := Lib.hid hsm; replace hs := Lib.hid hs; replace hTab := Lib.hid hTab; replace hD := Lib.hid hD; replace i1 := Lib.hid i1
  go_enter Tryz.func3, Tryz.ntmps3
  go_wp2_with fail
  refine CS.out.mono ?_
  rintro e w1 ⟨rfl, b1⟩
  have CM := Lib.hid (made_nil w1)
  replace b1 := Lib.hid b1
  clear CS
  go_wp2_with fail
  refine CM.out.mono ?_
  rintro e w2 ⟨tr, g, rfl, hT2, g2⟩
  have CN := Lib.hid (newR w2)
  replace hT2 := Lib.hid hT2; replace g2 := Lib.hid g2
  clear CM
  unfold ptr
  go_wp2_with fail
  refine CN.out.mono ?_
  rintro e w3 ⟨gr, tr2, rfl, l1, l2, l3, hU3, g3⟩
  have hww : w.heap.size ≤ w2.heap.size := Nat.le_trans b1.out.size g2.out.size
  have hP : Panes w.heap.size tr tr2 w 0 w3 := Panes.start ((hT2.out.base_le b1.out.size).grown g3) hU3 ⟨by omega, by omega⟩ (below_grown b1.out (g2.out.trans g3) (Nat.le_refl _))
  replace hP := Lib.hid hP; replace hU3 := Lib.hid hU3; replace g3 := Lib.hid g3
  clear CN l1 l2 l3 hww
  unfold ptr
  go_wp2_with fail
  refine (CP.out _).mono ?_
  rintro e w3' ⟨rfl, rfl⟩
  go_wp2_with fail
  go_loopw [10] (fun iv wr => ∃ j : Nat, j ≤ k ∧ iv = .int .i64 ((j : Int) + 2) ∧ Hid (Panes w.heap.size tr tr2 w j wr)) (fun iv _ => k + 2 - (intOf iv).toNat)
  case atStart => exact ⟨0, by omega, rfl, hP⟩
  case round =>
    obtain ⟨j, hj, rfl, hI⟩ := hrel
    by_cases hlt : j < k
    · have C9 := Lib.hid (hI.out.next (by omega) (Nat.le_refl _))
      unfold ptr at C9
      have hbd : bdOf j = ((j : Int) % 2 == 0) := by
        unfold bdOf
        rcases Nat.mod_two_eq_zero_or_one j with h | h
        · have : (j : Int) % 2 = 0 := by omega
          rw [this, h]; rfl
        · have : (j : Int) % 2 = 1 := by omega
          rw [this, h]; rfl
      rw [hbd] at C9
      replace hbd := Lib.hid hbd
      go_wp2_with fail
      refine C9.out.mono ?_
      rintro e w4 ⟨rfl, C10⟩
      replace C10 := Lib.hid C10
      clear C9
      go_wp2_with fail
      refine C10.out.mono ?_
      rintro e w5 ⟨rfl, hI2⟩
      replace hI2 := Lib.hid hI2
      clear C10
      go_wp2_with fail
      exact ⟨⟨j + 1, by omega, by go_num, hI2⟩, by simp [intOf]; omega⟩
    · have hje : j = k := by omega
      subst hje
      obtain ⟨t, u, hB⟩ := hI.out.two (by omega)
      have hDB : ∀ W, Below w.heap.size w W → Deb W := fun W h => hD.out.below h
      have hTB : ∀ W, Below w.heap.size w W → Tab W := fun W h => hTab.out.below h
      obtain ⟨err, C13⟩ := hB.calls (s := s) (Nat.le_refl _) hD.out hDB hs.out
      rw [← hS.out] at C13
      replace C13 := Lib.hid C13; replace hB := Lib.hid hB; replace hDB := Lib.hid hDB; replace hTB := Lib.hid hTB
      unfold ptr at C13
      go_wp2_with fail
      refine (C11.out _).mono ?_
      rintro e w4 ⟨rfl, rfl⟩
      go_wp2_with fail
      refine (C12.out _).mono ?_
      rintro e w5 ⟨rfl, rfl⟩
      go_wp2_with fail
      refine C13.out.mono ?_
      rintro e w6 ⟨rfl, C14⟩
      replace C14 := Lib.hid C14
      clear C13
      go_wp2_with fail
      refine C14.out.mono ?_
      rintro e w7 ⟨rfl, t1, u1, hB1⟩
      have CA := Lib.hid (alike_any w.heap.size tr tr2 t1 u1 w7 hB1.ht hB1.hu hB1.al hB1.nt hB1.nu (hTB.out _ hB1.be) (hDB.out _ hB1.be))
      replace hB1 := Lib.hid hB1
      unfold ptr at CA
      clear C14
      go_wp2_with fail
      refine CA.out.mono ?_
      rintro e w8 ⟨rfl, g8⟩
      have hB8 : Both2 w.heap.size tr tr2 w w8 t1 u1 := hB1.out.grown g8 (Nat.le_refl _)
      replace g8 := Lib.hid g8; replace hB8 := Lib.hid hB8
      clear CA
      by_cases hL : 5000 < n
      · go_wp2_with fail
        go_ret
        exact ⟨rfl, hB8.out.be⟩
      go_wp2_with fail
      refine (C12.out _).mono ?_
      rintro e w9 ⟨rfl, rfl⟩
      go_upto_region 18 with fail
      obtain ⟨q1, hq1⟩ : ∃ q, q = sm / 4096 % 16 := ⟨_, rfl⟩
      obtain ⟨q2, hq2⟩ : ∃ q, q = sm / 256 % 16 := ⟨_, rfl⟩
      obtain ⟨q3, hq3⟩ : ∃ q, q = sm / 16 % 16 := ⟨_, rfl⟩
      obtain ⟨q4, hq4⟩ : ∃ q, q = sm % 16 := ⟨_, rfl⟩
      have e1 : (sm : Int) / 4096 = (q1 : Int) := by omega
      have e2 : ((sm : Int) / 256).tmod 16 = (q2 : Int) := by rw [Int.tmod_eq_emod_of_nonneg (by omega)]; omega
      have e3 : ((sm : Int) / 16).tmod 16 = (q3 : Int) := by rw [Int.tmod_eq_emod_of_nonneg (by omega)]; omega
      have e4 : (sm : Int) % 16 = (q4 : Int) := by omega
      have e4' : (sm : Int).tmod 16 = (q4 : Int) := by rw [Int.tmod_eq_emod_of_nonneg (by omega)]; omega
      have b1' : q1 < 16 := by omega
      have b2' : q2 < 16 := by omega
      have b3' : q3 < 16 := by omega
      have b4' : q4 < 16 := by omega
      have z1 : IntKind.i64.wrap (q1 : Int) = (q1 : Int) := by rw [IntKind.wrap_i64]; omega
      have z2 : IntKind.i64.wrap (q2 : Int) = (q2 : Int) := by rw [IntKind.wrap_i64]; omega
      have z3 : IntKind.i64.wrap (q3 : Int) = (q3 : Int) := by rw [IntKind.wrap_i64]; omega
      have z4 : IntKind.i64.wrap (q4 : Int) = (q4 : Int) := by rw [IntKind.wrap_i64]; omega
      have z5 : IntKind.i64.wrap ((sm : Int) / 256) = (sm : Int) / 256 := by rw [IntKind.wrap_i64]; omega
      have z6 : IntKind.i64.wrap ((sm : Int) / 16) = (sm : Int) / 16 := by rw [IntKind.wrap_i64]; omega
      have x1 : (q1 : Int) ≤ 15 := by omega
      have x2 : (q2 : Int) ≤ 15 := by omega
      have x3 : (q3 : Int) ≤ 15 := by omega
      have x4 : (q4 : Int) ≤ 15 := by omega
      replace hq1 := Lib.hid hq1; replace hq2 := Lib.hid hq2; replace hq3 := Lib.hid hq3; replace hq4 := Lib.hid hq4
      go_still_tail 14, (by kernel_rfl)
      change wpList _ _ _ _ _ (World.drew _)
      go_upto_region 19 with fail
      obtain ⟨WB, hWB⟩ : ∃ WB, WB = (w9.alloc (.cells #[.int .u8 ((hexd q1).toNat : Int), .int .u8 ((hexd q2).toNat : Int), .int .u8 ((hexd q3).toNat : Int), .int .u8 ((hexd q4).toNat : Int), .int .u8 44] 5)).drew := ⟨_, rfl⟩
      rw [← hWB]
      have gWB : w9.grownBy WB none := by rw [hWB]; exact g_drew (World.grownBy_alloc w9 _ none)
      have hWBh : WB.heap[w9.heap.size]? = some (.cells #[.int .u8 ((hexd q1).toNat : Int), .int .u8 ((hexd q2).toNat : Int), .int .u8 ((hexd q3).toNat : Int), .int .u8 ((hexd q4).toNat : Int), .int .u8 44] 5 (0, 0)) := by rw [hWB]; exact heap_alloc_new w9 _
      have hfour : fourB sm = [hexd q1, hexd q2, hexd q3, hexd q4] := by rw [fourB_hexs hsm6, hexs_four, hq1.out, hq2.out, hq3.out, hq4.out]
      have hRd : Rd WB (some ⟨w9.heap.size, 0, none⟩) (bs (fourB sm ++ [44])) := fun _ => ⟨w9.heap.size, 0, rfl, lt_of_heap hWBh, fun j u hj => by
        rw [hfour] at hj
        rw [cell_of_heap hWBh]
        have hjl := (List.getElem?_eq_some_iff.1 hj).1
        have hjl5 : j < 5 := by simpa [bs] using hjl
        rw [Nat.zero_add]
        rcases (by omega : j = 0 ∨ j = 1 ∨ j = 2 ∨ j = 3 ∨ j = 4) with rfl | rfl | rfl | rfl | rfl <;> exact hj⟩
      obtain ⟨P5, hP5⟩ : ∃ P, P = st (fourB sm ++ [44]) := ⟨_, rfl⟩
      have hcv : (convert 34 9 (.slice (some ⟨w9.heap.size, 0, none⟩) 5 5)).run Tryz.prog WB = .ok (.string P5) WB := by
        rw [hP5]
        exact conv_str (P := Tryz.prog) WB 34 9 5 Tryz.underlying34 Tryz.underlying5 Tryz.underlying9 (some ⟨w9.heap.size, 0, none⟩) 5 5 (fourB sm ++ [44]) (by rw [hfour]; rfl) hRd
      obtain ⟨S2, hS2⟩ : ∃ P, P = st (fourB sm ++ [44] ++ s) := ⟨_, rfl⟩
      have hL2 : (fourB sm ++ [44] ++ s).length ≤ 5005 := by have := hn.out; rw [hfour]; simp only [List.length_append, List.length_cons, List.length_nil]; omega
      have hadd : ∀ W, Sem.run Tryz.prog (Op.stringOp .add P5 S) W = .ok (.string S2) W := by
        rw [hP5, hS.out, hS2]
        exact add_run (fourB sm ++ [44]) s (by have h := hL2; simp only [List.length_append, List.length_cons, List.length_nil] at h ⊢; omega)
      have hB9 : Both2 w.heap.size tr tr2 w WB t1 u1 := hB8.out.grown gWB (Nat.le_refl _)
      obtain ⟨err2, C13⟩ := hB9.calls (s := fourB sm ++ [44] ++ s) (Nat.le_refl _) hD.out hDB.out (by omega)
      rw [← hS2] at C13
      replace C13 := Lib.hid C13; replace hB9 := Lib.hid hB9; replace hL2 := Lib.hid hL2; replace hS2 := Lib.hid hS2; replace hP5 := Lib.hid hP5; replace hRd := Lib.hid hRd; replace hfour := Lib.hid hfour; replace hWBh := Lib.hid hWBh; replace gWB := Lib.hid gWB; replace hWB := Lib.hid hWB
      unfold ptr at C13
      clear e1 e2 e3 e4 e4'
      go_wp2_with fail
      refine C13.out.mono ?_
      rintro e w6 ⟨rfl, C14⟩
      replace C14 := Lib.hid C14
      clear C13
      go_wp2_with fail
      refine C14.out.mono ?_
      rintro e w7 ⟨rfl, t2, u2, hB2⟩
      have CA := Lib.hid (alike_any w.heap.size tr tr2 t2 u2 w7 hB2.ht hB2.hu hB2.al hB2.nt hB2.nu (hTB.out _ hB2.be) (hDB.out _ hB2.be))
      replace hB2 := Lib.hid hB2
      unfold ptr at CA
      clear C14
      go_wp2_with fail
      refine CA.out.mono ?_
      rintro e w8 ⟨rfl, g8'⟩
      go_wp2_with fail
      go_ret
      exact ⟨rfl, (hB2.out.grown g8' (Nat.le_refl _)).be⟩
end Go.Proofs.YtcklmkjlbpjojaaGreatDoor
