/- Key: Bytes, in general. -/
import Derived.Test.YtncokbppijnfiaaGreatDoorD4
import Derived.Test.YtncokbppijnfiaaGreatDoorA1
namespace Go.Proofs.YtncokbppijnfiaaGreatDoor
open Go.RowKit
set_option linter.unusedSimpArgs false
set_option linter.unusedVariables false

def metaL (m : Int) : List UInt8 := if m / 2 % 2 = 1 then [27] else []
def encL (c : Int) : List UInt8 := (Utf8.encode c).data.toList
def numOf (c : Int) : Int := numbersL.getD (c - 1114118).toNat 0
/-- What a pane is told of a key. -/
def bytesL (c m modes : Int) : List UInt8 :=
  if rightK c m = false ∨ isMouse c = true then []
  else if c < 1114112 then (if m / 4 % 2 = 1 then metaL m ++ [UInt8.ofNat (c % 32).toNat] else metaL m ++ encL c)
  else if c = 1114135 then metaL m ++ [27]
  else if c = 1114134 then metaL m ++ [27, 91, 90]
  else if (endedL c).1 ≠ 0 then (if m ≠ 0 then [27, 91, 49, 59] ++ Lib.itoa (m + 1) ++ [(endedL c).1] else if (endedL c).2 = true ∨ bits .and .i64 modes 16 ≠ 0 then [27, 79, (endedL c).1] else [27, 91, (endedL c).1])
  else if 1114118 ≤ c ∧ c ≤ 1114133 then [27, 91] ++ Lib.itoa (numOf c) ++ (if m ≠ 0 then [59] ++ Lib.itoa (m + 1) else []) ++ [126]
  else if bits .and .i64 modes 64 = 0 then [] else if c = 1114141 then [27, 91, 50, 48, 48, 126] else [27, 91, 50, 48, 49, 126]
/-- Behind the first statements. -/
structure BI (w wx : World) (bR : Nat) (c m : Int) : Prop where
  hg : w.grownBy wx none
  hk : KC wx bR c m
theorem Out.mb {w wx w' : World} {g n c : Nat} {A : Option Addr} {l : List UInt8} (h : w.grownBy wx none) (hg : w.heap.size ≤ g) (g' : wx.grownBy w' (some g)) (hn : n = l.length) (hc : n ≤ c) (hR : Rd w' A (bs l)) : Out w (.returned (.slice A n c)) w' l :=
  ⟨A, n, c, rfl, hn, hc, hR, g_row h hg g'⟩
theorem Out.conv {w wx : World} {l : List UInt8} (h : w.grownBy wx none) : Out w (.returned (.slice (some ⟨wx.heap.size, 0, none⟩) l.length (grownCap wx l.length 0 5))) (Lib.bytesWorld wx 5 (st l)) l :=
  ⟨_, _, _, rfl, rfl, grownCap_ge _ _ _ _, bytes_rd wx l, h.trans (bytes_grown wx _)⟩
theorem Out.const {w wx : World} {l : List UInt8} {n : Nat} (h : w.grownBy wx none) (hn : n = l.length) : Out w (.returned (.slice (some ⟨wx.heap.size, 0, none⟩) n n)) (wx.alloc (.cells (bs l).toArray 5 ((bs l).toArray.size, (bs l).toArray.size + 1))) l :=
  ⟨_, _, _, rfl, hn, Nat.le_refl _, (MB.const wx l).rd, g_alloc h _⟩
theorem right_ctrl {c m : Int} (h : rightK c m = true) (hc : c < 1114112) (h4 : m / 4 % 2 = 1) : 0 ≤ c ∧ c ≤ 122 := by
  unfold rightK at h
  have hm : isMouse c = false := by unfold isMouse; simp; omega
  split at h
  · cases h
  · rw [if_neg (by rw [hm]; simp; omega), if_neg (by omega)] at h
    split at h
    · cases h
    · rw [if_neg (by omega)] at h
      simp only [decide_eq_true_eq] at h
      omega
theorem right_pos {c m : Int} (h : rightK c m = true) (hc : c < 1114112) : 9 ≤ c := by
  obtain ⟨_, _, hn⟩ := right_mods h
  unfold nameC at hn
  split at hn
  · omega
  · split at hn
    · omega
    · split at hn
      · omega
      · split at hn
        · omega
        · rw [if_neg (by omega)] at hn
          split at hn
          · omega
          · exact absurd rfl hn
theorem right_paste {c m : Int} (h : rightK c m = true) (hmo : isMouse c = false) (h0 : 1114112 ≤ c) (h1 : ¬ (1114118 ≤ c ∧ c ≤ 1114133)) (h2 : ¬ c = 1114135) (h3 : ¬ c = 1114134) (h4 : (endedL c).1 = 0) : c = 1114141 ∨ c = 1114142 := by
  obtain ⟨_, _, hn⟩ := right_mods h
  unfold nameC at hn
  have hlt : c < 1114143 := by
    rcases Int.lt_or_le c 1114143 with h' | h'
    · exact h'
    · rw [if_neg (by omega), if_neg (by omega), if_neg (by omega), if_neg (by omega), if_neg (by omega), if_neg (by omega)] at hn
      exact absurd rfl hn
  unfold isMouse at hmo
  have hm : ¬ (1114136 ≤ c ∧ c ≤ 1114140) := by
    rintro ⟨a, b⟩
    simp [a, b] at hmo
  have hc : c = 1114112 ∨ c = 1114113 ∨ c = 1114114 ∨ c = 1114115 ∨ c = 1114116 ∨ c = 1114117 ∨ c = 1114141 ∨ c = 1114142 := by omega
  rcases hc with rfl | rfl | rfl | rfl | rfl | rfl | rfl | rfl
  · exact absurd h4 (by decide)
  · exact absurd h4 (by decide)
  · exact absurd h4 (by decide)
  · exact absurd h4 (by decide)
  · exact absurd h4 (by decide)
  · exact absurd h4 (by decide)
  · exact .inl rfl
  · exact .inr rfl
theorem and31 (c : Int) (h0 : 0 ≤ c) (h1 : c ≤ 60000) : bits .and .i64 c 31 = c % 32 := by
  obtain ⟨n, rfl⟩ : ∃ n : Nat, c = n := ⟨c.toNat, by omega⟩
  have := and_bits (m := n) (k := 31) (by omega) (by omega)
  rw [show ((31 : Nat) : Int) = 31 from rfl] at this
  rw [this]
  have e : n &&& 31 = n % 32 := Nat.and_two_pow_sub_one_eq_mod n 5
  rw [e]; omega
set_option maxHeartbeats 4000000 in
set_option maxRecDepth 100000 in
theorem bytes_any (c m modes : Int) (hc : I64 c) (w : World) (hW : Wd w) :
    Calls Tryz.prog 12 #[keyV c m, .int .i64 modes] w fun e w' => Out w e w' (bytesL c m modes) := by
  have CR : Hid (∀ W, Wd W → Calls Tryz.prog 8 #[keyV c m] W fun e w' => e = .returned (.bool (rightK c m)) ∧ W.grownBy w' none) := Lib.hid fun W h => right_any c m hc W h
  have CM : Hid (∀ W, Calls Tryz.prog 22 #[.int .i64 c] W fun e w' => e = .returned (.bool (isMouse c)) ∧ w' = W) := Lib.hid fun W => mouse_any c W
  have CE : Hid (∀ W, Wd W → Calls Tryz.prog 27 #[.int .i64 c] W fun e w' => e = .returned (.tuple #[.int .u8 ((endedL c).1.toNat : Int), .bool (endedL c).2]) ∧ w' = W) := Lib.hid fun W h => ended_any c W h
  have hrt := fun (h : rightK c m = true) => right_mods h
  obtain ⟨r, hr⟩ : ∃ r, r = rightK c m := ⟨_, rfl⟩
  obtain ⟨mo, hmo⟩ : ∃ r, r = isMouse c := ⟨_, rfl⟩
  obtain ⟨lt, hlt⟩ : ∃ l : UInt8, l = (endedL c).1 := ⟨_, rfl⟩
  obtain ⟨fa, hfa⟩ : ∃ b : Bool, b = (endedL c).2 := ⟨_, rfl⟩
  obtain ⟨OUT, hOUT⟩ : ∃ r, r = bytesL c m modes := ⟨_, rfl⟩
  have ho := hOUT
  rw [← hOUT]
  unfold bytesL at ho
  rw [← hr, ← hmo, ← hlt, ← hfa] at ho
  rw [← hr] at CR hrt; rw [← hmo] at CM; rw [← hlt, ← hfa] at CE
  obtain ⟨li, hli⟩ : ∃ i : Int, i = lt.toNat := ⟨_, rfl⟩
  rw [← hli] at CE
  obtain ⟨W0, hW0⟩ : ∃ W, W = w.alloc (.cells #[.int .i64 c, .int .i64 m] 23) := ⟨_, rfl⟩
  have g0 : w.grownBy W0 none := by rw [hW0]; exact World.grownBy_alloc _ _ _
  obtain ⟨bR, hbR⟩ : ∃ n, n = w.heap.size := ⟨_, rfl⟩
  have hR0 : KC W0 bR c m := by rw [hW0, hbR]; exact KC.new w c m
  obtain ⟨x0, x1, _⟩ := hR0.cells
  have CR0 := Lib.hid (CR.out W0 (hW.grown g0))
  replace hW := Lib.hid hW; replace hW0 := Lib.hid hW0; replace g0 := Lib.hid g0; replace hbR := Lib.hid hbR; replace hR0 := Lib.hid hR0; replace hr := Lib.hid hr; replace hmo := Lib.hid hmo; replace hOUT := Lib.hid hOUT; replace hlt := Lib.hid hlt; replace hfa := Lib.hid hfa; replace ho := Lib.hid ho; replace hli := Lib.hid hli; replace hrt := Lib.hid hrt
  clear CR
  unfold keyV I64 at *
  go_enter Tryz.func12, Tryz.ntmps12
  go_wp2_with fail
  rw [← hW0.out, ← hbR.out]
  refine CR0.out.mono ?_
  rintro e w1 ⟨rfl, g1⟩
  have hR1 := hR0.out.grown g1
  have G1 := g0.out.trans g1
  obtain ⟨y0, y1, _⟩ := hR1.cells
  clear x0 x1 CR0 g1
  replace hR1 := Lib.hid hR1; replace G1 := Lib.hid G1
  cases r with
  | false =>
    have e1 : OUT = [] := by rw [ho.out, if_pos (.inl rfl)]
    replace e1 := Lib.hid e1
    go_wp2_with fail
    go_ret
    exact Out.nil G1.out e1.out
  | true =>
  obtain ⟨m0, m7, _⟩ := hrt.out rfl
  go_wp2_with fail
  refine (CM.out _).mono ?_
  rintro e w2 ⟨rfl, rfl⟩
  cases mo with
  | true =>
    have e1 : OUT = [] := by rw [ho.out, if_pos (.inr rfl)]
    replace e1 := Lib.hid e1
    go_wp2_with fail
    go_ret
    exact Out.nil G1.out e1.out
  | false =>
  rw [if_neg (by simp)] at ho
  have hml : (metaL m).length ≤ 1 := by unfold metaL; split <;> simp
  have hb2 := and_k (k := 2) m0 m7 (by omega)
  go_upto_region 4 with fail
  go_cut [6] (fun sv wx => sv = .string (st (metaL m)) ∧ wx = w2)
  case first =>
    by_cases h : m / 2 % 2 = 1
    · rw [if_pos h] at hb2
      have e1 : metaL m = [27] := by unfold metaL; rw [if_pos h]
      have CZ := Lib.hid (fun W => Tryz.strings_Repeat_one ⟨#[27]⟩ W)
      replace h := Lib.hid h; replace e1 := Lib.hid e1
      go_wp2_with fail
      refine (CZ.out _).mono ?_
      rintro e w3 ⟨rfl, rfl⟩
      go_wp2_with fail
      go_meet
      exact ⟨by rw [e1.out]; rfl, rfl⟩
    · rw [if_neg h] at hb2
      have e1 : metaL m = [] := by unfold metaL; rw [if_neg h]
      have CZ := Lib.hid (fun W => Tryz.strings_Repeat_zero ⟨#[27]⟩ W)
      replace h := Lib.hid h; replace e1 := Lib.hid e1
      go_wp2_with fail
      refine (CZ.out _).mono ?_
      rintro e w3 ⟨rfl, rfl⟩
      go_wp2_with fail
      go_meet
      exact ⟨by rw [e1.out]; rfl, rfl⟩
  case rest =>
  obtain ⟨rfl, rfl⟩ := hcut
  clear hb2
  obtain ⟨ML, hML⟩ : ∃ l, l = metaL m := ⟨_, rfl⟩
  rw [← hML] at ho hml ⊢
  have wm : wrap64 (m + 1) = m + 1 := IntWalk.wrap64_in _ (by omega)
  have W2 := hW.out.grown G1.out
  have CI := itoa_any (m + 1) wc (by omega) (by omega) W2
  have il := Lib.itoa_length_le (m + 1) (by omega) (by omega)
  obtain ⟨IL, hIL⟩ : ∃ l, l = Lib.itoa (m + 1) := ⟨_, rfl⟩
  rw [← hIL] at ho
  rw [← hIL] at CI il
  replace CI := Lib.hid CI; replace W2 := Lib.hid W2; replace hIL := Lib.hid hIL; replace hML := Lib.hid hML
  clear CM
  go_wp2_with fail
  refine CI.out.mono ?_
  rintro e w4 ⟨rfl, g4⟩
  have hR4 := hR1.out.grown g4
  have G4 := G1.out.trans g4
  obtain ⟨z0, z1, _⟩ := hR4.cells
  have W4 := W2.out.grown g4
  have CE4 := Lib.hid (CE.out w4 W4)
  replace hR4 := Lib.hid hR4; replace G4 := Lib.hid G4; replace W4 := Lib.hid W4
  clear y0 y1 g4 CI CE
  go_wp2_with fail
  refine CE4.out.mono ?_
  rintro e w5 ⟨rfl, rfl⟩
  clear CE4
  have hS := G4.out.size
  replace hS := Lib.hid hS
  have kc := conv_run w5
  replace kc := Lib.hid kc
  by_cases hc0 : c < 1114112
  · rw [if_pos hc0] at ho
    have hb4 := and_k (k := 4) m0 m7 (by omega)
    by_cases h4 : m / 4 % 2 = 1
    · rw [if_pos h4] at ho hb4
      obtain ⟨q0, q1⟩ := right_ctrl hr.out.symm hc0 h4
      have h31 := and31 c q0 (by omega)
      obtain ⟨cb, hcb⟩ : ∃ b : UInt8, b = UInt8.ofNat (c % 32).toNat := ⟨_, rfl⟩
      rw [← hcb] at ho
      have hcbi : (cb.toNat : Int) = c % 32 := by rw [hcb, UInt8.toNat_ofNat']; omega
      obtain ⟨ci, hci⟩ : ∃ i : Int, i = c % 32 := ⟨_, rfl⟩
      rw [← hci] at h31
      have hw8 : IntKind.u8.wrap ci = ci := u8_in (by omega) (by omega)
      have k1 := kc.out ML
      obtain ⟨nM, hnM⟩ : ∃ n, n = ML.length := ⟨_, rfl⟩
      rw [← hnM] at k1
      obtain ⟨cM, hcM⟩ : ∃ n, n = grownCap w5 nM 0 5 := ⟨_, rfl⟩
      rw [← hcM] at k1
      have M5 := MB.conv w5 ML
      rw [← hnM, ← hcM] at M5
      have g5 := bytes_grown w5 (st ML)
      obtain ⟨W5, hW5⟩ : ∃ W, W = Lib.bytesWorld w5 5 (st ML) := ⟨_, rfl⟩
      rw [← hW5] at k1 M5 g5
      have G5 := G4.out.trans g5
      have M6 := M5.grown (World.grownBy_alloc W5 (.cells #[.int .u8 ci] 5) none)
      have R6 := Rd.newL W5 (bs [cb]) 5
      have e6 : (bs [cb]).toArray = #[.int .u8 ci] := by rw [hci, ← hcbi]; rfl
      rw [e6] at R6
      have G6 := g_alloc G5 (.cells #[.int .u8 ci] 5)
      replace hcb := Lib.hid hcb; replace hcbi := Lib.hid hcbi; replace hci := Lib.hid hci; replace hnM := Lib.hid hnM; replace hcM := Lib.hid hcM; replace M5 := Lib.hid M5; replace g5 := Lib.hid g5; replace hW5 := Lib.hid hW5; replace G5 := Lib.hid G5; replace M6 := Lib.hid M6; replace R6 := Lib.hid R6; replace G6 := Lib.hid G6; replace h4 := Lib.hid h4; replace e6 := Lib.hid e6; replace q1 := Lib.hid q1; replace q0 := Lib.hid q0
      go_wp2_with (first | (at_builtin; refine wpList_append_mb rfl (.tmp 44) (.tmp 48) rfl rfl w5.heap.size nM cM ML hnM.out rfl (some ⟨W5.heap.size, 0, none⟩) 1 cb rfl M6.out (by omega) R6.out ?_; intro A7 c7 w7 R7 hc7 G7; replace R7 := Lib.hid R7; replace G7 := Lib.hid G7) | fail)
      go_ret
      rw [ho.out]
      exact Out.mb G6.out hS.out G7.out (by rw [List.length_append, hnM.out]; rfl) hc7 R7.out
    · rw [if_neg h4] at ho hb4
      have q0 := right_pos hr.out.symm hc0
      have hw32 : IntKind.i32.wrap c = c := by
        have h : c % 4294967296 = c := by omega
        simp [IntKind.wrap, IntKind.signed, IntKind.bits, h]; omega
      obtain ⟨EN, hEN⟩ : ∃ l, l = encL c := ⟨_, rfl⟩
      have hES : st EN = Utf8.encode c := by rw [hEN]; exact ba_st _
      have hEl : EN.length ≤ 4 := by
        have := encode_le4 c
        have e1 : (Utf8.encode c).data.toList.length = (Utf8.encode c).size := by rw [Array.length_toList]; rfl
        rw [hEN]; unfold encL; omega
      rw [← hEN] at ho
      have ad : Adds (st ML) (Utf8.encode c) (st (ML ++ EN)) := by rw [← hES]; exact adds_st _ _ (by omega)
      have k1 := kc.out (ML ++ EN)
      obtain ⟨O2, hO2⟩ : ∃ l, l = ML ++ EN := ⟨_, rfl⟩
      rw [← hO2] at ad k1 ho
      unfold Adds at ad
      obtain ⟨S2, hS2⟩ : ∃ s, s = st O2 := ⟨_, rfl⟩
      rw [← hS2] at ad k1
      replace hEN := Lib.hid hEN; replace hES := Lib.hid hES; replace hO2 := Lib.hid hO2; replace hS2 := Lib.hid hS2; replace h4 := Lib.hid h4; replace q0 := Lib.hid q0
      go_wp2_with fail
      go_ret
      rw [ho.out, hS2.out]
      exact Out.conv G4.out
  rw [if_neg hc0] at ho
  by_cases c1114135 : c = 1114135
  · subst c1114135
    rw [if_pos rfl] at ho
    have ad : Adds (st ML) ⟨#[27]⟩ (st (ML ++ [27])) := adds_st ML [27] (by simp; omega)
    have k1 := kc.out (ML ++ [27])
    obtain ⟨O2, hO2⟩ : ∃ l, l = ML ++ [27] := ⟨_, rfl⟩
    rw [← hO2] at ad k1 ho
    unfold Adds at ad
    obtain ⟨S2, hS2⟩ : ∃ s, s = st O2 := ⟨_, rfl⟩
    rw [← hS2] at ad k1
    replace hO2 := Lib.hid hO2; replace hS2 := Lib.hid hS2
    go_wp2_with fail
    go_ret
    rw [ho.out, hS2.out]
    exact Out.conv G4.out
  rw [if_neg c1114135] at ho
  by_cases c1114134 : c = 1114134
  · subst c1114134
    rw [if_pos rfl] at ho
    have ad : Adds (st ML) ⟨#[27, 91, 90]⟩ (st (ML ++ [27, 91, 90])) := adds_st ML [27, 91, 90] (by simp; omega)
    have k1 := kc.out (ML ++ [27, 91, 90])
    obtain ⟨O2, hO2⟩ : ∃ l, l = ML ++ [27, 91, 90] := ⟨_, rfl⟩
    rw [← hO2] at ad k1 ho
    unfold Adds at ad
    obtain ⟨S2, hS2⟩ : ∃ s, s = st O2 := ⟨_, rfl⟩
    rw [← hS2] at ad k1
    replace hO2 := Lib.hid hO2; replace hS2 := Lib.hid hS2
    go_wp2_with fail
    go_ret
    rw [ho.out, hS2.out]
    exact Out.conv G4.out
  rw [if_neg c1114134] at ho
  have hcge : 1114112 ≤ c := by omega
  by_cases hl0 : lt = 0
  rotate_left
  · rw [if_pos hl0] at ho
    have hli0 : ¬ li = 0 := fun e => hl0 (UInt8.toNat_inj.1 (by have := hli.out; show lt.toNat = 0; omega))
    have hlib : (li == 0) = false := by rw [beq_eq_false_iff_ne]; exact hli0
    have hlic : (li != 0) = true := by rw [bne, hlib]; rfl
    replace hl0 := Lib.hid hl0
    by_cases hm0 : m = 0
    · subst hm0
      rw [if_neg (by simp)] at ho
      obtain ⟨b16, hb16⟩ : ∃ z, z = bits .and .i64 modes 16 := ⟨_, rfl⟩
      rw [← hb16] at ho
      replace hb16 := hb16.symm
      by_cases hf : fa = true
      · subst hf
        rw [if_pos (.inl rfl)] at ho
        have hkc : ∀ (n c : Nat), (convert 32 32 (.slice (some ⟨w5.heap.size, 0, none⟩) n c)).run Tryz.prog (w5.alloc (.cells #[.int .u8 27, .int .u8 79] 5)) = .ok (.slice (some ⟨w5.heap.size, 0, none⟩) n c) (w5.alloc (.cells #[.int .u8 27, .int .u8 79] 5 (2, 3))) := fun n c => Lib.run_convert_bytes_const w5 32 5 _ n c Tryz.underlying32 Tryz.underlying5
        have M5 : MB (w5.alloc (.cells #[.int .u8 27, .int .u8 79] 5 (2, 3))) w5.heap.size 2 [27, 79] := MB.const w5 [27, 79]
        obtain ⟨W5, hW5⟩ : ∃ W, W = w5.alloc (.cells #[.int .u8 27, .int .u8 79] 5 (2, 3)) := ⟨_, rfl⟩
        have G5 := g_alloc G4.out (.cells #[.int .u8 27, .int .u8 79] 5 (2, 3))
        rw [← hW5] at M5 G5
        simp only [← hW5] at hkc
        have M6 := M5.grown (World.grownBy_alloc W5 (.cells #[.int .u8 li] 5) none)
        have R6 := Rd.newL W5 (bs [lt]) 5
        have e6 : (bs [lt]).toArray = #[.int .u8 li] := by rw [hli.out]; rfl
        rw [e6] at R6
        have G6 := g_alloc G5 (.cells #[.int .u8 li] 5)
        replace M5 := Lib.hid M5; replace M6 := Lib.hid M6; replace R6 := Lib.hid R6; replace G5 := Lib.hid G5; replace G6 := Lib.hid G6; replace hW5 := Lib.hid hW5; replace e6 := Lib.hid e6
        go_wp2_with (first | (at_builtin; refine wpList_append_mb rfl (.tmp 97) (.tmp 99) rfl rfl w5.heap.size 2 2 [27, 79] rfl rfl (some ⟨W5.heap.size, 0, none⟩) 1 lt rfl M6.out (by decide) R6.out ?_; intro A7 c7 w7 R7 hc7 G7; replace R7 := Lib.hid R7; replace G7 := Lib.hid G7) | fail)
        go_ret
        rw [ho.out]
        exact Out.mb G6.out hS.out G7.out rfl hc7 R7.out
      · have hf : fa = false := by simpa using hf
        subst hf
        by_cases hz16 : b16 = 0
        · rw [if_neg (by rintro (h | h); cases h; exact h hz16)] at ho
          subst hz16
          have hkc : ∀ (n c : Nat), (convert 32 32 (.slice (some ⟨w5.heap.size, 0, none⟩) n c)).run Tryz.prog (w5.alloc (.cells #[.int .u8 27, .int .u8 91] 5)) = .ok (.slice (some ⟨w5.heap.size, 0, none⟩) n c) (w5.alloc (.cells #[.int .u8 27, .int .u8 91] 5 (2, 3))) := fun n c => Lib.run_convert_bytes_const w5 32 5 _ n c Tryz.underlying32 Tryz.underlying5
          have M5 : MB (w5.alloc (.cells #[.int .u8 27, .int .u8 91] 5 (2, 3))) w5.heap.size 2 [27, 91] := MB.const w5 [27, 91]
          obtain ⟨W5, hW5⟩ : ∃ W, W = w5.alloc (.cells #[.int .u8 27, .int .u8 91] 5 (2, 3)) := ⟨_, rfl⟩
          have G5 := g_alloc G4.out (.cells #[.int .u8 27, .int .u8 91] 5 (2, 3))
          rw [← hW5] at M5 G5
          simp only [← hW5] at hkc
          have M6 := M5.grown (World.grownBy_alloc W5 (.cells #[.int .u8 li] 5) none)
          have R6 := Rd.newL W5 (bs [lt]) 5
          have e6 : (bs [lt]).toArray = #[.int .u8 li] := by rw [hli.out]; rfl
          rw [e6] at R6
          have G6 := g_alloc G5 (.cells #[.int .u8 li] 5)
          replace M5 := Lib.hid M5; replace M6 := Lib.hid M6; replace R6 := Lib.hid R6; replace G5 := Lib.hid G5; replace G6 := Lib.hid G6; replace hW5 := Lib.hid hW5; replace e6 := Lib.hid e6
          go_wp2_with (first | (at_builtin; refine wpList_append_mb rfl (.tmp 105) (.tmp 107) rfl rfl w5.heap.size 2 2 [27, 91] rfl rfl (some ⟨W5.heap.size, 0, none⟩) 1 lt rfl M6.out (by decide) R6.out ?_; intro A7 c7 w7 R7 hc7 G7; replace R7 := Lib.hid R7; replace G7 := Lib.hid G7) | fail)
          go_ret
          rw [ho.out]
          exact Out.mb G6.out hS.out G7.out rfl hc7 R7.out
        · rw [if_pos (.inr hz16)] at ho
          have hzb : (b16 == 0) = false := by rw [beq_eq_false_iff_ne]; exact hz16
          have hzc : (b16 != 0) = true := by rw [bne, hzb]; rfl
          have hkc : ∀ (n c : Nat), (convert 32 32 (.slice (some ⟨w5.heap.size, 0, none⟩) n c)).run Tryz.prog (w5.alloc (.cells #[.int .u8 27, .int .u8 79] 5)) = .ok (.slice (some ⟨w5.heap.size, 0, none⟩) n c) (w5.alloc (.cells #[.int .u8 27, .int .u8 79] 5 (2, 3))) := fun n c => Lib.run_convert_bytes_const w5 32 5 _ n c Tryz.underlying32 Tryz.underlying5
          have M5 : MB (w5.alloc (.cells #[.int .u8 27, .int .u8 79] 5 (2, 3))) w5.heap.size 2 [27, 79] := MB.const w5 [27, 79]
          obtain ⟨W5, hW5⟩ : ∃ W, W = w5.alloc (.cells #[.int .u8 27, .int .u8 79] 5 (2, 3)) := ⟨_, rfl⟩
          have G5 := g_alloc G4.out (.cells #[.int .u8 27, .int .u8 79] 5 (2, 3))
          rw [← hW5] at M5 G5
          simp only [← hW5] at hkc
          have M6 := M5.grown (World.grownBy_alloc W5 (.cells #[.int .u8 li] 5) none)
          have R6 := Rd.newL W5 (bs [lt]) 5
          have e6 : (bs [lt]).toArray = #[.int .u8 li] := by rw [hli.out]; rfl
          rw [e6] at R6
          have G6 := g_alloc G5 (.cells #[.int .u8 li] 5)
          replace M5 := Lib.hid M5; replace M6 := Lib.hid M6; replace R6 := Lib.hid R6; replace G5 := Lib.hid G5; replace G6 := Lib.hid G6; replace hW5 := Lib.hid hW5; replace e6 := Lib.hid e6
          go_wp2_with (first | (at_builtin; refine wpList_append_mb rfl (.tmp 97) (.tmp 99) rfl rfl w5.heap.size 2 2 [27, 79] rfl rfl (some ⟨W5.heap.size, 0, none⟩) 1 lt rfl M6.out (by decide) R6.out ?_; intro A7 c7 w7 R7 hc7 G7; replace R7 := Lib.hid R7; replace G7 := Lib.hid G7) | fail)
          go_ret
          rw [ho.out]
          exact Out.mb G6.out hS.out G7.out rfl hc7 R7.out
    · rw [if_pos hm0] at ho
      have hmb : (m == 0) = false := by rw [beq_eq_false_iff_ne]; exact hm0
      have hmc : (m != 0) = true := by rw [bne, hmb]; rfl
      have ad : Adds ⟨#[27, 91, 49, 59]⟩ (st IL) (st ([27, 91, 49, 59] ++ IL)) := adds_st [27, 91, 49, 59] IL (by simp; omega)
      obtain ⟨O2, hO2⟩ : ∃ l, l = [27, 91, 49, 59] ++ IL := ⟨_, rfl⟩
      have hO2l : O2.length ≤ 100 := by rw [hO2]; simp; omega
      rw [← hO2] at ad ho
      unfold Adds at ad
      have k1 := kc.out O2
      obtain ⟨nM, hnM⟩ : ∃ n, n = O2.length := ⟨_, rfl⟩
      rw [← hnM] at k1
      obtain ⟨cM, hcM⟩ : ∃ n, n = grownCap w5 nM 0 5 := ⟨_, rfl⟩
      rw [← hcM] at k1
      have M5 := MB.conv w5 O2
      rw [← hnM, ← hcM] at M5
      have g5 := bytes_grown w5 (st O2)
      obtain ⟨S2, hS2⟩ : ∃ s, s = st O2 := ⟨_, rfl⟩
      rw [← hS2] at ad k1 M5 g5
      obtain ⟨W5, hW5⟩ : ∃ W, W = Lib.bytesWorld w5 5 S2 := ⟨_, rfl⟩
      rw [← hW5] at k1 M5 g5
      have G5 := G4.out.trans g5
      have M6 := M5.grown (World.grownBy_alloc W5 (.cells #[.int .u8 li] 5) none)
      have R6 := Rd.newL W5 (bs [lt]) 5
      have e6 : (bs [lt]).toArray = #[.int .u8 li] := by rw [hli.out]; rfl
      rw [e6] at R6
      have G6 := g_alloc G5 (.cells #[.int .u8 li] 5)
      replace hnM := Lib.hid hnM; replace hcM := Lib.hid hcM; replace M5 := Lib.hid M5; replace g5 := Lib.hid g5; replace hW5 := Lib.hid hW5; replace G5 := Lib.hid G5; replace M6 := Lib.hid M6; replace R6 := Lib.hid R6; replace G6 := Lib.hid G6; replace e6 := Lib.hid e6; replace hO2 := Lib.hid hO2; replace hO2l := Lib.hid hO2l; replace hS2 := Lib.hid hS2
      go_wp2_with (first | (at_builtin; refine wpList_append_mb rfl (.tmp 81) (.tmp 83) rfl rfl w5.heap.size nM cM O2 hnM.out rfl (some ⟨W5.heap.size, 0, none⟩) 1 lt rfl M6.out (by have := hO2l.out; omega) R6.out ?_; intro A7 c7 w7 R7 hc7 G7; replace R7 := Lib.hid R7; replace G7 := Lib.hid G7) | fail)
      go_ret
      rw [ho.out]
      exact Out.mb G6.out hS.out G7.out (by rw [List.length_append, hnM.out]; rfl) hc7 R7.out
  rw [if_neg (fun h => h hl0)] at ho
  have hli0 : li = 0 := by rw [hli.out, hl0]; rfl
  subst hli0
  replace hl0 := Lib.hid hl0
  by_cases hnum : 1114118 ≤ c ∧ c ≤ 1114133
  · rw [if_pos hnum] at ho
    obtain ⟨n0, n1⟩ := hnum
    have hcell := (W4.out.nu).cell (g := 0) (by kernel_rfl) (c - 1114118).toNat (by show _ < 16; omega)
    have hnv : 0 ≤ numOf c ∧ numOf c ≤ 24 := by
      unfold numOf
      have : ∀ j, j < 16 → 0 ≤ numbersL.getD j 0 ∧ numbersL.getD j 0 ≤ 24 := by decide
      exact this _ (by omega)
    obtain ⟨nv, hnve⟩ : ∃ z, z = numOf c := ⟨_, rfl⟩
    have hcell' : w5.cell? ⟨0, (c - 1114118).toNat, none⟩ = some (.int .i64 nv) := by rw [hnve]; exact hcell
    rw [← hnve] at hnv ho
    clear hcell
    have CN := itoa_any nv w5 (by omega) (by omega) W4.out
    have nl := Lib.itoa_length_le nv (by omega) (by omega)
    obtain ⟨NL, hNL⟩ : ∃ l, l = Lib.itoa nv := ⟨_, rfl⟩
    rw [← hNL] at CN nl ho
    have a1 : Adds ⟨#[27, 91]⟩ (st NL) (st ([27, 91] ++ NL)) := adds_st [27, 91] NL (by simp; omega)
    obtain ⟨S1, hS1⟩ : ∃ s, s = st ([27, 91] ++ NL) := ⟨_, rfl⟩
    rw [← hS1] at a1
    have a2 : Adds ⟨#[59]⟩ (st IL) (st ([59] ++ IL)) := adds_st [59] IL (by simp; omega)
    obtain ⟨S2, hS2⟩ : ∃ s, s = st ([59] ++ IL) := ⟨_, rfl⟩
    rw [← hS2] at a2
    have a3 : Adds S1 S2 (st ([27, 91] ++ NL ++ ([59] ++ IL))) := by rw [hS1, hS2]; exact adds_st _ _ (by simp; omega)
    obtain ⟨S3, hS3⟩ : ∃ s, s = st ([27, 91] ++ NL ++ ([59] ++ IL)) := ⟨_, rfl⟩
    rw [← hS3] at a3
    obtain ⟨O2, hO2⟩ : ∃ l, l = OUT := ⟨_, rfl⟩
    have kz := fun W => conv_run W OUT
    obtain ⟨S4, hS4⟩ : ∃ s, s = st OUT := ⟨_, rfl⟩
    have a4 : Adds (if m ≠ 0 then S3 else S1) ⟨#[126]⟩ S4 := by
      rw [hS4, ho.out]
      by_cases h : m ≠ 0
      · rw [if_pos h, if_pos h, hS3]
        exact adds_st _ [126] (by simp; omega)
      · rw [if_neg h, if_neg h, hS1, List.append_nil]
        exact adds_st _ [126] (by simp; omega)
    rw [← hS4] at kz
    unfold Adds at a1 a2 a3 a4
    replace CN := Lib.hid CN; replace hNL := Lib.hid hNL; replace hS1 := Lib.hid hS1; replace hS2 := Lib.hid hS2; replace hS3 := Lib.hid hS3; replace hO2 := Lib.hid hO2; replace hS4 := Lib.hid hS4; replace hnve := Lib.hid hnve; replace ho := Lib.hid ho.out
    by_cases hm0 : m = 0
    · subst hm0
      rw [if_neg (by simp)] at a4
      go_wp2_with fail
      refine CN.out.mono ?_
      rintro e w6 ⟨rfl, g6⟩
      have G6 := G4.out.trans g6
      have hR6 := hR4.out.grown g6
      obtain ⟨v0, v1, _⟩ := hR6.cells
      replace G6 := Lib.hid G6; replace hR6 := Lib.hid hR6
      clear z0 z1 hcell' g6
      go_wp2_with fail
      go_ret
      rw [hS4.out]
      exact Out.conv G6.out
    · rw [if_pos hm0] at a4
      go_wp2_with fail
      refine CN.out.mono ?_
      rintro e w6 ⟨rfl, g6⟩
      have G6 := G4.out.trans g6
      have hR6 := hR4.out.grown g6
      obtain ⟨v0, v1, _⟩ := hR6.cells
      replace G6 := Lib.hid G6; replace hR6 := Lib.hid hR6
      clear z0 z1 hcell' g6
      go_wp2_with fail
      go_ret
      rw [hS4.out]
      exact Out.conv G6.out
  rw [if_neg hnum] at ho
  have hcN : c = 1114141 ∨ c = 1114142 := right_paste hr.out.symm hmo.out.symm hcge hnum c1114135 c1114134 (by rw [← hlt.out]; exact hl0.out)
  obtain ⟨b64, hb64⟩ : ∃ z, z = bits .and .i64 modes 64 := ⟨_, rfl⟩
  rw [← hb64] at ho
  replace hb64 := hb64.symm
  by_cases hz : b64 = 0
  · rw [if_pos hz] at ho
    subst hz
    have hnum2 : 1114133 < c := by omega
    clear hnum
    have e1 := ho.out
    replace e1 := Lib.hid e1
    go_wp2_with fail
    go_ret
    exact Out.nil G4.out e1.out
  rw [if_neg hz] at ho
  clear hnum hcge
  rcases hcN with rfl | rfl
  · rw [if_pos rfl] at ho
    have hkc : ∀ (n c : Nat), (convert 32 32 (.slice (some ⟨w5.heap.size, 0, none⟩) n c)).run Tryz.prog (w5.alloc (.cells #[.int .u8 27, .int .u8 91, .int .u8 50, .int .u8 48, .int .u8 48, .int .u8 126] 5)) = .ok (.slice (some ⟨w5.heap.size, 0, none⟩) n c) (w5.alloc (.cells #[.int .u8 27, .int .u8 91, .int .u8 50, .int .u8 48, .int .u8 48, .int .u8 126] 5 (6, 7))) := fun n c => Lib.run_convert_bytes_const w5 32 5 _ n c Tryz.underlying32 Tryz.underlying5
    go_wp2_with fail
    go_ret
    rw [ho.out]
    exact Out.const (l := [27, 91, 50, 48, 48, 126]) G4.out rfl
  · rw [if_neg (by decide)] at ho
    have hkc : ∀ (n c : Nat), (convert 32 32 (.slice (some ⟨w5.heap.size, 0, none⟩) n c)).run Tryz.prog (w5.alloc (.cells #[.int .u8 27, .int .u8 91, .int .u8 50, .int .u8 48, .int .u8 49, .int .u8 126] 5)) = .ok (.slice (some ⟨w5.heap.size, 0, none⟩) n c) (w5.alloc (.cells #[.int .u8 27, .int .u8 91, .int .u8 50, .int .u8 48, .int .u8 49, .int .u8 126] 5 (6, 7))) := fun n c => Lib.run_convert_bytes_const w5 32 5 _ n c Tryz.underlying32 Tryz.underlying5
    go_wp2_with fail
    go_ret
    rw [ho.out]
    exact Out.const (l := [27, 91, 50, 48, 49, 126]) G4.out rfl
end Go.Proofs.YtncokbppijnfiaaGreatDoor
