/- Key: Mouse: what a program is told of the mouse. -/
import Derived.Test.YtncokbppijnfiaaGreatDoorD1
import Derived.Test.YtncokbppijnfiaaGreatDoorL1
import Derived.Test.YtncokbppijnfiaaGreatDoorQ1
import Derived.Lib.ConvBytes
import Derived.Lib.ItoaLen
import Derived.Deep.DeepCutAuto
import Derived.Deep.CutBlock
import Derived.Deep.RegionWith
namespace Go.Proofs.YtncokbppijnfiaaGreatDoor
open Go.RowKit
set_option linter.unusedSimpArgs false
set_option linter.unusedVariables false

theorem g_grow (w : World) (k : Nat) (os : Array Obj) : w.grownBy (Sort.grow (w.drewN k) os) none :=
  ⟨rfl, rfl, rfl, by show w.heap.size ≤ (w.heap ++ os).size; rw [Array.size_append]; omega, fun j hj _ => Sort.heap_grow_old (w.drewN k) os hj⟩
theorem itoa_any (z : Int) (w : World) (h0 : -9223372036854775808 ≤ z) (h1 : z ≤ 9223372036854775807) (hW : Wd w) :
    Calls Tryz.prog 26 #[.int .i64 z] w fun e w' => e = .returned (.string (st (Lib.itoa z))) ∧ w.grownBy w' none := by
  refine (Tryz.strconv_Itoa z h0 h1 w hW.p10).mono ?_
  rintro e w' ⟨rfl, k, os, rfl⟩
  exact ⟨rfl, g_grow w k os⟩
theorem itoa_from (z : Int) (w0 w : World) (h0 : -9223372036854775808 ≤ z) (h1 : z ≤ 9223372036854775807) (hW : Wd w0) (hg : w0.grownBy w none) :
    Calls Tryz.prog 26 #[.int .i64 z] w fun e w' => e = .returned (.string (st (Lib.itoa z))) ∧ w.grownBy w' none ∧ w0.grownBy w' none :=
  (itoa_any z w h0 h1 (hW.grown hg)).mono fun e w' ⟨h1, h2⟩ => ⟨h1, h2, hg.trans h2⟩
theorem wrap64_id {z : Int} (h0 : -9223372036854775808 ≤ z) (h1 : z ≤ 9223372036854775807) : wrap64 z = z := IntWalk.wrap64_in z ⟨h0, h1⟩
theorem st_app (a b : List UInt8) : st a ++ st b = st (a ++ b) := by
  apply ByteArray.ext
  simp [st]
def Adds (a b c : ByteArray) : Prop := ∀ w, Sem.run Tryz.prog (Op.stringOp .add a b) w = .ok (.string c) w
theorem adds_of (a b : ByteArray) (h : a.size + b.size ≤ 9223372036854775807) : Adds a b (a ++ b) := fun w => run_string_add_sum w a b h
theorem adds_st (a b : List UInt8) (h : a.length + b.length ≤ 9223372036854775807) : Adds (st a) (st b) (st (a ++ b)) := by
  rw [← st_app]; exact adds_of _ _ (by rw [st_size, st_size]; exact h)
theorem bytes_grown (w : World) (S : ByteArray) : w.grownBy (Lib.bytesWorld w 5 S) none := ⟨rfl, rfl, rfl, by rw [Lib.bytesWorld_size]; omega, fun k hk _ => Lib.bytesWorld_at_old w 5 S k hk⟩
theorem bytes_rd (W : World) (l : List UInt8) : Rd (Lib.bytesWorld W 5 (st l)) (some ⟨W.heap.size, 0, none⟩) (bs l) := by
  intro _
  refine ⟨_, _, rfl, by rw [Lib.bytesWorld_size]; omega, fun j u hj => ?_⟩
  have hj0 : j < l.length := by
    have := (List.getElem?_eq_some_iff.1 hj).1
    rwa [bs_len] at this
  have hjl : j < (st l).size := by rw [st_size]; exact hj0
  rw [Nat.zero_add, Lib.bytesWorld_cell W 5 (st l) j hjl]
  simp only [bs, List.getElem?_map, List.getElem?_eq_getElem hj0, Option.map_some, Option.some.injEq] at hj
  rw [← hj]
  simp [b8, st, hj0]
theorem conv_run (W : World) (l : List UInt8) : (convert 9 32 (.string (st l))).run Tryz.prog W = .ok (.slice (some ⟨W.heap.size, 0, none⟩) l.length (grownCap W l.length 0 5)) (Lib.bytesWorld W 5 (st l)) := by
  have := Lib.run_convert_string_bytes (P := Tryz.prog) W 9 32 5 (st l) Tryz.underlying9 Tryz.underlying32 Tryz.underlying5
  rwa [st_size] at this
theorem right_mods {c m : Int} (h : rightK c m = true) : 0 ≤ m ∧ m ≤ 7 ∧ nameC c ≠ [] := by
  unfold rightK at h
  split at h
  · cases h
  · rename_i hn
    refine ⟨?_, ?_, fun e => hn (.inl e)⟩
    · rcases Int.lt_or_le m 0 with h' | h'
      · exact absurd (.inr (.inl h')) hn
      · exact h'
    · rcases Int.lt_or_le 7 m with h' | h'
      · exact absurd (.inr (.inr h')) hn
      · exact h'
/-- What Mouse says: nothing, or a mouse's bytes. -/
def mouseOut (k : Ms) (modes : Int) : List UInt8 :=
  if bits .and .i64 modes 128 = 0 ∨ rightK k.c k.m = false ∨ isMouse k.c = false ∨ min k.x k.y < 0 ∨ 9998 < max k.x k.y then []
  else if k.c = 1114139 ∨ k.c = 1114140 then mouseL k else if k.b < 1 ∨ 3 < k.b then [] else mouseL k
/-- A slice of bytes of the call's own. -/
def Out (w : World) (e : Ending) (w' : World) (l : List UInt8) : Prop := ∃ A n c, e = .returned (.slice A n c) ∧ n = l.length ∧ n ≤ c ∧ Rd w' A (bs l) ∧ w.grownBy w' none
theorem Out.nil {w w' : World} (g : w.grownBy w' none) {l : List UInt8} (h : l = []) : Out w (.returned (.slice none 0 0)) w' l := by
  subst h
  exact ⟨none, 0, 0, rfl, rfl, Nat.le_refl _, Rd.nil _ _, g⟩
/-- Ahead of the bytes: the number and the last byte are known. -/
structure MI (OUT : List UInt8) (w wx : World) (bR : Nat) (c m b x y N : Int) (z : UInt8) : Prop where
  out : OUT = [27, 91, 60] ++ Lib.itoa (N + 4 * m) ++ [59] ++ Lib.itoa (x + 1) ++ [59] ++ Lib.itoa (y + 1) ++ [z]
  hn : 0 ≤ N ∧ N ≤ 65
  hm : 0 ≤ m ∧ m ≤ 7
  hxy : 0 ≤ x ∧ x ≤ 9998 ∧ 0 ≤ y ∧ y ≤ 9998
  hg : w.grownBy wx none
  hk : MC wx bR ⟨c, m, b, x, y⟩
theorem mouse_mi {OUT : List UInt8} {w wx : World} {bR : Nat} {c m b x y N : Int} {z : UInt8} (ho : OUT = mouseL ⟨c, m, b, x, y⟩) (hN : mouseN c m b = N + 4 * m) (hz : mouseZ c = z) (n : 0 ≤ N ∧ N ≤ 65) (hm : 0 ≤ m ∧ m ≤ 7)
    (xy : 0 ≤ x ∧ x ≤ 9998 ∧ 0 ≤ y ∧ y ≤ 9998) (g : w.grownBy wx none) (k : MC wx bR ⟨c, m, b, x, y⟩) : MI OUT w wx bR c m b x y N z :=
  ⟨by rw [ho, mouseL, hN, hz], n, hm, xy, g, k⟩
set_option maxHeartbeats 2000000 in
set_option maxRecDepth 100000 in
theorem mouseB_any (k : Ms) (modes : Int) (hc : I64 k.c) (hm : I64 k.m) (hb : I64 k.b) (hx : I64 k.x) (hy : I64 k.y) (w : World) (hW : Wd w) :
    Calls Tryz.prog 19 #[msV k, .int .i64 modes] w fun e w' => Out w e w' (mouseOut k modes) := by
  have CR : Hid (∀ W, Wd W → Calls Tryz.prog 8 #[keyV k.c k.m] W fun e w' => e = .returned (.bool (rightK k.c k.m)) ∧ W.grownBy w' none) := Lib.hid fun W h => right_any k.c k.m hc W h
  have CM : Hid (∀ W, Calls Tryz.prog 22 #[.int .i64 k.c] W fun e w' => e = .returned (.bool (isMouse k.c)) ∧ w' = W) := Lib.hid fun W => mouse_any k.c W
  have hrt := fun (h : rightK k.c k.m = true) => right_mods h
  obtain ⟨c, m, b, x, y⟩ := k
  unfold I64 at *
  dsimp only at *
  obtain ⟨r, hr⟩ : ∃ r, r = rightK c m := ⟨_, rfl⟩
  obtain ⟨mo, hmo⟩ : ∃ r, r = isMouse c := ⟨_, rfl⟩
  obtain ⟨bm, hbm⟩ : ∃ r, r = bits .and .i64 modes 128 := ⟨_, rfl⟩
  obtain ⟨mn, hmn⟩ : ∃ r, r = min x y := ⟨_, rfl⟩
  obtain ⟨mx, hmx⟩ : ∃ r, r = max x y := ⟨_, rfl⟩
  have ho : mouseOut ⟨c, m, b, x, y⟩ modes = if bm = 0 ∨ r = false ∨ mo = false ∨ mn < 0 ∨ 9998 < mx then [] else if c = 1114139 ∨ c = 1114140 then mouseL ⟨c, m, b, x, y⟩ else if b < 1 ∨ 3 < b then [] else mouseL ⟨c, m, b, x, y⟩ := by rw [hr, hmo, hbm, hmn, hmx]; rfl
  rw [← hr] at CR hrt; rw [← hmo] at CM
  obtain ⟨OUT, hOUT⟩ : ∃ r, r = mouseOut ⟨c, m, b, x, y⟩ modes := ⟨_, rfl⟩
  rw [← hOUT] at ho ⊢
  obtain ⟨W0, hW0⟩ : ∃ W, W = w.alloc (.cells #[.int .i64 c, .int .i64 m, .int .i64 b, .int .i64 x, .int .i64 y] 40) := ⟨_, rfl⟩
  have g0 : w.grownBy W0 none := by rw [hW0]; exact World.grownBy_alloc _ _ _
  obtain ⟨bR, hbR⟩ : ∃ n, n = w.heap.size := ⟨_, rfl⟩
  have hR0 : MC W0 bR ⟨c, m, b, x, y⟩ := by rw [hW0, hbR]; exact MC.new w ⟨c, m, b, x, y⟩
  obtain ⟨x0, x1, x2, x3, x4, _⟩ := hR0.cells
  dsimp only at x0 x1 x2 x3 x4
  have CR0 := Lib.hid (CR.out W0 (hW.grown g0))
  replace hW := Lib.hid hW; replace hW0 := Lib.hid hW0; replace g0 := Lib.hid g0; replace hbR := Lib.hid hbR; replace hR0 := Lib.hid hR0; replace ho := Lib.hid ho; replace hOUT := Lib.hid hOUT; replace hr := Lib.hid hr; replace hmo := Lib.hid hmo; replace hrt := Lib.hid hrt
  replace hmn := hmn.symm; replace hmx := hmx.symm; replace hbm := hbm.symm
  have hmn1 := Lib.hid hmn; have hmx1 := Lib.hid hmx
  clear CR
  unfold msV
  dsimp only
  go_enter Tryz.func19, Tryz.ntmps19
  go_upto_block 0 with fail
  rw [← hW0.out, ← hbR.out]
  go_cut [6, 7] (fun nv zv wx => ∃ (N : Int) (z : UInt8), nv = .int .i64 N ∧ zv = .string (st [z]) ∧ Hid (MI OUT w wx bR c m b x y N z))
  case rest =>
    obtain ⟨N, z, rfl, rfl, hI⟩ := hcut
    obtain ⟨z0, z1, z2, z3, z4, _⟩ := hI.out.hk.cells
    have hnb := hI.out.hn; have hmb := hI.out.hm; have hxy := hI.out.hxy
    clear x0 x1 x2 x3 x4 CM CR0 z0 z2
    dsimp only at z1 z3 z4
    obtain ⟨nn, hnn⟩ : ∃ n, n = N + 4 * m := ⟨_, rfl⟩
    obtain ⟨xx, hxx⟩ : ∃ n, n = x + 1 := ⟨_, rfl⟩
    obtain ⟨yy, hyy⟩ : ∃ n, n = y + 1 := ⟨_, rfl⟩
    have w2 : wrap64 (N + wrap64 (4 * m)) = nn := by rw [hnn, IntWalk.wrap64_in (4 * m) (by omega), IntWalk.wrap64_in _ (by omega)]
    have w3 : wrap64 (x + 1) = xx := by rw [hxx, IntWalk.wrap64_in _ (by omega)]
    have w4 : wrap64 (y + 1) = yy := by rw [hyy, IntWalk.wrap64_in _ (by omega)]
    obtain ⟨sn, hsn⟩ : ∃ s, s = st (Lib.itoa nn) := ⟨_, rfl⟩
    obtain ⟨sx, hsx⟩ : ∃ s, s = st (Lib.itoa xx) := ⟨_, rfl⟩
    obtain ⟨sy, hsy⟩ : ∃ s, s = st (Lib.itoa yy) := ⟨_, rfl⟩
    obtain ⟨sz, hsz⟩ : ∃ s, s = st [z] := ⟨_, rfl⟩
    have l1 := Lib.itoa_length_le nn (by omega) (by omega)
    have l2 := Lib.itoa_length_le xx (by omega) (by omega)
    have l3 := Lib.itoa_length_le yy (by omega) (by omega)
    obtain ⟨s1, s2, s3, s4, s5, s6, k1, k2, k3, k4, k5, k6, k7⟩ : ∃ s1 s2 s3 s4 s5 s6, Adds ⟨#[27, 91, 60]⟩ sn s1 ∧ Adds s1 ⟨#[59]⟩ s2 ∧ Adds s2 sx s3 ∧ Adds s3 ⟨#[59]⟩ s4 ∧ Adds s4 sy s5 ∧ Adds s5 sz s6 ∧ s6 = st OUT := by
      subst hsn; subst hsx; subst hsy; subst hsz
      refine ⟨_, _, _, _, _, _, adds_st [27, 91, 60] _ (by simp; omega), adds_st _ [59] (by simp; omega), adds_st _ _ (by simp; omega), adds_st _ [59] (by simp; omega), adds_st _ _ (by simp; omega), adds_st _ _ (by simp; omega), ?_⟩
      rw [hI.out.out, hnn, hxx, hyy]
    have kc := fun W => conv_run W OUT
    rw [← k7] at kc
    have hlen : OUT.length ≤ 1000000 := by
      rw [hI.out.out, ← hnn, ← hxx, ← hyy]
      simp only [List.length_append, List.length_cons, List.length_nil]; omega
    obtain ⟨nl, hnl⟩ : ∃ n, n = OUT.length := ⟨_, rfl⟩
    rw [← hnl] at kc
    unfold Adds at k1 k2 k3 k4 k5 k6
    have CS : Hid (∀ (t : Int) (s : ByteArray) (X : Gn wc), ((t = wrap64 (N + wrap64 (4 * m)) ∧ s = sn) ∨ (t = wrap64 (x + 1) ∧ s = sx) ∨ (t = wrap64 (y + 1) ∧ s = sy)) → Calls Tryz.prog 26 #[.int .i64 t] X.V fun e w' => e = .returned (.string s) ∧ ∃ Y : Gn wc, w' = Y.V) := Lib.hid fun t s X h => by
      have hWX := hW.out.grown (hI.out.hg.trans X.h)
      have go : ∀ z, -9223372036854775808 ≤ z → z ≤ 9223372036854775807 → Calls Tryz.prog 26 #[.int .i64 z] X.V fun e w' => e = .returned (.string (st (Lib.itoa z))) ∧ ∃ Y : Gn wc, w' = Y.V := fun z a b => (itoa_any z X.V a b hWX).mono fun e w' ⟨h1, h2⟩ => ⟨h1, ⟨w', X.h.trans h2⟩, rfl⟩
      rcases h with ⟨rfl, rfl⟩ | ⟨rfl, rfl⟩ | ⟨rfl, rfl⟩
      · rw [w2, hsn]; exact go _ (by omega) (by omega)
      · rw [w3, hsx]; exact go _ (by omega) (by omega)
      · rw [w4, hsy]; exact go _ (by omega) (by omega)
    rw [← hsz]
    replace w2 := Lib.hid w2; replace w3 := Lib.hid w3; replace w4 := Lib.hid w4
    replace hnn := Lib.hid hnn; replace hxx := Lib.hid hxx; replace hyy := Lib.hid hyy
    replace hsn := Lib.hid hsn; replace hsx := Lib.hid hsx; replace hsy := Lib.hid hsy; replace hsz := Lib.hid hsz; replace k7 := Lib.hid k7; replace hnl := Lib.hid hnl; replace hlen := Lib.hid hlen
    replace hmn := Lib.hid hmn; replace hmx := Lib.hid hmx; replace hbm := Lib.hid hbm; replace hxy := Lib.hid hxy; replace hnb := Lib.hid hnb; replace hmb := Lib.hid hmb
    have zz1 : ∀ X : Gn wc, X.V.cell? ⟨bR, 1, none⟩ = some (.int .i64 m) := fun X => X.h.cell z1 (by simp)
    have zz3 : ∀ X : Gn wc, X.V.cell? ⟨bR, 3, none⟩ = some (.int .i64 x) := fun X => X.h.cell z3 (by simp)
    have zz4 : ∀ X : Gn wc, X.V.cell? ⟨bR, 4, none⟩ = some (.int .i64 y) := fun X => X.h.cell z4 (by simp)
    go_upto_region 15 with fail
    refine wp_region_grt 24 (by kernel_rfl) (by kernel_rfl) ?_
    simp only [List.take_succ_cons, List.take_zero, List.drop_succ_cons, List.drop_zero]
    repeat (go_big_quiet_step ((go_at_call 26; exact CS.out _ _ _ (by first | exact .inl ⟨rfl, rfl⟩ | exact .inr (.inl ⟨rfl, rfl⟩) | exact .inr (.inr ⟨rfl, rfl⟩)))))
    refine wpQuiet_nil ?_
    intro _ hw'
    obtain ⟨GX, hw''⟩ := hw'
    subst hw''
    have GW := hI.out.hg.trans GX.h
    generalize GX.V = wg at GW ⊢
    all_goals
      go_wp2_with fail
      go_ret
      refine ⟨_, _, _, rfl, hnl.out, grownCap_ge _ _ _ _, ?_, GW.trans (bytes_grown _ _)⟩
      rw [k7.out]
      exact bytes_rd _ OUT
  have hnil : Hid (bm = 0 ∨ r = false ∨ mo = false ∨ mn < 0 ∨ 9998 < mx → OUT = []) := Lib.hid fun h => by rw [ho.out, if_pos h]
  by_cases h1 : bm = 0
  · have e1 := hnil.out (.inl h1)
    replace e1 := Lib.hid e1
    subst h1
    go_wp2_with fail
    go_ret
    exact Out.nil g0.out e1.out
  cases r with
  | false =>
    have e1 := hnil.out (.inr (.inl rfl))
    replace e1 := Lib.hid e1
    go_wp2_with fail
    refine CR0.out.mono ?_
    rintro e w1 ⟨rfl, g1⟩
    have G1 := g0.out.trans g1
    replace G1 := Lib.hid G1; clear g1
    go_wp2_with fail
    go_ret
    exact Out.nil G1.out e1.out
  | true =>
  cases mo with
  | false =>
    have e1 := hnil.out (.inr (.inr (.inl rfl)))
    replace e1 := Lib.hid e1
    go_wp2_with fail
    refine CR0.out.mono ?_
    rintro e w1 ⟨rfl, g1⟩
    have G1 := g0.out.trans g1
    replace G1 := Lib.hid G1; clear g1
    go_wp2_with fail
    refine (CM.out _).mono ?_
    rintro e w2 ⟨rfl, rfl⟩
    go_wp2_with fail
    go_ret
    exact Out.nil G1.out e1.out
  | true =>
  obtain ⟨m0, m7, _⟩ := hrt.out rfl
  by_cases h2 : mn < 0
  · have e1 := hnil.out (.inr (.inr (.inr (.inl h2))))
    replace e1 := Lib.hid e1
    go_wp2_with fail
    refine CR0.out.mono ?_
    rintro e w1 ⟨rfl, g1⟩
    have G1 := g0.out.trans g1
    have y0 := g1.cell x0 (by simp); have y3 := g1.cell x3 (by simp); have y4 := g1.cell x4 (by simp)
    replace G1 := Lib.hid G1; clear g1
    go_wp2_with fail
    refine (CM.out _).mono ?_
    rintro e w2 ⟨rfl, rfl⟩
    go_wp2_with fail
    go_ret
    exact Out.nil G1.out e1.out
  by_cases h3 : 9998 < mx
  · have e1 := hnil.out (.inr (.inr (.inr (.inr h3))))
    replace e1 := Lib.hid e1
    go_wp2_with fail
    refine CR0.out.mono ?_
    rintro e w1 ⟨rfl, g1⟩
    have G1 := g0.out.trans g1
    have y0 := g1.cell x0 (by simp); have y3 := g1.cell x3 (by simp); have y4 := g1.cell x4 (by simp)
    replace G1 := Lib.hid G1; clear g1
    go_wp2_with fail
    refine (CM.out _).mono ?_
    rintro e w2 ⟨rfl, rfl⟩
    go_wp2_with fail
    go_ret
    exact Out.nil G1.out e1.out
  have q1 : (bm == 0) = false := by rw [beq_eq_false_iff_ne]; exact h1
  have q2 : decide (mn < 0) = false := decide_eq_false h2
  have q3 : decide (9998 < mx) = false := decide_eq_false h3
  have hxy : 0 ≤ x ∧ x ≤ 9998 ∧ 0 ≤ y ∧ y ≤ 9998 := by have := hmn1.out; have := hmx1.out; omega
  have ho2 : OUT = if c = 1114139 ∨ c = 1114140 then mouseL ⟨c, m, b, x, y⟩ else if b < 1 ∨ 3 < b then [] else mouseL ⟨c, m, b, x, y⟩ := by
    rw [ho.out, if_neg]
    rintro (h | h | h | h | h)
    · exact h1 h
    · cases h
    · cases h
    · exact h2 h
    · exact h3 h
  have hcm : 1114136 ≤ c ∧ c ≤ 1114140 := by
    have := hmo.out
    unfold isMouse at this
    simp only [Bool.true_eq, Bool.and_eq_true, decide_eq_true_eq] at this
    exact this
  replace ho2 := Lib.hid ho2
  go_wp2_with fail
  refine CR0.out.mono ?_
  rintro e w1 ⟨rfl, g1⟩
  have G1 := g0.out.trans g1
  have y0 := g1.cell x0 (by simp); have y1 := g1.cell x1 (by simp); have y2 := g1.cell x2 (by simp); have y3 := g1.cell x3 (by simp); have y4 := g1.cell x4 (by simp)
  have hg1 := Lib.hid g1; replace G1 := Lib.hid G1; clear g1 x0 x1 x2 x3 x4 CR0
  go_wp2_with fail
  refine (CM.out _).mono ?_
  rintro e w2 ⟨rfl, rfl⟩
  clear CM
  have hR1 := Lib.hid (hR0.out.grown hg1.out)
  have hI : ∀ N z, OUT = mouseL ⟨c, m, b, x, y⟩ → mouseN c m b = N + 4 * m → mouseZ c = z → 0 ≤ N → N ≤ 65 → MI OUT w w2 bR c m b x y N z := fun N z h1 h2 h3 h4 h5 => mouse_mi h1 h2 h3 ⟨h4, h5⟩ ⟨m0, m7⟩ hxy G1.out hR1.out
  replace hI := Lib.hid hI
  have hc5 : c = 1114139 ∨ c = 1114140 ∨ c = 1114136 ∨ c = 1114137 ∨ c = 1114138 := by omega
  rcases hc5 with rfl | rfl | hc5
  · have e1 : OUT = mouseL ⟨1114139, m, b, x, y⟩ := by rw [ho2.out, if_pos (.inl rfl)]
    replace e1 := Lib.hid e1
    go_wp2_with fail
    go_meet
    exact ⟨64, 77, rfl, rfl, Lib.hid (hI.out 64 77 e1.out rfl rfl (by omega) (by omega))⟩
  · have e1 : OUT = mouseL ⟨1114140, m, b, x, y⟩ := by rw [ho2.out, if_pos (.inr rfl)]
    replace e1 := Lib.hid e1
    go_wp2_with fail
    go_meet
    exact ⟨65, 77, rfl, rfl, Lib.hid (hI.out 65 77 e1.out rfl rfl (by omega) (by omega))⟩
  have hcn : ¬ (c = 1114139 ∨ c = 1114140) := by omega
  by_cases hb1 : b < 1
  · have e1 : OUT = [] := by rw [ho2.out, if_neg hcn, if_pos (.inl hb1)]
    replace e1 := Lib.hid e1
    rcases hc5 with rfl | rfl | rfl
    all_goals
      go_wp2_with fail
      go_ret
      exact Out.nil G1.out e1.out
  by_cases hb3 : 3 < b
  · have e1 : OUT = [] := by rw [ho2.out, if_neg hcn, if_pos (.inr hb3)]
    replace e1 := Lib.hid e1
    rcases hc5 with rfl | rfl | rfl
    all_goals
      go_wp2_with fail
      go_ret
      exact Out.nil G1.out e1.out
  have e1 : OUT = mouseL ⟨c, m, b, x, y⟩ := by
    rw [ho2.out, if_neg hcn, if_neg]
    rintro (h | h)
    · exact hb1 h
    · exact hb3 h
  replace e1 := Lib.hid e1
  have hw1 : wrap64 (b - 1) = b - 1 := wrap64_id (by omega) (by omega)
  rcases hc5 with rfl | rfl | rfl
  · go_wp2_with fail
    go_meet
    exact ⟨b - 1, 77, rfl, rfl, Lib.hid (hI.out (b - 1) 77 e1.out rfl rfl (by omega) (by omega))⟩
  · go_wp2_with fail
    go_meet
    exact ⟨b - 1, 109, rfl, rfl, Lib.hid (hI.out (b - 1) 109 e1.out rfl rfl (by omega) (by omega))⟩
  · have hw2 : wrap64 (b - 1 + 32) = b - 1 + 32 := wrap64_id (by omega) (by omega)
    go_wp2_with fail
    go_meet
    exact ⟨b - 1 + 32, 77, rfl, rfl, Lib.hid (hI.out (b - 1 + 32) 77 e1.out rfl rfl (by omega) (by omega))⟩
end Go.Proofs.YtncokbppijnfiaaGreatDoor
