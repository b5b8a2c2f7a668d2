/- Key: the decoder of package cell: Feed, NewDecoder, Pending. -/
import Derived.Test.YtncokbppijnfiaaGreatDoorH1
namespace Go.Proofs.YtncokbppijnfiaaGreatDoor
open Go.RowKit
set_option linter.unusedSimpArgs false
set_option linter.unusedVariables false

theorem info21 : (Tryz.prog.info? 21).map (fun i => (i.zero, i.size, i.bytes)) = some (some (.int .i32 0), 1, 4) := by kernel_rfl
section
variable {ops : Array Oper} {rest : List Oper} {o : Oper} {a : Act} {Q : Exit → Act → World → Prop} {w : World}
/-- append at []rune. -/
theorem ap63 (hgd : o.guard = none) (s x : Operand) (ho : o.op = .call { callee := .builtin .append, args := #[s, x], argTypes := #[63, 63] })
    (base : Nat) (v : Value) (n : Nat) (xs : List Value) (hs : a.eval s = v) (hown : w.ownsRow base 21 1 v n xs)
    (A : Option Addr) (m c : Nat) (news : List Value) (hx : a.eval x = .slice A m c) (hl : news.length = m) (hr : Rd w A news) (h1 : ∀ u ∈ news, u.oneCell' = true)
    (hb : n + m ≤ 1099511627776) (hbase : base ≤ w.heap.size)
    (h : ∀ A' c' w', w'.ownsRow base 21 1 (.slice A' (n + m) c') (n + m) (xs ++ news) → w.grownBy w' v.ownBlock → (ablk A' = v.ownBlock ∨ ablk A' = some w.heap.size) → wpList Tryz.prog ops Q rest (a.put o.dst (.slice A' (n + m) c')) w') : wpList Tryz.prog ops Q (o :: rest) a w := by
  obtain ⟨i0, hi0, hz0, hz1, hz2⟩ := info_parts info21
  exact wpList_append_rd w hgd s x 63 ho base 21 i0 _ 1 4 Tryz.underlying63 hi0 hz0 hz1 hz2 rfl (by omega) v n xs hs hown A m c news hx (by omega) hr h1 (by unfold maxLen; omega) (by omega) hbase h
end
theorem i32_in (z : Int) (a : 0 ≤ z) (c : z < 2147483648) : IntKind.i32.wrap z = z := by
  have h : z % 4294967296 = z := by omega
  simp [IntKind.wrap, IntKind.signed, IntKind.bits, h]; omega
theorem or32 {m k : Nat} (hm : m < 1048576) (hk : k < 64) : bits .or .i32 ((m * 64 : Nat) : Int) (k : Int) = ((m * 64 + k : Nat) : Int) := by
  show IntKind.i32.wrap ((BitVec.ofInt 32 ((m * 64 : Nat) : Int) ||| BitVec.ofInt 32 (k : Int)).toNat : Int) = _
  rw [BitVec.toNat_or, BitVec.ofInt_natCast, BitVec.ofInt_natCast, BitVec.toNat_ofNat, BitVec.toNat_ofNat, Nat.mod_eq_of_lt (by omega), Nat.mod_eq_of_lt (by omega)]
  have h := Nat.shiftLeft_add_eq_or_of_lt (i := 6) (b := k) (by omega) m
  rw [Nat.shiftLeft_eq] at h
  rw [show m * 64 = m * 2 ^ 6 by rfl, ← h, i32_in _ (by omega) (by omega)]
theorem newDec_cell (w : World) : Calls Tryz.prog 72 #[] w fun e w' => e = .returned (.pointer (some ⟨w.heap.size, 0, none⟩)) ∧ w.grownBy w' none ∧ DC w' w.heap.size ⟨0, 0, 0, 0, 0⟩ := by
  go_enter Tryz.func72, Tryz.ntmps72
  go_wp2_with fail
  go_ret
  exact ⟨rfl, World.grownBy_alloc _ _ _, heap_alloc_new w _⟩
theorem pending_any (b : Nat) (d : Dc) (w : World) (hD : DC w b d) : Calls Tryz.prog 73 #[.pointer (some ⟨b, 0, none⟩)] w fun e w' => e = .returned (.int .i64 d.have') ∧ w' = w := by
  obtain ⟨x0, x1, x2, x3, x4, x5⟩ := hD.cells
  have f1 := x5 1
  clear x5
  replace hD := Lib.hid hD
  go_enter Tryz.func73, Tryz.ntmps73
  go_wp2_with fail
  go_ret
  exact ⟨rfl, rfl⟩
/-- What holds of a decoder between two bytes. -/
def Dc.ok (d : Dc) : Prop := d.have' = 0 ∨ (0 ≤ d.r ∧ d.r ≤ 32767 ∧ 1 ≤ d.have' ∧ d.have' ≤ 3 ∧ 1 ≤ d.more ∧ d.more ≤ 3 ∧ 0 ≤ d.lo ∧ d.hi ≤ 255)
set_option maxHeartbeats 1000000 in
set_option maxRecDepth 100000 in
theorem feed_cell (b : Nat) (d : Dc) (ci : Int) (h0 : 0 ≤ ci) (h1 : ci ≤ 255) (hk : d.ok) (w : World) (hD : DC w b d) :
    Calls Tryz.prog 74 #[.pointer (some ⟨b, 0, none⟩), .int .u8 ci] w fun e w' => ∃ A n c, e = .returned (.slice A n c) ∧ n = (feedL d ci).1.length ∧ n ≤ c ∧ Rd w' A (r32 (feedL d ci).1) ∧ DC w' b (feedL d ci).2 ∧ w.grownBy w' (some b) := by
  obtain ⟨x0, x1, x2, x3, x4, x5⟩ := hD.cells
  have f0 := x5 0; have f1 := x5 1; have f2 := x5 2; have f3 := x5 3; have f4 := x5 4
  clear x5
  have hlt := hD.lt
  obtain ⟨FL, hFL⟩ : ∃ r, r = feedL d ci := ⟨_, rfl⟩
  rw [← hFL]
  unfold feedL at hFL
  by_cases hz : d.have' = 0
  · rw [if_pos hz] at hFL
    rw [hz] at x1
    have CB := Lib.hid (begin_any b d ci h0 h1 w hD)
    rw [← hFL] at CB
    replace hD := Lib.hid hD; replace hFL := Lib.hid hFL; replace hz := Lib.hid hz; replace hk := Lib.hid hk
    go_enter Tryz.func74, Tryz.ntmps74
    go_wp2_with fail
    refine CB.out.mono ?_
    rintro e w' ⟨A, n, c, rfl, q1, q2, q3, q4, q5⟩
    replace q1 := Lib.hid q1
    go_wp2_with fail
    go_ret
    exact ⟨A, n, c, rfl, q1.out, q2, q3, q4, q5⟩
  rw [if_neg hz] at hFL
  obtain ⟨k0, k1, k2, k3, k4, k5, k6, k7⟩ := hk.resolve_left hz
  have hzb : (d.have' == 0) = false := by rw [beq_eq_false_iff_ne]; exact hz
  obtain ⟨dr, dh, dm, dl, du⟩ := d
  dsimp only at *
  by_cases hbad : ci < dl ∨ du < ci
  · rw [if_pos hbad] at hFL
    have D1 := hD.set1 0
    dsimp only at D1
    have g1 := set_row' (World.grownBy.refl w (some b)) 1 (.int .i64 0)
    obtain ⟨W1, hW1⟩ : ∃ W, W = w.setCell ⟨b, 1, none⟩ (.int .i64 0) := ⟨_, rfl⟩
    have hs1 : W1.heap.size = w.heap.size := by rw [hW1]; simp [World.setCell]
    rw [← hW1] at D1 g1
    have g2 := g1.trans (World.grownBy_alloc W1 (.cells #[.int .i32 65533] 21) (some b))
    have D2 := D1.grown (World.grownBy_alloc W1 (.cells #[.int .i32 65533] 21) none) (by simp)
    have O2 := World.ownsRow_lit (base := W1.heap.size) (e := 21) (size := 1) W1 #[.int .i32 65533] 1 (Nat.le_refl _) (by decide) rfl
    have hob : (Value.slice (some ⟨W1.heap.size, 0, none⟩) 1 1).ownBlock = some W1.heap.size := rfl
    obtain ⟨W2, hW2⟩ : ∃ W, W = W1.alloc (.cells #[.int .i32 65533] 21) := ⟨_, rfl⟩
    rw [← hW2] at g2 D2 O2
    obtain ⟨bL, hbL⟩ : ∃ n, n = W1.heap.size := ⟨_, rfl⟩
    rw [← hbL] at O2 hob hs1
    have CB := begin_any b ⟨dr, 0, dm, dl, du⟩ ci h0 h1 W2 D2
    obtain ⟨BG, hBG⟩ : ∃ r, r = beginL ⟨dr, 0, dm, dl, du⟩ ci := ⟨_, rfl⟩
    rw [← hBG] at CB hFL
    have hBl : BG.1.length ≤ 1 := by
      rw [hBG]; unfold beginL; split
      · simp
      split
      · simp
      split
      · simp
      split <;> simp
    have hcs : ci < dl ∧ decide (ci < dl) = true ∨ ¬ ci < dl ∧ decide (ci < dl) = false ∧ du < ci ∧ decide (du < ci) = true := by
      by_cases h : ci < dl
      · exact .inl ⟨h, decide_eq_true h⟩
      · exact .inr ⟨h, decide_eq_false h, hbad.resolve_left h, decide_eq_true (hbad.resolve_left h)⟩
    obtain ⟨y0, y1, y2, y3, y4, _⟩ := D1.cells
    replace hD := Lib.hid hD; replace hFL := Lib.hid hFL; replace D1 := Lib.hid D1; replace g1 := Lib.hid g1; replace g2 := Lib.hid g2; replace D2 := Lib.hid D2; replace O2 := Lib.hid O2; replace hW1 := Lib.hid hW1; replace hW2 := Lib.hid hW2; replace hbL := Lib.hid hbL; replace hob := Lib.hid hob; replace hs1 := Lib.hid hs1; replace CB := Lib.hid CB; replace hBG := Lib.hid hBG; replace hbad := Lib.hid hbad; replace hz := Lib.hid hz; replace hk := Lib.hid hk
    rcases hcs with ⟨q1, q2⟩ | ⟨q1, q2, q3, q4⟩
    all_goals
      go_enter Tryz.func74, Tryz.ntmps74
      go_upto_region 5 with fail
      rw [← hW1.out]
      clear x0 x1 x2 x3 x4
      go_wp2_with fail
      rw [← hW2.out, ← hbL.out]
      refine CB.out.mono ?_
      rintro e w' ⟨A, n, c, rfl, q1, q2, q3, q4, q5⟩
      have O3 := own_but O2.out q5 (by rw [hs1.out]; exact hlt)
      have hnl := q1
      replace O3 := Lib.hid O3; replace q1 := Lib.hid q1; replace q4 := Lib.hid q4; replace q5 := Lib.hid q5; replace q3 := Lib.hid q3
      have hn2 : n ≤ 1 := by omega
      replace hnl := Lib.hid hnl
      go_wp2_with (at_builtin; refine ap63 rfl (.tmp 32) (.tmp 35) rfl bL _ 1 [.int .i32 65533] rfl O3.out _ n c (r32 BG.1) rfl (by simp [r32]; exact hnl.out.symm) q3.out (by intro u hu; obtain ⟨z, _, rfl⟩ := List.mem_map.1 hu; rfl) (by omega) (by have h8 := q5.out.size; have h9 := g2.out.size; rw [hs1.out]; omega) ?_; intro A' c' w'' r1 r2 r3)
      go_ret
      obtain ⟨_, _, e5, R5, _, h5, _⟩ := Rd.of_own r1
      cases e5
      rw [hFL.out]
      refine ⟨A', 1 + n, c', rfl, ?_, h5, ?_, ?_, ?_⟩
      · show 1 + n = BG.1.length + 1
        rw [hnl.out]; omega
      · exact R5
      · refine q4.out.grown r2 ?_
        intro e6
        have e6 : some b = some bL := e6
        injection e6 with e6
        rw [hs1.out] at e6; omega
      · exact g_own (g2.out.trans q5.out) O3.out (by rw [hs1.out]; exact Nat.le_refl _) r2
  rw [if_neg hbad] at hFL
  have h3 : ¬ ci < dl := fun h => hbad (.inl h)
  have h4 : ¬ du < ci := fun h => hbad (.inr h)
  have hd3 : decide (ci < dl) = false := decide_eq_false h3
  have hd4 : decide (du < ci) = false := decide_eq_false h4
  obtain ⟨dn, rfl⟩ : ∃ m : Nat, dr = m := ⟨dr.toNat, by omega⟩
  have a63 : bits .and .u8 ci 63 = ci % 64 := and8_pow h0 (by omega) 6 (by omega)
  obtain ⟨cn, hcn⟩ : ∃ m : Nat, ci % 64 = m := ⟨(ci % 64).toNat, by omega⟩
  rw [hcn] at a63
  have hcl : cn < 64 := by omega
  have hw1 := i32_in ((dn : Int) * 64) (by omega) (by omega)
  have hw2 := i32_in (cn : Int) (by omega) (by omega)
  have ho : bits .or .i32 ((dn : Int) * 64) (cn : Int) = ((dn * 64 + cn : Nat) : Int) := by
    rw [← or32 (by omega) hcl]; rfl
  obtain ⟨rn, hrn⟩ : ∃ m : Nat, m = dn * 64 + cn := ⟨_, rfl⟩
  rw [← hrn] at ho
  have hrr : (dn : Int) * 64 + ci % 64 = rn := by omega
  rw [hrr] at hFL
  have D1 := (((hD.set0 rn).set3 128).set4 191).set1 (dh + 1)
  have D2 := D1.set2 (dm - 1)
  dsimp only at D1 D2
  have g2 := set_row' (set_row' (set_row' (set_row' (set_row' (World.grownBy.refl w (some b)) 0 (.int .i32 rn)) 3 (.int .u8 128)) 4 (.int .u8 191)) 1 (.int .i64 (dh + 1))) 2 (.int .i64 (dm - 1))
  obtain ⟨W2, hW2⟩ : ∃ W, W = ((((w.setCell ⟨b, 0, none⟩ (.int .i32 rn)).setCell ⟨b, 3, none⟩ (.int .u8 128)).setCell ⟨b, 4, none⟩ (.int .u8 191)).setCell ⟨b, 1, none⟩ (.int .i64 (dh + 1))).setCell ⟨b, 2, none⟩ (.int .i64 (dm - 1)) := ⟨_, rfl⟩
  rw [← hW2] at D2 g2
  have hwa : wrap64 (dh + 1) = dh + 1 := IntWalk.wrap64_in _ (by omega)
  have hwb : wrap64 (dm - 1) = dm - 1 := IntWalk.wrap64_in _ (by omega)
  clear D1
  obtain ⟨y0, y1, y2, y3, y4, y5⟩ := D2.cells
  dsimp only at y0 y1 y2 y3 y4
  have v0 := y5 0; have v1 := y5 1; have v2 := y5 2; have v3 := y5 3; have v4 := y5 4
  clear y5
  replace hD := Lib.hid hD; replace hFL := Lib.hid hFL; replace D2 := Lib.hid D2; replace g2 := Lib.hid g2; replace hW2 := Lib.hid hW2; replace hrn := Lib.hid hrn; replace hcn := Lib.hid hcn; replace hrr := Lib.hid hrr
  go_enter Tryz.func74, Tryz.ntmps74
  go_upto_region 10 with fail
  rw [← hW2.out]
  clear x0 x1 x2 x3 x4 f0 f1 f2 f3 f4
  by_cases hm : 1 < dm
  · have e1 : FL = ([], ⟨rn, dh + 1, dm - 1, 128, 191⟩) := by rw [hFL.out, if_pos hm]
    have hp : (0 : Int) < dm - 1 := by omega
    have hpd : decide ((0 : Int) < dm - 1) = true := decide_eq_true hp
    replace e1 := Lib.hid e1
    go_wp2_with fail
    go_ret
    rw [e1.out]
    exact ⟨none, 0, 0, rfl, rfl, Nat.le_refl _, Rd.nil _ _, D2.out, g2.out⟩
  · have e1 : FL = ([(rn : Int)], ⟨rn, 0, dm - 1, 128, 191⟩) := by rw [hFL.out, if_neg hm]
    have hp : ¬ (0 : Int) < dm - 1 := by omega
    have hpd : decide ((0 : Int) < dm - 1) = false := decide_eq_false hp
    have D3 := D2.out.set1 0
    dsimp only at D3
    have g3 := set_row' g2.out 1 (.int .i64 0)
    replace e1 := Lib.hid e1; replace D3 := Lib.hid D3; replace g3 := Lib.hid g3
    go_wp2_with fail
    go_ret
    rw [e1.out]
    have hRd := Rd.newL (W2.setCell ⟨b, 1, none⟩ (.int .i64 0)) [.int .i32 rn] 21
    rw [show (W2.setCell ⟨b, 1, none⟩ (.int .i64 0)).heap.size = W2.heap.size by simp [World.setCell]] at hRd
    exact ⟨_, 1, 1, rfl, rfl, Nat.le_refl _, hRd, D3.out.grown (World.grownBy_alloc _ _ none) (by simp), g3.out.trans (World.grownBy_alloc _ _ _)⟩
end Go.Proofs.YtncokbppijnfiaaGreatDoor
