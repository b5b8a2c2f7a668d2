/- Key: the decoder of package cell: begin, Feed. -/
import Derived.Test.YtncokbppijnfiaaGreatDoorE2
import Derived.Deep.DeepCutAuto
import Derived.Deep.CutBlock
namespace Go.Proofs.YtncokbppijnfiaaGreatDoor
open Go.RowKit
set_option linter.unusedSimpArgs false
set_option linter.unusedVariables false

/-- A decoder's state: the rune so far, bytes that are pending, bytes that lack, the bounds of the next one. -/
structure Dc where
  r : Int
  have' : Int
  more : Int
  lo : Int
  hi : Int
deriving DecidableEq
/-- A decoder in a block. -/
def DC (w : World) (b : Nat) (d : Dc) : Prop := w.heap[b]? = some (.cells #[.int .i32 d.r, .int .i64 d.have', .int .i64 d.more, .int .u8 d.lo, .int .u8 d.hi] 144 (0, 0))
section
variable {w w' : World} {b : Nat} {d : Dc}
theorem DC.lt (h : DC w b d) : b < w.heap.size := (Array.getElem?_eq_some_iff.1 h).1
theorem DC.grown (h : DC w b d) {r : Option Nat} (g : w.grownBy w' r) (hr : some b ≠ r) : DC w' b d := (g.block b h.lt hr).trans h
theorem DC.cells (h : DC w b d) : w.cell? ⟨b, 0, none⟩ = some (.int .i32 d.r) ∧ w.cell? ⟨b, 1, none⟩ = some (.int .i64 d.have') ∧ w.cell? ⟨b, 2, none⟩ = some (.int .i64 d.more) ∧ w.cell? ⟨b, 3, none⟩ = some (.int .u8 d.lo) ∧ w.cell? ⟨b, 4, none⟩ = some (.int .u8 d.hi) ∧ ∀ j, w.frozen? ⟨b, j, none⟩ = false := by
  unfold DC at h
  refine ⟨?_, ?_, ?_, ?_, ?_, fun j => ?_⟩
  all_goals first | (unfold World.cell?; rw [h]; rfl) | (unfold World.frozen?; rw [h]; simp)
theorem DC.set0 (h : DC w b d) (x : Int) : DC (w.setCell ⟨b, 0, none⟩ (.int .i32 x)) b { d with r := x } := heap_set h _
theorem DC.set1 (h : DC w b d) (x : Int) : DC (w.setCell ⟨b, 1, none⟩ (.int .i64 x)) b { d with have' := x } := heap_set h _
theorem DC.set2 (h : DC w b d) (x : Int) : DC (w.setCell ⟨b, 2, none⟩ (.int .i64 x)) b { d with more := x } := heap_set h _
theorem DC.set3 (h : DC w b d) (x : Int) : DC (w.setCell ⟨b, 3, none⟩ (.int .u8 x)) b { d with lo := x } := heap_set h _
theorem DC.set4 (h : DC w b d) (x : Int) : DC (w.setCell ⟨b, 4, none⟩ (.int .u8 x)) b { d with hi := x } := heap_set h _
theorem set_row' {w w' : World} {b : Nat} (h : w.grownBy w' (some b)) (j : Nat) (v : Value) : w.grownBy (w'.setCell ⟨b, j, none⟩ v) (some b) := g_set (a := ⟨b, j, none⟩) h rfl v
end
/-- begin: the runes, and the state behind. -/
def beginL (d : Dc) (c : Int) : List Int × Dc :=
  if c < 128 then ([c], { d with lo := 128, hi := 191 })
  else if 194 ≤ c ∧ c ≤ 223 then ([], ⟨c % 32, 1, 1, 128, 191⟩)
  else if 224 ≤ c ∧ c ≤ 239 then ([], ⟨c % 16, 1, 2, if c = 224 then 160 else 128, if c = 237 then 159 else 191⟩)
  else if 240 ≤ c ∧ c ≤ 244 then ([], ⟨c % 8, 1, 3, if c = 240 then 144 else 128, if c = 244 then 143 else 191⟩)
  else ([65533], { d with lo := 128, hi := 191 })
/-- Feed. -/
def feedL (d : Dc) (c : Int) : List Int × Dc :=
  if d.have' = 0 then beginL d c
  else if c < d.lo ∨ d.hi < c then (65533 :: (beginL { d with have' := 0 } c).1, (beginL { d with have' := 0 } c).2)
  else if 1 < d.more then ([], ⟨d.r * 64 + c % 64, d.have' + 1, d.more - 1, 128, 191⟩)
  else ([d.r * 64 + c % 64], ⟨d.r * 64 + c % 64, 0, d.more - 1, 128, 191⟩)
def r32 (l : List Int) : List Value := l.map (Value.int .i32)
theorem and8 {m k : Nat} (hm : m < 256) (hk : k < 256) : bits .and .u8 (m : Int) (k : Int) = ((m &&& k : Nat) : Int) := by
  show IntKind.u8.wrap ((BitVec.ofInt 8 (m : Int) &&& BitVec.ofInt 8 (k : Int)).toNat : Int) = _
  rw [BitVec.toNat_and, BitVec.ofInt_natCast, BitVec.ofInt_natCast, BitVec.toNat_ofNat, BitVec.toNat_ofNat, Nat.mod_eq_of_lt (by omega), Nat.mod_eq_of_lt (by omega)]
  have h2 : m &&& k ≤ m := Nat.and_le_left
  have h3 : IntKind.u8.wrap ((m &&& k : Nat) : Int) = ((m &&& k : Nat) : Int) % 256 := by simp [IntKind.wrap]; rfl
  rw [h3]; omega
theorem and8_pow {c : Int} (h0 : 0 ≤ c) (h1 : c < 256) (n : Nat) (hn : n ≤ 6) : bits .and .u8 c (((2 ^ n - 1 : Nat)) : Int) = c % ((2 ^ n : Nat) : Int) := by
  obtain ⟨m, rfl⟩ : ∃ m : Nat, c = m := ⟨c.toNat, by omega⟩
  have h2 : 2 ^ n ≤ 64 := by
    have : 2 ^ n ≤ 2 ^ 6 := Nat.pow_le_pow_right (by omega) hn
    omega
  rw [and8 (by omega) (by omega), Nat.and_two_pow_sub_one_eq_mod]
  omega
set_option maxHeartbeats 4000000 in
set_option maxRecDepth 100000 in
theorem begin_any (b : Nat) (d : Dc) (ci : Int) (h0 : 0 ≤ ci) (h1 : ci ≤ 255) (w : World) (hD : DC w b d) :
    Calls Tryz.prog 84 #[.pointer (some ⟨b, 0, none⟩), .int .u8 ci] w fun e w' => ∃ A n c, e = .returned (.slice A n c) ∧ n = (beginL d ci).1.length ∧ n ≤ c ∧ Rd w' A (r32 (beginL d ci).1) ∧ DC w' b (beginL d ci).2 ∧ w.grownBy w' (some b) := by
  obtain ⟨x0, x1, x2, x3, x4, x5⟩ := hD.cells
  have f0 := x5 0; have f1 := x5 1; have f2 := x5 2; have f3 := x5 3; have f4 := x5 4
  clear x5
  have hlt := hD.lt
  have D2 := (hD.set3 128).set4 191
  have g2 := set_row' (set_row' (World.grownBy.refl w (some b)) 3 (.int .u8 128)) 4 (.int .u8 191)
  obtain ⟨W2, hW2⟩ : ∃ W, W = (w.setCell ⟨b, 3, none⟩ (.int .u8 128)).setCell ⟨b, 4, none⟩ (.int .u8 191) := ⟨_, rfl⟩
  rw [← hW2] at D2 g2
  have a31 := and8_pow h0 (by omega) 5 (by omega)
  have a15 := and8_pow h0 (by omega) 4 (by omega)
  have a7 := and8_pow h0 (by omega) 3 (by omega)
  have e31 : bits .and .u8 ci 31 = ci % 32 := a31
  have e15 : bits .and .u8 ci 15 = ci % 16 := a15
  have e7 : bits .and .u8 ci 7 = ci % 8 := a7
  clear a31 a15 a7
  have i32 : ∀ z : Int, 0 ≤ z → z ≤ 255 → IntKind.i32.wrap z = z := fun z a c => by
    have h : z % 4294967296 = z := by omega
    simp [IntKind.wrap, IntKind.signed, IntKind.bits, h]; omega
  obtain ⟨BL, hBL⟩ : ∃ r, r = beginL d ci := ⟨_, rfl⟩
  rw [← hBL]
  unfold beginL at hBL
  have hout : Hid (∀ (W : World) (z : Int) (d' : Dc), BL = ([z], d') → w.grownBy W (some b) → DC W b d' → ∃ A n c, Ending.returned (.slice (some ⟨W.heap.size, 0, none⟩) 1 1) = .returned (.slice A n c) ∧ n = BL.1.length ∧ n ≤ c ∧ Rd (W.alloc (.cells #[.int .i32 z] 21)) A (r32 BL.1) ∧ DC (W.alloc (.cells #[.int .i32 z] 21)) b BL.2 ∧ w.grownBy (W.alloc (.cells #[.int .i32 z] 21)) (some b)) := Lib.hid fun W z d' e g hd => by
    rw [e]
    exact ⟨_, 1, 1, rfl, rfl, Nat.le_refl _, Rd.newL W [.int .i32 z] 21, hd.grown (World.grownBy_alloc _ _ none) (by simp), g.trans (World.grownBy_alloc _ _ _)⟩
  have hnil : Hid (∀ (W : World) (d' : Dc), BL = ([], d') → w.grownBy W (some b) → DC W b d' → ∃ A n c, Ending.returned (.slice none 0 0) = .returned (.slice A n c) ∧ n = BL.1.length ∧ n ≤ c ∧ Rd W A (r32 BL.1) ∧ DC W b BL.2 ∧ w.grownBy W (some b)) := Lib.hid fun W d' e g hd => by
    rw [e]
    exact ⟨none, 0, 0, rfl, rfl, Nat.le_refl _, Rd.nil _ _, hd, g⟩
  obtain ⟨y0, y1, y2, y3, y4, y5⟩ := D2.cells
  dsimp only at y0 y1 y2 y3 y4
  have v0 := y5 0; have v1 := y5 1; have v2 := y5 2; have v3 := y5 3; have v4 := y5 4
  clear y5
  replace hD := Lib.hid hD; replace D2 := Lib.hid D2; replace g2 := Lib.hid g2; replace hW2 := Lib.hid hW2
  go_enter Tryz.func84, Tryz.ntmps84
  go_upto_block 0 with fail
  rw [← hW2.out]
  clear x0 x1 x2 x3 x4 f0 f1 f2 f3 f4
  by_cases k1 : ci < 128
  · have hw := i32 ci h0 h1
    have e1 : BL = ([ci], { d with lo := 128, hi := 191 }) := by rw [hBL, if_pos k1]
    clear hBL
    replace e1 := Lib.hid e1
    go_wp2_with fail
    go_ret
    exact hout.out _ _ _ e1.out g2.out D2.out
  rw [if_neg k1] at hBL
  by_cases k2 : 194 ≤ ci ∧ ci ≤ 223
  · obtain ⟨k2, k2'⟩ := k2
    have e1 : BL = ([], ⟨ci % 32, 1, 1, 128, 191⟩) := by rw [hBL, if_pos ⟨k2, k2'⟩]
    have hw := i32 (ci % 32) (by omega) (by omega)
    have D3 := ((D2.out.set0 (ci % 32)).set2 1).set1 1
    have g3 := set_row' (set_row' (set_row' g2.out 0 (.int .i32 (ci % 32))) 2 (.int .i64 1)) 1 (.int .i64 1)
    clear hBL
    replace e1 := Lib.hid e1; replace D3 := Lib.hid D3; replace g3 := Lib.hid g3
    go_wp2_with fail
    go_ret
    exact hnil.out _ _ e1.out g3.out D3.out
  rw [if_neg k2] at hBL
  by_cases k3 : 224 ≤ ci ∧ ci ≤ 239
  · rw [if_pos k3] at hBL
    obtain ⟨k3, k3'⟩ := k3
    have hw := i32 (ci % 16) (by omega) (by omega)
    clear k2
    by_cases k224 : ci = 224
    · subst k224
      have e1 : BL = ([], ⟨0, 1, 2, 160, 191⟩) := by rw [hBL, if_pos rfl, if_neg (by decide)]; rfl
      have D3 := (((D2.out.set0 (0)).set2 2).set3 160).set1 1
      have g3 := set_row' (set_row' (set_row' (set_row' g2.out 0 (.int .i32 (0))) 2 (.int .i64 2)) 3 (.int .u8 160)) 1 (.int .i64 1)
      clear hBL
      replace e1 := Lib.hid e1; replace D3 := Lib.hid D3; replace g3 := Lib.hid g3
      go_wp2_with fail
      go_ret
      exact hnil.out _ _ e1.out g3.out D3.out
    by_cases k237 : ci = 237
    · subst k237
      have e1 : BL = ([], ⟨13, 1, 2, 128, 159⟩) := by rw [hBL, if_neg (by decide), if_pos rfl]; rfl
      have D3 := (((D2.out.set0 (13)).set2 2).set4 159).set1 1
      have g3 := set_row' (set_row' (set_row' (set_row' g2.out 0 (.int .i32 (13))) 2 (.int .i64 2)) 4 (.int .u8 159)) 1 (.int .i64 1)
      clear hBL
      replace e1 := Lib.hid e1; replace D3 := Lib.hid D3; replace g3 := Lib.hid g3
      go_wp2_with fail
      go_ret
      exact hnil.out _ _ e1.out g3.out D3.out
    have e1 : BL = ([], ⟨ci % 16, 1, 2, 128, 191⟩) := by rw [hBL, if_neg k224, if_neg k237]
    have D3 := ((D2.out.set0 (ci % 16)).set2 2).set1 1
    have g3 := set_row' (set_row' (set_row' g2.out 0 (.int .i32 (ci % 16))) 2 (.int .i64 2)) 1 (.int .i64 1)
    clear hBL
    replace e1 := Lib.hid e1; replace D3 := Lib.hid D3; replace g3 := Lib.hid g3
    go_wp2_with fail
    go_ret
    exact hnil.out _ _ e1.out g3.out D3.out
  rw [if_neg k3] at hBL
  by_cases k4 : 240 ≤ ci ∧ ci ≤ 244
  · rw [if_pos k4] at hBL
    obtain ⟨k4, k4'⟩ := k4
    have hw := i32 (ci % 8) (by omega) (by omega)
    clear k2 k3
    by_cases k240 : ci = 240
    · subst k240
      have e1 : BL = ([], ⟨0, 1, 3, 144, 191⟩) := by rw [hBL, if_pos rfl, if_neg (by decide)]; rfl
      have D3 := (((D2.out.set0 (0)).set2 3).set3 144).set1 1
      have g3 := set_row' (set_row' (set_row' (set_row' g2.out 0 (.int .i32 (0))) 2 (.int .i64 3)) 3 (.int .u8 144)) 1 (.int .i64 1)
      clear hBL
      replace e1 := Lib.hid e1; replace D3 := Lib.hid D3; replace g3 := Lib.hid g3
      go_wp2_with fail
      go_ret
      exact hnil.out _ _ e1.out g3.out D3.out
    by_cases k244 : ci = 244
    · subst k244
      have e1 : BL = ([], ⟨4, 1, 3, 128, 143⟩) := by rw [hBL, if_neg (by decide), if_pos rfl]; rfl
      have D3 := (((D2.out.set0 (4)).set2 3).set4 143).set1 1
      have g3 := set_row' (set_row' (set_row' (set_row' g2.out 0 (.int .i32 (4))) 2 (.int .i64 3)) 4 (.int .u8 143)) 1 (.int .i64 1)
      clear hBL
      replace e1 := Lib.hid e1; replace D3 := Lib.hid D3; replace g3 := Lib.hid g3
      go_wp2_with fail
      go_ret
      exact hnil.out _ _ e1.out g3.out D3.out
    have e1 : BL = ([], ⟨ci % 8, 1, 3, 128, 191⟩) := by rw [hBL, if_neg k240, if_neg k244]
    have D3 := ((D2.out.set0 (ci % 8)).set2 3).set1 1
    have g3 := set_row' (set_row' (set_row' g2.out 0 (.int .i32 (ci % 8))) 2 (.int .i64 3)) 1 (.int .i64 1)
    clear hBL
    replace e1 := Lib.hid e1; replace D3 := Lib.hid D3; replace g3 := Lib.hid g3
    go_wp2_with fail
    go_ret
    exact hnil.out _ _ e1.out g3.out D3.out
  rw [if_neg k4] at hBL
  have e1 := hBL
  have hc : (128 ≤ ci ∧ ci < 194) ∨ 244 < ci := by omega
  clear hBL k2 k3 k4
  replace e1 := Lib.hid e1
  rcases hc with ⟨q1, q2⟩ | q1
  all_goals
    go_wp2_with fail
    go_ret
    exact hout.out _ _ _ e1.out g2.out D2.out
end Go.Proofs.YtncokbppijnfiaaGreatDoor
