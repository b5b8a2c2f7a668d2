/- Format: cell.Cut at the examples' x. Format: strings.LastIndexByte at this program; apply at l, b, u. Format: modified by l; by b, at the examples' x. -/
import Derived.Test.YtfhdfhlabkeipaaGreatDoorQ3
import Derived.Test.YtfhdfhlabkeipaaGreatDoorBase
import Derived.Lib.OthersKept
import Derived.Test.YtfhdfhlabkeipaaGreatDoorQ1
namespace Go.Proofs.YtfhdfhlabkeipaaGreatDoor
open Go.RowKit
set_option linter.unusedSimpArgs false
set_option linter.unusedVariables false

theorem rs_ints (P : B) : rs P = (P.map fun b => (b.toNat : Int)).map (Value.int .i32) := by simp [rs]
theorem conv_runes {w : World} {base n c : Nat} {A : Option Addr} {P : B} (hn : n = P.length) (h0 : 0 < n) (ho : w.ownsRow base 21 1 (.slice A n c) n (rs P)) : (convert 147 9 (.slice A n c)).run Tryz.prog w = .ok (.string (runesBytes (P.map fun b => (b.toNat : Int)))) w := by
  obtain ⟨g, rfl⟩ := own_some ho h0
  have hr := own_rd ho
  have h := run_convert_runes (P := Tryz.prog) w 147 9 21 ⟨g, 0, none⟩ n c (P.map fun b => (b.toNat : Int)) (by simp [hn]) Tryz.underlying147 Tryz.underlying21 Tryz.underlying9 (fun j hj => by
    have hj' : j < P.length := by simpa using hj
    obtain ⟨b, off, e, _, h2⟩ := hr.at_ (j := j) (u := .int .i32 ((P.map fun b => (b.toNat : Int)).getD j 0)) (by
      rw [rs_ints]
      rw [List.getElem?_map, List.getElem?_map, List.getD_eq_getElem?_getD, List.getElem?_map]
      rw [List.getElem?_eq_getElem hj']
      rfl)
    cases e
    rw [Addr.add_lit]
    exact h2)
  rw [h, List.take_of_length_le (by simp [hn])]
theorem rb_x : runesBytes (xV.map fun b => (b.toNat : Int)) = ⟨#[97, 47, 98, 46, 99]⟩ := by decide +kernel

def xB : ByteArray := ⟨#[97, 47, 98, 46, 99]⟩
theorem next_x (W : World) (k i : Nat) (r : Int) (hk : W.heap[k]? = some (.stringIter xB i)) (hi : i < xB.size) (ha : (xB[i]'hi).toNat < 128) (hr : ((xB[i]'hi).toNat : Int) = r) :
    ∃ V, (Instr.next (.pointer (some ⟨k, 0, none⟩)) true 0).run Tryz.prog W = .ok (.tuple #[.bool true, .int .i64 (i : Int), .int .i32 r]) V ∧ V.heap[k]? = some (.stringIter xB (i + 1)) ∧ Fr (fun j => j = k) W V := by
  refine ⟨_, Lib.run_next_ascii_at W k xB i 0 hk hi ha |>.trans (by rw [hr]), Lib.iterAt_heap W k xB i (i + 1) hk, rfl, rfl, rfl, by rw [Lib.iterAt_size]; exact Nat.le_refl _, fun j _ hj => Lib.iterAt_other W k j xB (i + 1) hj⟩
set_option maxHeartbeats 2000000 in
set_option maxRecDepth 100000 in
theorem cut_x (w : World) : Calls Tryz.prog 94 #[.string (st xV), .int .i64 3] w fun e w' => e = .returned (.string (st [97, 47, 98])) ∧ w.grownBy w' none := by
  have CR := runes_ascii xV w (by decide) (by decide)
  unfold RunP at CR
  rw [show xV.length = 5 from rfl] at CR
  rw [show st xV = ⟨#[97, 47, 98, 46, 99]⟩ from rfl] at CR ⊢
  have CW := Lib.hid wide_one
  replace CR := Lib.hid CR
  go_enter Tryz.func94, Tryz.ntmps94
  go_wp2_with fail
  refine CR.out.mono ?_
  rintro e w1 ⟨A, c, rfl, hO, hG⟩
  have hcv := conv_runes (P := xV) (n := 5) rfl (by decide) hO
  rw [rb_x] at hcv
  replace hO := Lib.hid hO; replace hG := Lib.hid hG
  have hI0 : (w1.iter xB 0).heap[w1.heap.size]? = some (.stringIter xB 0) := World.iter_heap _ _ _
  have g0 : w.grownBy (w1.iter xB 0) none := g_alloc hG.out _
  obtain ⟨k, hk⟩ : ∃ k, k = w1.heap.size := ⟨_, rfl⟩
  obtain ⟨W0, hW0⟩ : ∃ W0, W0 = w1.iter xB 0 := ⟨_, rfl⟩
  have hkl : w.heap.size ≤ k := by rw [hk]; exact hG.out.size
  rw [← hk, ← hW0] at hI0
  rw [← hW0] at g0
  unfold xB at hW0
  replace hW0 := Lib.hid hW0; replace hk := Lib.hid hk; replace hkl := Lib.hid hkl; replace g0 := Lib.hid g0
  obtain ⟨V0, hn0, hI1, hF0⟩ := next_x W0 k 0 97 hI0 (by decide) (by decide) rfl
  have v0 := hF0.grow g0.out hkl.out
  rw [show (((0 : Nat) : Nat) : Int) = 0 from rfl] at hn0
  replace hI0 := Lib.hid hI0; replace hI1 := Lib.hid hI1; replace hF0 := Lib.hid hF0; replace v0 := Lib.hid v0
  go_wp2_with fail
  refine wp_loop_in (loopWp_round ?_)
  rw [← hW0.out, ← hk.out]
  go_wp2_with fail
  refine (CW.out 97 _ (by omega) (by omega)).mono ?_
  rintro e u0 ⟨rfl, gu0⟩
  have g1 := v0.out.trans gu0
  have hJ1 : u0.heap[k]? = some (.stringIter xB 1) := (gu0.block k (Array.getElem?_eq_some_iff.1 hI1.out).1 (by simp)).trans hI1.out
  obtain ⟨V1, hn1, hI2, hF1⟩ := next_x u0 k 1 47 hJ1 (by decide) (by decide) rfl
  have v1 := hF1.grow g1 hkl.out
  rw [show (((1 : Nat) : Nat) : Int) = 1 from rfl] at hn1
  replace g1 := Lib.hid g1; replace gu0 := Lib.hid gu0; replace hJ1 := Lib.hid hJ1; replace hI2 := Lib.hid hI2; replace hF1 := Lib.hid hF1; replace v1 := Lib.hid v1
  go_wp2_with fail
  refine loopWp_round ?_
  go_wp2_with fail
  refine (CW.out 47 _ (by omega) (by omega)).mono ?_
  rintro e u1 ⟨rfl, gu1⟩
  have g2 := v1.out.trans gu1
  have hJ2 : u1.heap[k]? = some (.stringIter xB 2) := (gu1.block k (Array.getElem?_eq_some_iff.1 hI2.out).1 (by simp)).trans hI2.out
  obtain ⟨V2, hn2, hI3, hF2⟩ := next_x u1 k 2 98 hJ2 (by decide) (by decide) rfl
  have v2 := hF2.grow g2 hkl.out
  rw [show (((2 : Nat) : Nat) : Int) = 2 from rfl] at hn2
  replace g2 := Lib.hid g2; replace gu1 := Lib.hid gu1; replace hJ2 := Lib.hid hJ2; replace hI3 := Lib.hid hI3; replace hF2 := Lib.hid hF2; replace v2 := Lib.hid v2
  go_wp2_with fail
  refine loopWp_round ?_
  go_wp2_with fail
  refine (CW.out 98 _ (by omega) (by omega)).mono ?_
  rintro e u2 ⟨rfl, gu2⟩
  have g3 := v2.out.trans gu2
  have hJ3 : u2.heap[k]? = some (.stringIter xB 3) := (gu2.block k (Array.getElem?_eq_some_iff.1 hI3.out).1 (by simp)).trans hI3.out
  obtain ⟨V3, hn3, hI4, hF3⟩ := next_x u2 k 3 46 hJ3 (by decide) (by decide) rfl
  have v3 := hF3.grow g3 hkl.out
  rw [show (((3 : Nat) : Nat) : Int) = 3 from rfl] at hn3
  replace g3 := Lib.hid g3; replace gu2 := Lib.hid gu2; replace hJ3 := Lib.hid hJ3; replace hI4 := Lib.hid hI4; replace hF3 := Lib.hid hF3; replace v3 := Lib.hid v3
  go_wp2_with fail
  refine loopWp_round ?_
  go_wp2_with fail
  refine (CW.out 46 _ (by omega) (by omega)).mono ?_
  rintro e u3 ⟨rfl, gu3⟩
  have g4 := v3.out.trans gu3
  replace g4 := Lib.hid g4
  go_wp2_with fail
  go_ret
  exact ⟨rfl, g4.out⟩
end Go.Proofs.YtfhdfhlabkeipaaGreatDoor
namespace Go.Proofs.YtfhdfhlabkeipaaGreatDoor
open Go.RowKit
set_option linter.unusedSimpArgs false
set_option linter.unusedVariables false

def lastI (P : B) (c : UInt8) : Nat → Option Nat
  | 0 => none
  | k + 1 => if P[k]? = some c then some k else lastI P c k
set_option maxRecDepth 100000 in
set_option maxHeartbeats 1000000 in
theorem lastByte_any (P : B) (c : UInt8) (w : World) (hP : P.length ≤ 9223372036854775807) :
    Calls Tryz.prog 121 #[.string (st P), .int .u8 (c.toNat : Int)] w fun e w' => e = .returned (.int .i64 (idx (lastI P c P.length))) ∧ w' = w := by
  obtain ⟨S, hS⟩ : ∃ S, S = st P := ⟨_, rfl⟩
  obtain ⟨len, hlen⟩ : ∃ len, len = P.length := ⟨_, rfl⟩
  have hZ : S.size = len := by rw [hS, st_size, hlen]
  rw [← hS, ← hlen]
  rw [← hlen] at hP
  have hw0 : IntKind.i64.wrap ((len : Int) - 1) = (len : Int) - 1 := by rw [IntKind.wrap_i64]; omega
  replace hS := Lib.hid hS; replace hlen := Lib.hid hlen
  go_enter Tryz.func121, Tryz.ntmps121
  go_wp2_with fail
  go_loopw [5] (fun iv wr => ∃ (k : Nat) (x : Int), iv = .int .i64 x ∧ wr = w ∧ k ≤ len ∧ Hid (x = (k : Int) - 1 ∧ lastI P c len = lastI P c k)) (fun iv _ => ((intOf iv) + 1).toNat)
  case atStart => exact ⟨len, (len : Int) - 1, rfl, rfl, Nat.le_refl _, Lib.hid ⟨rfl, rfl⟩⟩
  case round =>
    obtain ⟨k, x, rfl, rfl, hk, hI⟩ := hrel
    obtain ⟨hx, hL⟩ := hI.out
    rcases k with _ | i
    · have hx1 : x = -1 := by omega
      subst hx1
      clear hx
      have hr : lastI P c len = none := hL
      replace hr := Lib.hid hr; replace hL := Lib.hid hL; replace hI := Lib.hid hI
      go_wp2_with fail
      go_ret
      exact ⟨by rw [hr.out]; rfl, rfl⟩
    · have hx1 : x = (i : Int) := by omega
      subst hx1
      clear hx
      obtain ⟨a, ha⟩ : ∃ a, P[i]? = some a := ⟨P[i]'(by rw [← hlen.out]; omega), List.getElem?_eq_getElem _⟩
      have hg := get_at ha hS.out
      have hil : (i : Int) < (len : Int) := by omega
      have hi0 : (0 : Int) ≤ (i : Int) := by omega
      have hwi : IntKind.i64.wrap ((i : Int) - 1) = (i : Int) - 1 := by rw [IntKind.wrap_i64]; omega
      have hst : lastI P c len = if P[i]? = some c then some i else lastI P c i := hL
      by_cases he : a = c
      · have hb : ((a.toNat : Int) == (c.toNat : Int)) = true := by rw [u8_beq]; simp [he]
        rw [if_pos (by rw [ha, he])] at hst
        replace hst := Lib.hid hst; replace hL := Lib.hid hL; replace hI := Lib.hid hI; replace ha := Lib.hid ha; replace he := Lib.hid he
        go_wp2_with fail
        go_ret
        exact ⟨by rw [hst.out]; rfl, rfl⟩
      · have hb : ((a.toNat : Int) == (c.toNat : Int)) = false := by rw [u8_beq]; simp [he]
        rw [if_neg (by rw [ha]; simpa using he)] at hst
        replace hst := Lib.hid hst; replace hL := Lib.hid hL; replace hI := Lib.hid hI; replace ha := Lib.hid ha; replace he := Lib.hid he
        go_wp2_with fail
        exact ⟨⟨i, (i : Int) - 1, by first | rfl | rw [hwi], by first | trivial | rfl, by omega, Lib.hid ⟨rfl, hst.out⟩⟩, by simp [intOf]⟩
theorem lastI_lt (P : B) (c : UInt8) : ∀ (k : Nat) {j : Nat}, lastI P c k = some j → j < k
  | 0, j, h => by cases h
  | k + 1, j, h => by
    unfold lastI at h
    split at h
    · injection h with h; omega
    · have := lastI_lt P c k h; omega
set_option maxRecDepth 100000 in
theorem lastIndexByte_any (P : B) (c : UInt8) (w : World) (hP : P.length ≤ 9223372036854775807) :
    Calls Tryz.prog 92 #[.string (st P), .int .u8 (c.toNat : Int)] w fun e w' => e = .returned (.int .i64 (idx (lastI P c P.length))) ∧ w' = w := by
  have CL := Lib.hid (lastByte_any P c w hP)
  go_enter Tryz.func92, Tryz.ntmps92
  go_wp2_with fail
  refine CL.out.mono ?_
  rintro e w1 ⟨rfl, rfl⟩
  go_wp2_with fail
  go_ret
  exact ⟨rfl, rfl⟩

set_option maxRecDepth 100000 in
set_option maxHeartbeats 2000000 in
theorem apply_l (v : B) (w : World) (hv : v.length ≤ 9223372036854775807) :
    Calls Tryz.prog 76 #[.agg #[.int .u8 108, .int .i64 0, .bool false, .string ⟨#[]⟩, .string ⟨#[]⟩], .string (st v)] w fun e w' => e = .returned (.string (st v)) ∧ w.grownBy w' none := by
  have CL : Hid (∀ W, Calls Tryz.prog 92 #[.string (st v), .int .u8 47] W fun e w' => e = .returned (.int .i64 (idx (lastI v 47 v.length))) ∧ w' = W) := Lib.hid fun W => lastIndexByte_any v 47 W hv
  obtain ⟨q, hq⟩ : ∃ q, q = idx (lastI v 47 v.length) := ⟨_, rfl⟩
  rw [← hq] at CL
  obtain ⟨S, hS⟩ : ∃ S, S = st v := ⟨_, rfl⟩
  rw [← hS] at CL ⊢
  replace hq := Lib.hid hq; replace hS := Lib.hid hS
  go_enter Tryz.func76, Tryz.ntmps76
  go_wp2_with fail
  refine (CL.out _).mono ?_
  rintro e w1 ⟨rfl, rfl⟩
  go_wp2_with fail
  go_ret
  exact ⟨rfl, g_alloc (World.grownBy.refl _ _) _⟩
set_option maxRecDepth 100000 in
set_option maxHeartbeats 2000000 in
theorem apply_b (w : World) :
    Calls Tryz.prog 76 #[.agg #[.int .u8 98, .int .i64 0, .bool false, .string ⟨#[]⟩, .string ⟨#[]⟩], .string (st xV)] w fun e w' => e = .returned (.string (st [98, 46, 99])) ∧ w.grownBy w' none := by
  have CL : Hid (∀ W, Calls Tryz.prog 92 #[.string (st xV), .int .u8 47] W fun e w' => e = .returned (.int .i64 1) ∧ w' = W) := Lib.hid fun W => lastIndexByte_any xV 47 W (by decide)
  have hex : (st xV).extract 2 5 = st [98, 46, 99] := by rw [st_ext]; rfl
  have hsz : (st xV).size = 5 := by rw [st_size]; rfl
  obtain ⟨S, hS⟩ : ∃ S, S = st xV := ⟨_, rfl⟩
  rw [← hS] at CL hex hsz ⊢
  replace hS := Lib.hid hS
  go_enter Tryz.func76, Tryz.ntmps76
  go_wp2_with fail
  refine (CL.out _).mono ?_
  rintro e w1 ⟨rfl, rfl⟩
  go_wp2_with fail
  go_ret
  exact ⟨by first | rfl | (rw [← hex]; rfl), g_alloc (World.grownBy.refl _ _) _⟩
end Go.Proofs.YtfhdfhlabkeipaaGreatDoor
namespace Go.Proofs.YtfhdfhlabkeipaaGreatDoor
open Go.RowKit
set_option linter.unusedSimpArgs false
set_option linter.unusedVariables false

theorem cells5 {w : World} {base c g : Nat} {x0 x1 x2 x3 x4 : Value} (h : w.ownsRow base 109 5 (.slice (some ⟨g, 0, none⟩) 1 c) 1 [x0, x1, x2, x3, x4]) : w.cell? ⟨g, 0, none⟩ = some x0 ∧ w.cell? ⟨g, 1, none⟩ = some x1 ∧ w.cell? ⟨g, 2, none⟩ = some x2 ∧ w.cell? ⟨g, 3, none⟩ = some x3 ∧ w.cell? ⟨g, 4, none⟩ = some x4 := by
  have hr := own_rd h
  have key : ∀ (j : Nat) (u : Value), ([x0, x1, x2, x3, x4] : List Value)[j]? = some u → w.cell? ⟨g, j, none⟩ = some u := fun j u hu => by
    obtain ⟨b, off, e2, _, h2⟩ := hr.at_ hu
    cases e2
    rwa [Nat.zero_add] at h2
  exact ⟨key 0 _ rfl, key 1 _ rfl, key 2 _ rfl, key 3 _ rfl, key 4 _ rfl⟩

set_option maxRecDepth 100000 in
set_option maxHeartbeats 4000000 in
theorem modified_l (base mb deep : Nat) (scs : List (Option Sc)) (r : B) (n ab cap : Nat) (W : World) (hr : r.length ≤ 8192) (hM : Mk base mb W ab cap scs deep n) (hB : base ≤ W.heap.size) :
    Calls Tryz.prog 60 #[.pointer (some ⟨mb, 0, none⟩), .string (st (108 :: 58 :: r))] W (ResP base mb scs deep ab W (.ok r n)) := by
  have CMo := modifiers_one 108 r W (.inr (.inr rfl)) (by omega)
  unfold MdP letC at CMo
  have CSh := Lib.hid (fun w => short_ok r w hr)
  have CA := Lib.hid (fun w => apply_l r w (by omega))
  obtain ⟨S, hS⟩ : ∃ S, S = st (108 :: 58 :: r) := ⟨_, rfl⟩
  obtain ⟨SR, hSR⟩ : ∃ S, S = st r := ⟨_, rfl⟩
  rw [← hS, ← hSR] at CMo
  rw [← hSR] at CSh CA
  rw [← hS]
  have fin : ∀ w', W.grownBy w' none → ResP base mb scs deep ab W (.ok r n) (.returned (.string SR)) w' := fun w' g => ⟨by rw [hSR], Kp.refl.grow0 g, ab, cap, hM.grown hB g, .inl rfl⟩
  replace CMo := Lib.hid CMo; replace hS := Lib.hid hS; replace hSR := Lib.hid hSR; replace hM := Lib.hid hM; replace hB := Lib.hid hB; replace fin := Lib.hid fin
  go_enter Tryz.func60, Tryz.ntmps60
  go_wp2_with fail
  refine CMo.out.mono ?_
  rintro e w1 ⟨A, cp, rfl, hO, hG⟩
  obtain ⟨g2, rfl⟩ := own_some hO (by omega)
  obtain ⟨d0, d1, d2, d3, d4⟩ := cells5 hO
  have d0' : w1.cell? ⟨g2, 0, none⟩ = some (.int .u8 108) := d0
  clear d0
  have hgl := (own_lt hO rfl).2
  replace hO := Lib.hid hO; replace hG := Lib.hid hG; replace hgl := Lib.hid hgl
  go_wp2_with fail
  refine wp_loop_in (loopWp_round ?_)
  go_wp2_with fail
  obtain ⟨W2, hW2⟩ : ∃ W2, W2 = w1.alloc (.cells #[.int .u8 108, .int .i64 0, .bool false, .string ⟨#[]⟩, .string ⟨#[]⟩] 109) := ⟨_, rfl⟩
  rw [← hW2]
  have g12 : w1.grownBy W2 none := by rw [hW2]; exact World.grownBy_alloc _ _ none
  have e0 := g12.cell d0' (by simp)
  have e1 := g12.cell d1 (by simp)
  have e2 := g12.cell d2 (by simp)
  have e3 := g12.cell d3 (by simp)
  have e4 := g12.cell d4 (by simp)
  clear d0' d1 d2 d3 d4
  replace hW2 := Lib.hid hW2; replace g12 := Lib.hid g12
  refine loopWp_round ?_
  go_wp2_with fail
  refine (CSh.out _).mono ?_
  rintro e w3 ⟨rfl, rfl⟩
  go_wp2_with fail
  refine wp_loop_in (loopWp_round ?_)
  go_wp2_with fail
  refine (CA.out _).mono ?_
  rintro e w4 ⟨rfl, G4⟩
  have hGG := (hG.out.trans g12.out).trans ((World.grownBy_alloc w3 (.cells #[.int .u8 108, .int .i64 0, .bool false, .string ⟨#[]⟩, .string ⟨#[]⟩] 109) none).trans G4)
  replace G4 := Lib.hid G4; replace hGG := Lib.hid hGG
  go_wp2_with fail
  refine (CSh.out _).mono ?_
  rintro e w5 ⟨rfl, rfl⟩
  go_wp2_with fail
  refine loopWp_round ?_
  go_wp2_with fail
  go_ret
  exact fin.out _ hGG.out
set_option maxRecDepth 100000 in
set_option maxHeartbeats 4000000 in
theorem modified_b (base mb deep : Nat) (scs : List (Option Sc)) (n ab cap : Nat) (W : World) (hl : scs.length ≤ 100) (hv : valueL scs xN = some (some xV)) (hM : Mk base mb W ab cap scs deep n) (hB : base ≤ W.heap.size) :
    Calls Tryz.prog 60 #[.pointer (some ⟨mb, 0, none⟩), .string (st [98, 58, 120])] W (ResP base mb scs deep ab W (.ok [98, 46, 99] n)) := by
  have CMo := modifiers_one 98 [120] W (.inl rfl) (by decide)
  unfold MdP letC at CMo
  have CSh := Lib.hid (fun w => short_ok xV w (by decide))
  have CSh2 := Lib.hid (fun w => short_ok [98, 46, 99] w (by decide))
  have CV := Lib.hid (fun w (g : W.grownBy w none) => value_any base mb ab cap deep n scs xN w (hM.grown hB g) (Nat.le_trans hB g.size) (by omega) (some xV) hv)
  unfold inV at CV
  dsimp only [Option.getD_some, Option.isSome_some] at CV
  have CA := Lib.hid apply_b
  obtain ⟨S, hS⟩ : ∃ S, S = st [98, 58, 120] := ⟨_, rfl⟩
  obtain ⟨SN, hSN⟩ : ∃ S, S = st xN := ⟨_, rfl⟩
  obtain ⟨SX, hSX⟩ : ∃ S, S = st xV := ⟨_, rfl⟩
  obtain ⟨SR, hSR⟩ : ∃ S, S = st [98, 46, 99] := ⟨_, rfl⟩
  rw [show st [120] = st xN from rfl] at CMo
  rw [← hS, ← hSN] at CMo
  rw [← hSX] at CSh CA CV
  rw [← hSN] at CV
  rw [← hSR] at CSh2 CA
  rw [← hS]
  have fin : ∀ w', W.grownBy w' none → ResP base mb scs deep ab W (.ok [98, 46, 99] n) (.returned (.string SR)) w' := fun w' g => ⟨by rw [hSR], Kp.refl.grow0 g, ab, cap, hM.grown hB g, .inl rfl⟩
  replace CMo := Lib.hid CMo; replace hS := Lib.hid hS; replace hSR := Lib.hid hSR; replace hSN := Lib.hid hSN; replace hSX := Lib.hid hSX; replace hv := Lib.hid hv; replace hM := Lib.hid hM; replace hB := Lib.hid hB; replace fin := Lib.hid fin
  go_enter Tryz.func60, Tryz.ntmps60
  go_wp2_with fail
  refine CMo.out.mono ?_
  rintro e w1 ⟨A, cp, rfl, hO, hG⟩
  obtain ⟨g2, rfl⟩ := own_some hO (by omega)
  obtain ⟨d0, d1, d2, d3, d4⟩ := cells5 hO
  have d0' : w1.cell? ⟨g2, 0, none⟩ = some (.int .u8 98) := d0
  clear d0
  have hgl := (own_lt hO rfl).2
  replace hO := Lib.hid hO; replace hG := Lib.hid hG; replace hgl := Lib.hid hgl
  go_wp2_with fail
  refine wp_loop_in (loopWp_round ?_)
  go_wp2_with fail
  obtain ⟨W2, hW2⟩ : ∃ W2, W2 = w1.alloc (.cells #[.int .u8 98, .int .i64 0, .bool false, .string ⟨#[]⟩, .string ⟨#[]⟩] 109) := ⟨_, rfl⟩
  rw [← hW2]
  have g12 : w1.grownBy W2 none := by rw [hW2]; exact World.grownBy_alloc _ _ none
  have e0 := g12.cell d0' (by simp)
  have e1 := g12.cell d1 (by simp)
  have e2 := g12.cell d2 (by simp)
  have e3 := g12.cell d3 (by simp)
  have e4 := g12.cell d4 (by simp)
  clear d0' d1 d2 d3 d4
  replace hW2 := Lib.hid hW2; replace g12 := Lib.hid g12
  refine loopWp_round ?_
  go_wp2_with fail
  refine (CV.out _ (hG.out.trans g12.out)).mono ?_
  rintro e w7 ⟨rfl, G7⟩
  have f0 := G7.cell e0 (by simp)
  have f1 := G7.cell e1 (by simp)
  have f2 := G7.cell e2 (by simp)
  have f3 := G7.cell e3 (by simp)
  have f4 := G7.cell e4 (by simp)
  clear e0 e1 e2 e3 e4
  replace G7 := Lib.hid G7
  go_wp2_with fail
  refine (CSh.out _).mono ?_
  rintro e w3 ⟨rfl, rfl⟩
  go_wp2_with fail
  refine wp_loop_in (loopWp_round ?_)
  go_wp2_with fail
  refine (CA.out _).mono ?_
  rintro e w4 ⟨rfl, G4⟩
  have hGG := ((hG.out.trans g12.out).trans G7.out).trans ((World.grownBy_alloc w3 (.cells #[.int .u8 98, .int .i64 0, .bool false, .string ⟨#[]⟩, .string ⟨#[]⟩] 109) none).trans G4)
  replace G4 := Lib.hid G4; replace hGG := Lib.hid hGG
  go_wp2_with fail
  refine (CSh2.out _).mono ?_
  rintro e w5 ⟨rfl, rfl⟩
  go_wp2_with fail
  refine loopWp_round ?_
  go_wp2_with fail
  go_ret
  exact fin.out _ hGG.out
end Go.Proofs.YtfhdfhlabkeipaaGreatDoor
