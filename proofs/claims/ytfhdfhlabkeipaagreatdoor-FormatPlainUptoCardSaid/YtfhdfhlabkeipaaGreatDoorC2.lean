/- Format: part: where a pattern's part ends, and whether it means a byte. -/
import Derived.Test.YtfhdfhlabkeipaaGreatDoorC1
import Derived.BigQuiet
namespace Go.Proofs.YtfhdfhlabkeipaaGreatDoor
open Go.RowKit
set_option linter.unusedSimpArgs false
set_option linter.unusedVariables false

/-- What the program hands back for a part. -/
def partE (P : B) (i : Nat) (c : UInt8) : Nat := P.length - (partL (P.drop i) c).2.length
theorem u8_beqn {a : UInt8} {n : Int} (h : (a.toNat : Int) = n) (c : UInt8) : (n == (c.toNat : Int)) = (a == c) := by rw [← h, u8_beq]
theorem g_drewN (w : World) (k : Nat) : w.grownBy (w.drewN k) none := by
  induction k with
  | zero => exact World.grownBy.refl _ _
  | succ k ih => exact g_drew ih

set_option maxHeartbeats 1000000 in
set_option maxRecDepth 100000 in
theorem part_any (P : B) (i : Nat) (c : UInt8) (w : World) (hP : P.length ≤ 20000) (hi : i < P.length) :
    Calls Tryz.prog 21 #[.string (st P), .int .i64 i, .int .u8 (c.toNat : Int)] w fun e w' => e = .returned (.tuple #[.int .i64 (partE P i c), .bool (partL (P.drop i) c).1]) ∧ w.grownBy w' none := by
  have CC := class_any P i c w hP hi
  obtain ⟨S, hS⟩ : ∃ S, S = st P := ⟨_, rfl⟩
  obtain ⟨len, hlen⟩ : ∃ len, len = P.length := ⟨_, rfl⟩
  have hZ : S.size = len := by rw [hS, st_size, hlen]
  obtain ⟨a, ha⟩ : ∃ a, P[i]? = some a := ⟨P[i], List.getElem?_eq_getElem _⟩
  have hda := drop_at ha
  have hg := get_at ha hS
  rw [← hS] at CC
  rw [← hlen] at hP hi
  rw [← hS]
  have hil : (i : Int) < (len : Int) := by omega
  have hw1 : IntKind.i64.wrap ((i : Int) + 1) = ((i + 1 : Nat) : Int) := by rw [IntKind.wrap_i64]; omega
  have hw2 : IntKind.i64.wrap ((i : Int) + 2) = ((i + 2 : Nat) : Int) := by rw [IntKind.wrap_i64]; omega
  have hE1 : ∀ x : B, x = P.drop (i + 1) → ((P.length - x.length : Nat) : Int) = ((i + 1 : Nat) : Int) := fun x hx => by rw [hx, List.length_drop, ← hlen]; omega
  have hE2 : i + 1 < len → ∀ x : B, x = P.drop (i + 2) → ((P.length - x.length : Nat) : Int) = ((i + 2 : Nat) : Int) := fun h x hx => by rw [hx, List.length_drop, ← hlen]; omega
  replace hE1 := Lib.hid hE1; replace hE2 := Lib.hid hE2
  replace hS := Lib.hid hS; replace CC := Lib.hid CC
  have fin : ∀ (e1 : Int) (b : Bool) (x : B), partL (P.drop i) c = (b, x) → ((P.length - x.length : Nat) : Int) = e1 → (Value.tuple #[.int .i64 (partE P i c), .bool (partL (P.drop i) c).1]) = .tuple #[.int .i64 e1, .bool b] := fun e1 b x h1 h2 => by
    unfold partE; rw [h1]; dsimp only; rw [h2]
  replace fin := Lib.hid fin
  by_cases h63 : a = 63
  · have e63 : (a.toNat : Int) = 63 := u8_eq (n := 63) (by omega) h63
    have hr := fin.out _ _ _ (by rw [hda]; unfold partL; dsimp only; rw [if_pos h63]) (hE1.out _ rfl)
    rw [hr]
    replace hr := Lib.hid hr; replace h63 := Lib.hid h63; replace hda := Lib.hid hda; replace ha := Lib.hid ha; replace hlen := Lib.hid hlen
    go_enter Tryz.func21, Tryz.ntmps21
    go_wp2_with fail
    go_ret2
    exact ⟨rfl, World.grownBy.refl _ _⟩
  · have e63 : ¬ ((a.toNat : Int) = 63) := u8_ne (n := 63) (by omega) h63
    by_cases h91 : a = 91
    · have e91 : (a.toNat : Int) = 91 := u8_eq (n := 91) (by omega) h91
      cases hcl : classL (P.drop (i + 1)) c with
      | some x =>
        have hxl := classL_len hcl
        rw [List.length_drop, ← hlen] at hxl
        obtain ⟨ke, hke⟩ : ∃ ke, ke = P.length - x.2.length := ⟨_, rfl⟩
        have hke1 : 1 ≤ ke := by rw [hke, ← hlen]; omega
        have hr := fin.out (ke : Int) x.1 x.2 (by rw [hda]; unfold partL; dsimp only; rw [if_neg h63, if_pos h91, hcl]) (by rw [hke])
        rw [hr]
        have CC2 := CC.out
        rw [hcl] at CC2
        unfold classV at CC2
        dsimp only at CC2
        rw [← hke] at CC2
        replace CC2 := Lib.hid CC2
        replace hr := Lib.hid hr; replace hda := Lib.hid hda; replace ha := Lib.hid ha; replace hlen := Lib.hid hlen; replace hcl := Lib.hid hcl; replace hke := Lib.hid hke; replace hxl := Lib.hid hxl; replace h63 := Lib.hid h63; replace h91 := Lib.hid h91
        go_enter Tryz.func21, Tryz.ntmps21
        go_wp2_with fail
        refine CC2.out.mono ?_
        rintro e w1 ⟨rfl, G1⟩
        replace G1 := Lib.hid G1
        go_wp2_with fail
        go_ret2
        exact ⟨rfl, G1.out⟩
      | none =>
        have hr := fin.out ((i + 1 : Nat) : Int) ((91 : Int) == (c.toNat : Int)) (P.drop (i + 1)) (by rw [hda]; unfold partL; dsimp only; rw [if_neg h63, if_pos h91, hcl, u8_beqn e91]) (hE1.out _ rfl)
        rw [hr]
        have CC2 := CC.out
        rw [hcl] at CC2
        unfold classV at CC2
        dsimp only at CC2
        replace CC2 := Lib.hid CC2
        replace hr := Lib.hid hr; replace hda := Lib.hid hda; replace ha := Lib.hid ha; replace hlen := Lib.hid hlen; replace hcl := Lib.hid hcl; replace h63 := Lib.hid h63; replace h91 := Lib.hid h91
        go_enter Tryz.func21, Tryz.ntmps21
        go_wp2_with fail
        refine CC2.out.mono ?_
        rintro e w1 ⟨rfl, G1⟩
        replace G1 := Lib.hid G1
        go_upto_region 11 with fail
        go_quiet (fail)
        go_wp2_with fail
        go_ret2
        exact ⟨by first | rfl | (rw [u8_beq]; rfl), G1.out.trans (g_drewN _ _)⟩
    · have e91 : ¬ ((a.toNat : Int) = 91) := u8_ne (n := 91) (by omega) h91
      by_cases h92 : a = 92
      · have e92 : (a.toNat : Int) = 92 := u8_eq (n := 92) (by omega) h92
        by_cases hl1 : i + 1 < len
        · obtain ⟨b, hb⟩ : ∃ b, P[i + 1]? = some b := ⟨P[i + 1]'(by rw [← hlen]; exact hl1), List.getElem?_eq_getElem _⟩
          have hgb := get_at hb hS.out
          have hl1i : (i : Int) + 1 < (len : Int) := by omega
          have hr := fin.out ((i + 2 : Nat) : Int) (b == c) (P.drop (i + 2)) (by rw [hda]; unfold partL; dsimp only; rw [if_neg h63, if_neg h91, if_pos h92, drop_at hb]) (hE2.out hl1 _ rfl)
          rw [hr]
          replace hb := Lib.hid hb; replace h91 := Lib.hid h91; replace h92 := Lib.hid h92; replace hr := Lib.hid hr; replace hda := Lib.hid hda; replace ha := Lib.hid ha; replace hlen := Lib.hid hlen; replace h63 := Lib.hid h63
          go_enter Tryz.func21, Tryz.ntmps21
          go_upto_region 10 with fail
          go_quiet (fail)
          go_wp2_with fail
          go_ret2
          exact ⟨by first | rfl | (rw [u8_beq]; rfl), g_drewN _ _⟩
        · have hl1i : ¬ ((i : Int) + 1 < (len : Int)) := by omega
          have hr := fin.out ((i + 1 : Nat) : Int) ((92 : Int) == (c.toNat : Int)) (P.drop (i + 1)) (by rw [hda, List.drop_eq_nil_of_le (by rw [← hlen]; omega)]; unfold partL; dsimp only; rw [if_neg h63, if_neg h91, if_pos h92, u8_beqn e92]) (hE1.out _ rfl)
          rw [hr]
          replace h91 := Lib.hid h91; replace h92 := Lib.hid h92; replace hr := Lib.hid hr; replace hda := Lib.hid hda; replace ha := Lib.hid ha; replace hlen := Lib.hid hlen; replace h63 := Lib.hid h63
          go_enter Tryz.func21, Tryz.ntmps21
          go_upto_region 11 with fail
          go_quiet (fail)
          go_wp2_with fail
          go_ret2
          exact ⟨by first | rfl | (rw [u8_beq]; rfl), g_drewN _ _⟩
      · have e92 : ¬ ((a.toNat : Int) = 92) := u8_ne (n := 92) (by omega) h92
        have hr := fin.out ((i + 1 : Nat) : Int) (a == c) (P.drop (i + 1)) (by rw [hda]; unfold partL; dsimp only; rw [if_neg h63, if_neg h91, if_neg h92]) (hE1.out _ rfl)
        rw [hr]
        replace h91 := Lib.hid h91; replace h92 := Lib.hid h92; replace hr := Lib.hid hr; replace hda := Lib.hid hda; replace ha := Lib.hid ha; replace hlen := Lib.hid hlen; replace h63 := Lib.hid h63
        go_enter Tryz.func21, Tryz.ntmps21
        go_upto_region 11 with fail
        go_quiet (fail)
        go_wp2_with fail
        go_ret2
        exact ⟨by first | rfl | (rw [u8_beq]; rfl), g_drewN _ _⟩
end Go.Proofs.YtfhdfhlabkeipaaGreatDoor
