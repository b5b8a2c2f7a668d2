/- Format: class: what the program hands back for a class of a pattern. -/
import Derived.Test.YtfhdfhlabkeipaaGreatDoorF4
import Derived.Test.YtfhdfhlabkeipaaGreatDoorProg
import Derived.Outline
import Derived.Deep.DeepCutAuto
import Derived.Deep.CutBlock
import Derived.Deep.RegionHeld3
namespace Go.Proofs.YtfhdfhlabkeipaaGreatDoor
open Go.RowKit
set_option linter.unusedSimpArgs false
set_option linter.unusedVariables false

theorem get_at {P : B} {j : Nat} {c : UInt8} (hc : P[j]? = some c) {S : ByteArray} (hS : S = st P) : ∀ h, S[j]'h = c := by
  subst hS
  intro h
  obtain ⟨q1, q2⟩ := List.getElem?_eq_some_iff.1 hc
  exact q2
theorem u8_ne {a : UInt8} {n : Nat} (hn : n < 256) (h : ¬ a = UInt8.ofNat n) : ¬ ((a.toNat : Int) = (n : Int)) := by
  intro e
  apply h
  have : a.toNat = n := by omega
  rw [← this]; simp
theorem u8_eq {a : UInt8} {n : Nat} (hn : n < 256) (h : a = UInt8.ofNat n) : (a.toNat : Int) = (n : Int) := by
  subst h
  simp [UInt8.toNat_ofNat']
  omega

theorem u8_beq (a c : UInt8) : ((a.toNat : Int) == (c.toNat : Int)) = (a == c) := by
  rw [Bool.eq_iff_iff, beq_iff_eq, beq_iff_eq]
  constructor
  · intro h; exact UInt8.toNat_inj.1 (by omega)
  · intro h; rw [h]
theorem u8_beq93 {a c : UInt8} (h : (a.toNat : Int) = 93) : ((93 : Int) == (c.toNat : Int)) = (a == c) := by rw [← h, u8_beq]
/-- Does a class begin with a sign that turns it? -/
def NegP (P : B) (i : Nat) (neg : Bool) : Prop := (neg = true ∧ ∃ a, P[i]? = some a ∧ (a = 33 ∨ a = 94)) ∨ (neg = false ∧ (P.length ≤ i ∨ ∃ a, P[i]? = some a ∧ ¬ (a = 33 ∨ a = 94)))

set_option maxHeartbeats 1000000 in
set_option maxRecDepth 100000 in
theorem class_any (P : B) (i : Nat) (c : UInt8) (w : World) (hP : P.length ≤ 20000) (hi : i < P.length) :
    Calls Tryz.prog 27 #[.string (st P), .int .i64 i, .int .u8 (c.toNat : Int)] w fun e w' => e = .returned (.tuple #[.int .i64 (classV P (classL (P.drop (i + 1)) c)).1, .bool (classV P (classL (P.drop (i + 1)) c)).2]) ∧ w.grownBy w' none := by
  obtain ⟨S, hS⟩ : ∃ S, S = st P := ⟨_, rfl⟩
  obtain ⟨len, hlen⟩ : ∃ len, len = P.length := ⟨_, rfl⟩
  have hZ : S.size = len := by rw [hS, st_size, hlen]
  rw [← hlen] at hP hi
  rw [← hS]
  have hwi : IntKind.i64.wrap ((i : Int) + 1) = ((i + 1 : Nat) : Int) := by rw [IntKind.wrap_i64]; omega
  obtain ⟨k1, hk1⟩ : ∃ k1, k1 = i + 1 := ⟨_, rfl⟩
  have hk1l : k1 ≤ len := by omega
  rw [← hk1] at hwi ⊢
  replace hS := Lib.hid hS; replace hlen := Lib.hid hlen; replace hk1 := Lib.hid hk1
  have c255 : (c.toNat : Int) ≤ 255 := by have := c.toNat_lt; omega
  have c0 : (0 : Int) ≤ (c.toNat : Int) := by omega
  go_enter Tryz.func27, Tryz.ntmps27
  go_upto_region 2 with fail
  go_cut [9] (fun nv wx => ∃ neg : Bool, nv = .bool neg ∧ wx = w ∧ Hid (NegP P k1 neg))
  case first =>
    by_cases hlt : k1 < len
    · obtain ⟨a, ha⟩ : ∃ a, P[k1]? = some a := ⟨P[k1]'(by rw [← hlen.out]; exact hlt), List.getElem?_eq_getElem _⟩
      have hg := get_at ha hS.out
      by_cases h1 : a = 33
      · have e1 : (a.toNat : Int) = 33 := u8_eq (n := 33) (by omega) h1
        have hN : NegP P k1 true := .inl ⟨rfl, a, ha, .inl h1⟩
        replace hN := Lib.hid hN; replace ha := Lib.hid ha; replace h1 := Lib.hid h1
        go_wp2_with fail
        go_meet
        exact ⟨true, rfl, rfl, hN⟩
      · have e1 : ¬ ((a.toNat : Int) = 33) := u8_ne (n := 33) (by omega) h1
        by_cases h2 : a = 94
        · have e2 : (a.toNat : Int) = 94 := u8_eq (n := 94) (by omega) h2
          have hN : NegP P k1 true := .inl ⟨rfl, a, ha, .inr h2⟩
          replace hN := Lib.hid hN; replace ha := Lib.hid ha; replace h1 := Lib.hid h1; replace h2 := Lib.hid h2
          go_wp2_with fail
          go_meet
          exact ⟨true, rfl, rfl, hN⟩
        · have e2 : ¬ ((a.toNat : Int) = 94) := u8_ne (n := 94) (by omega) h2
          have hN : NegP P k1 false := .inr ⟨rfl, .inr ⟨a, ha, by rintro (h | h); exact h1 h; exact h2 h⟩⟩
          replace hN := Lib.hid hN; replace ha := Lib.hid ha; replace h1 := Lib.hid h1; replace h2 := Lib.hid h2
          go_wp2_with fail
          go_meet
          exact ⟨false, by first | rfl | simp [e1, e2], rfl, hN⟩
    · have hN : NegP P k1 false := .inr ⟨rfl, .inl (by rw [← hlen.out]; omega)⟩
      have hlt2 : ¬ ((k1 : Int) < (len : Int)) := by omega
      replace hN := Lib.hid hN
      go_wp2_with fail
      go_meet
      exact ⟨false, rfl, rfl, hN⟩
  case rest =>
    obtain ⟨neg, rfl, rfl, hN⟩ := hcut
    go_upto_if 30 with fail
    go_cut [8] (fun kv wx => ∃ k0 : Nat, kv = .int .i64 k0 ∧ wx = wc ∧ Hid (k0 ≤ len ∧ classL (P.drop k1) c = (classI c true (P.drop k0) false).map fun p => (p.1 != neg, p.2)))
    case first =>
      cases neg with
      | true =>
        have hR : k1 + 1 ≤ len ∧ classL (P.drop k1) c = (classI c true (P.drop (k1 + 1)) false).map fun p => (p.1 != true, p.2) := by
          rcases hN.out with ⟨_, a, h1, h2⟩ | ⟨h, _⟩
          · exact ⟨by rw [hlen.out]; exact (List.getElem?_eq_some_iff.1 h1).1, classL_neg h1 h2⟩
          · cases h
        have hwk : IntKind.i64.wrap ((k1 : Int) + 1) = ((k1 + 1 : Nat) : Int) := by rw [IntKind.wrap_i64]; omega
        replace hR := Lib.hid hR
        go_wp2_with fail
        go_meet
        exact ⟨k1 + 1, by first | rfl | rw [hwk], rfl, hR⟩
      | false =>
        have hR : k1 ≤ len ∧ classL (P.drop k1) c = (classI c true (P.drop k1) false).map fun p => (p.1 != false, p.2) := by
          rcases hN.out with ⟨h, _⟩ | ⟨_, h⟩
          · cases h
          · exact ⟨hk1l, classL_pos h⟩
        replace hR := Lib.hid hR
        go_wp2_with fail
        go_meet
        exact ⟨k1, rfl, rfl, hR⟩
    case rest =>
      obtain ⟨k0, rfl, rfl, hR⟩ := hcut
      have hk0 := hR.out.1
      have hwk : ∀ (k d : Nat), k ≤ len → d ≤ 3 → IntKind.i64.wrap ((k : Int) + (d : Int)) = ((k + d : Nat) : Int) := fun k d h1 h2 => by rw [IntKind.wrap_i64]; omega
      replace hR := Lib.hid hR; replace hwk := Lib.hid hwk; replace hN := Lib.hid hN
      go_wp2_with fail
      go_loopw [8, 11] (fun kv sv wr => ∃ (k : Nat) (is : Bool), kv = .int .i64 k ∧ sv = .bool is ∧ wr = wc ∧ k0 ≤ k ∧ k ≤ len ∧ Hid (classI c true (P.drop k0) false = classI c (decide (k = k0)) (P.drop k) is)) (fun kv _ _ => 20010 - (intOf kv).toNat)
      case atStart => exact ⟨k0, false, rfl, rfl, rfl, Nat.le_refl _, hk0, Lib.hid (by simp)⟩
      case round =>
        obtain ⟨k, is, rfl, rfl, rfl, hk, hkl, hI⟩ := hrel
        have hwk1 := hwk.out k 1 hkl (by omega); have hwk2 := hwk.out k 2 hkl (by omega); have hwk3 := hwk.out k 3 hkl (by omega)
        replace hwk1 : IntKind.i64.wrap ((k : Int) + 1) = ((k + 1 : Nat) : Int) := hwk1
        replace hwk2 : IntKind.i64.wrap ((k : Int) + 2) = ((k + 2 : Nat) : Int) := hwk2
        replace hwk3 : IntKind.i64.wrap ((k : Int) + 3) = ((k + 3 : Nat) : Int) := hwk3
        by_cases hlt : k < len
        · obtain ⟨a, ha⟩ : ∃ a, P[k]? = some a := ⟨P[k]'(by rw [← hlen.out]; exact hlt), List.getElem?_eq_getElem _⟩
          have hg := get_at ha hS.out
          have hlt2 : (k : Int) < (len : Int) := by omega
          by_cases hend : a = 93 ∧ k ≠ k0
          · have e1 : (a.toNat : Int) = 93 := u8_eq (n := 93) (by omega) hend.1
            have e2 : ¬ ((k : Int) = (k0 : Int)) := by have := hend.2; omega
            have hres : classV P (classL (P.drop k1) c) = (k + 1, is != neg) := by
              rw [hR.out.2, hI.out, cls_end ha hend.1 (by simp [hend.2])]
              have h9 := hlen.out
              simp [classV]
              omega
            have hge : ¬ ((len : Int) ≤ (k : Int)) := by omega
            replace hres := Lib.hid hres; replace hI := Lib.hid hI; replace ha := Lib.hid ha; replace hend := Lib.hid hend
            go_wp2_with fail
            go_ret2
            exact ⟨by rw [hres.out]; rfl, World.grownBy.refl _ _⟩
          · -- a part of the class
            have hn : ¬ (a = 93 ∧ decide (k = k0) = false) := by rintro ⟨h1, h2⟩; exact hend ⟨h1, by simpa using h2⟩
            have hcond : ((a.toNat : Int) = 93 ∧ k = k0) ∨ ¬ ((a.toNat : Int) = 93) := by
              by_cases h93 : a = 93
              · exact .inl ⟨u8_eq (n := 93) (by omega) h93, by by_cases h : k = k0; exact h; exact absurd ⟨h93, h⟩ hend⟩
              · exact .inr (u8_ne (n := 93) (by omega) h93)
            have hkk : decide (k + 1 = k0) = false ∧ decide (k + 3 = k0) = false := by constructor <;> (simp only [decide_eq_false_iff_not]; omega)
            have hc3 : (∃ e1 e2, P[k + 1]? = some e1 ∧ P[k + 2]? = some e2 ∧ e1 = 45 ∧ e2 ≠ 93) ∨ (len ≤ k + 2 ∧ (P.length ≤ k + 2 ∨ (∃ e, P[k + 1]? = some e ∧ e ≠ 45) ∨ P[k + 2]? = some 93)) ∨
                (k + 2 < len ∧ ∃ e1 e2, P[k + 1]? = some e1 ∧ P[k + 2]? = some e2 ∧ (e1 ≠ 45 ∨ (e1 = 45 ∧ e2 = 93)) ∧ (P.length ≤ k + 2 ∨ (∃ e, P[k + 1]? = some e ∧ e ≠ 45) ∨ P[k + 2]? = some 93)) := by
              by_cases h2 : k + 2 < len
              · obtain ⟨e1, h1e⟩ : ∃ e, P[k + 1]? = some e := ⟨P[k + 1]'(by rw [← hlen.out]; omega), List.getElem?_eq_getElem _⟩
                obtain ⟨e2, h2e⟩ : ∃ e, P[k + 2]? = some e := ⟨P[k + 2]'(by rw [← hlen.out]; omega), List.getElem?_eq_getElem _⟩
                by_cases q1 : e1 = 45
                · by_cases q2 : e2 = 93
                  · exact .inr (.inr ⟨h2, e1, e2, h1e, h2e, .inr ⟨q1, q2⟩, .inr (.inr (by rw [h2e, q2]))⟩)
                  · exact .inl ⟨e1, e2, h1e, h2e, q1, q2⟩
                · exact .inr (.inr ⟨h2, e1, e2, h1e, h2e, .inl q1, .inr (.inl ⟨e1, h1e, q1⟩)⟩)
              · exact .inr (.inl ⟨by omega, .inl (by rw [← hlen.out]; omega)⟩)
            replace hend := Lib.hid hend
            have hcond2 : ∀ (G : Prop), (((a.toNat : Int) = 93 ∧ k = k0) → G) → (¬ ((a.toNat : Int) = 93) → G) → G := fun G h1 h2 => hcond.elim h1 h2
            clear hcond
            rcases hc3 with ⟨e1, e2, h1e, h2e, q1, q2⟩ | hone
            · have hl2 : k + 2 < len := by rw [hlen.out]; exact (List.getElem?_eq_some_iff.1 h2e).1
              have hl2i : (k : Int) + 2 < (len : Int) := by omega
              have hg1 := get_at h1e hS.out
              have hg2 := get_at h2e hS.out
              have he1 : (e1.toNat : Int) = 45 := u8_eq (n := 45) (by omega) q1
              have he2 : ¬ ((e2.toNat : Int) = 93) := u8_ne (n := 93) (by omega) q2
              have hSR : classI c true (P.drop k0) false = classI c (decide (k + 3 = k0)) (P.drop (k + 3)) (is || (decide (a.toNat ≤ c.toNat) && decide (c.toNat ≤ e2.toNat))) := (hI.out.trans (cls_range (c := c) (is := is) ha hn h1e h2e q1 q2)).trans (by rw [hkk.2])
              replace hSR := Lib.hid hSR; replace hI := Lib.hid hI; replace ha := Lib.hid ha; replace h1e := Lib.hid h1e; replace h2e := Lib.hid h2e; replace q1 := Lib.hid q1; replace q2 := Lib.hid q2; replace hkk := Lib.hid hkk; replace hn := Lib.hid hn; replace hwk1 := Lib.hid hwk1
              cases is with
              | true =>
                refine hcond2 _ (fun hq => ?_) (fun hq => ?_)
                · obtain ⟨hq1, hq2⟩ := hq
                  subst hq2
                  clear hcond2
                  go_wp2_with fail
                  exact ⟨⟨k + 3, _, by first | rfl | rw [hwk3], rfl, by first | trivial | rfl, by omega, by omega, Lib.hid (hSR.out.trans (by simp []))⟩, by simp [intOf]; omega⟩
                · clear hcond2
                  go_wp2_with fail
                  exact ⟨⟨k + 3, _, by first | rfl | rw [hwk3], rfl, by first | trivial | rfl, by omega, by omega, Lib.hid (hSR.out.trans (by simp []))⟩, by simp [intOf]; omega⟩
              | false =>
                refine hcond2 _ (fun hq => ?_) (fun hq => ?_)
                · obtain ⟨hq1, hq2⟩ := hq
                  subst hq2
                  clear hcond2
                  by_cases hac : (a.toNat : Int) ≤ (c.toNat : Int)
                  · have hac2 : a.toNat ≤ c.toNat := by omega
                    go_wp2_with fail
                    exact ⟨⟨k + 3, _, by first | rfl | rw [hwk3], rfl, by first | trivial | rfl, by omega, by omega, Lib.hid (hSR.out.trans (by simp [hac2]))⟩, by simp [intOf]; omega⟩
                  · have hac2 : ¬ a.toNat ≤ c.toNat := by omega
                    go_wp2_with fail
                    exact ⟨⟨k + 3, _, by first | rfl | rw [hwk3], rfl, by first | trivial | rfl, by omega, by omega, Lib.hid (hSR.out.trans (by simp [hac2]))⟩, by simp [intOf]; omega⟩
                · clear hcond2
                  by_cases hac : (a.toNat : Int) ≤ (c.toNat : Int)
                  · have hac2 : a.toNat ≤ c.toNat := by omega
                    go_wp2_with fail
                    exact ⟨⟨k + 3, _, by first | rfl | rw [hwk3], rfl, by first | trivial | rfl, by omega, by omega, Lib.hid (hSR.out.trans (by simp [hac2]))⟩, by simp [intOf]; omega⟩
                  · have hac2 : ¬ a.toNat ≤ c.toNat := by omega
                    go_wp2_with fail
                    exact ⟨⟨k + 3, _, by first | rfl | rw [hwk3], rfl, by first | trivial | rfl, by omega, by omega, Lib.hid (hSR.out.trans (by simp [hac2]))⟩, by simp [intOf]; omega⟩
            · have hno : P.length ≤ k + 2 ∨ (∃ e, P[k + 1]? = some e ∧ e ≠ 45) ∨ P[k + 2]? = some 93 := by
                rcases hone with ⟨_, h⟩ | ⟨_, _, _, _, _, _, h⟩ <;> exact h
              have hSO : classI c true (P.drop k0) false = classI c (decide (k + 1 = k0)) (P.drop (k + 1)) (is || a == c) := (hI.out.trans (cls_one (c := c) (is := is) ha hn hno)).trans (by rw [hkk.1])
              replace hSO := Lib.hid hSO; replace hI := Lib.hid hI; replace ha := Lib.hid ha; replace hkk := Lib.hid hkk; replace hn := Lib.hid hn; replace hno := Lib.hid hno; replace hwk3 := Lib.hid hwk3
              rcases hone with ⟨hl, _⟩ | ⟨hl, e1, e2, h1e, h2e, hq0, _⟩
              · have hl2i : ¬ ((k : Int) + 2 < (len : Int)) := by omega
                cases is with
                | true =>
                  refine hcond2 _ (fun hq => ?_) (fun hq => ?_)
                  · obtain ⟨hq1, hq2⟩ := hq
                    subst hq2
                    clear hcond2
                    go_wp2_with fail
                    exact ⟨⟨k + 1, _, by first | rfl | rw [hwk1], rfl, by first | trivial | rfl, by omega, by omega, Lib.hid (hSO.out.trans (by first | (simp [u8_beq]; done) | (simp [u8_beq93 hq1]; done)))⟩, by simp [intOf]; omega⟩
                  · clear hcond2
                    go_wp2_with fail
                    exact ⟨⟨k + 1, _, by first | rfl | rw [hwk1], rfl, by first | trivial | rfl, by omega, by omega, Lib.hid (hSO.out.trans (by first | (simp [u8_beq]; done) | (simp [u8_beq93 hq1]; done)))⟩, by simp [intOf]; omega⟩
                | false =>
                  refine hcond2 _ (fun hq => ?_) (fun hq => ?_)
                  · obtain ⟨hq1, hq2⟩ := hq
                    subst hq2
                    clear hcond2
                    go_wp2_with fail
                    exact ⟨⟨k + 1, _, by first | rfl | rw [hwk1], rfl, by first | trivial | rfl, by omega, by omega, Lib.hid (hSO.out.trans (by first | (simp [u8_beq]; done) | (simp [u8_beq93 hq1]; done)))⟩, by simp [intOf]; omega⟩
                  · clear hcond2
                    go_wp2_with fail
                    exact ⟨⟨k + 1, _, by first | rfl | rw [hwk1], rfl, by first | trivial | rfl, by omega, by omega, Lib.hid (hSO.out.trans (by first | (simp [u8_beq]; done) | (simp [u8_beq93 hq1]; done)))⟩, by simp [intOf]; omega⟩
              · have hl2i : (k : Int) + 2 < (len : Int) := by omega
                have hg1 := get_at h1e hS.out
                have hg2 := get_at h2e hS.out
                replace h1e := Lib.hid h1e; replace h2e := Lib.hid h2e
                rcases hq0 with q1 | ⟨q1, q2⟩
                · have he1 : ¬ ((e1.toNat : Int) = 45) := u8_ne (n := 45) (by omega) q1
                  replace q1 := Lib.hid q1
                  cases is with
                  | true =>
                    refine hcond2 _ (fun hq => ?_) (fun hq => ?_)
                    · obtain ⟨hq1, hq2⟩ := hq
                      subst hq2
                      clear hcond2
                      go_wp2_with fail
                      exact ⟨⟨k + 1, _, by first | rfl | rw [hwk1], rfl, by first | trivial | rfl, by omega, by omega, Lib.hid (hSO.out.trans (by first | (simp [u8_beq]; done) | (simp [u8_beq93 hq1]; done)))⟩, by simp [intOf]; omega⟩
                    · clear hcond2
                      go_wp2_with fail
                      exact ⟨⟨k + 1, _, by first | rfl | rw [hwk1], rfl, by first | trivial | rfl, by omega, by omega, Lib.hid (hSO.out.trans (by first | (simp [u8_beq]; done) | (simp [u8_beq93 hq1]; done)))⟩, by simp [intOf]; omega⟩
                  | false =>
                    refine hcond2 _ (fun hq => ?_) (fun hq => ?_)
                    · obtain ⟨hq1, hq2⟩ := hq
                      subst hq2
                      clear hcond2
                      go_wp2_with fail
                      exact ⟨⟨k + 1, _, by first | rfl | rw [hwk1], rfl, by first | trivial | rfl, by omega, by omega, Lib.hid (hSO.out.trans (by first | (simp [u8_beq]; done) | (simp [u8_beq93 hq1]; done)))⟩, by simp [intOf]; omega⟩
                    · clear hcond2
                      go_wp2_with fail
                      exact ⟨⟨k + 1, _, by first | rfl | rw [hwk1], rfl, by first | trivial | rfl, by omega, by omega, Lib.hid (hSO.out.trans (by first | (simp [u8_beq]; done) | (simp [u8_beq93 hq1]; done)))⟩, by simp [intOf]; omega⟩
                · have he1 : (e1.toNat : Int) = 45 := u8_eq (n := 45) (by omega) q1
                  have he2 : (e2.toNat : Int) = 93 := u8_eq (n := 93) (by omega) q2
                  replace q1 := Lib.hid q1; replace q2 := Lib.hid q2
                  cases is with
                  | true =>
                    refine hcond2 _ (fun hq => ?_) (fun hq => ?_)
                    · obtain ⟨hq1, hq2⟩ := hq
                      subst hq2
                      clear hcond2
                      go_wp2_with fail
                      exact ⟨⟨k + 1, _, by first | rfl | rw [hwk1], rfl, by first | trivial | rfl, by omega, by omega, Lib.hid (hSO.out.trans (by first | (simp [u8_beq]; done) | (simp [u8_beq93 hq1]; done)))⟩, by simp [intOf]; omega⟩
                    · clear hcond2
                      go_wp2_with fail
                      exact ⟨⟨k + 1, _, by first | rfl | rw [hwk1], rfl, by first | trivial | rfl, by omega, by omega, Lib.hid (hSO.out.trans (by first | (simp [u8_beq]; done) | (simp [u8_beq93 hq1]; done)))⟩, by simp [intOf]; omega⟩
                  | false =>
                    refine hcond2 _ (fun hq => ?_) (fun hq => ?_)
                    · obtain ⟨hq1, hq2⟩ := hq
                      subst hq2
                      clear hcond2
                      go_wp2_with fail
                      exact ⟨⟨k + 1, _, by first | rfl | rw [hwk1], rfl, by first | trivial | rfl, by omega, by omega, Lib.hid (hSO.out.trans (by first | (simp [u8_beq]; done) | (simp [u8_beq93 hq1]; done)))⟩, by simp [intOf]; omega⟩
                    · clear hcond2
                      go_wp2_with fail
                      exact ⟨⟨k + 1, _, by first | rfl | rw [hwk1], rfl, by first | trivial | rfl, by omega, by omega, Lib.hid (hSO.out.trans (by first | (simp [u8_beq]; done) | (simp [u8_beq93 hq1]; done)))⟩, by simp [intOf]; omega⟩
        · have hkl2 : k = len := by omega
          have hres : classV P (classL (P.drop k1) c) = (0, false) := by
            rw [hR.out.2, hI.out, cls_out (by rw [← hlen.out]; omega)]
            rfl
          replace hres := Lib.hid hres; replace hI := Lib.hid hI
          subst hkl2
          go_wp2_with fail
          go_ret2
          exact ⟨by rw [hres.out]; rfl, World.grownBy.refl _ _⟩
end Go.Proofs.YtfhdfhlabkeipaaGreatDoor
