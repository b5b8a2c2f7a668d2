/- Format: made: what an expression is, out of its kinds. -/
import Derived.Test.YtfhdfhlabkeipaaGreatDoorC16
import Derived.BigQuiet
namespace Go.Proofs.YtfhdfhlabkeipaaGreatDoor
open Go.RowKit
set_option linter.unusedSimpArgs false
set_option linter.unusedVariables false

def ModOk (base mb deep : Nat) (scs : List (Option Sc)) : Prop :=
  ∀ (c : B) (n ab cap : Nat) (W : World), c.length ≤ 8192 → Mk base mb W ab cap scs deep n → base ≤ W.heap.size → modL scs c n ≠ .no → Calls Tryz.prog 60 #[.pointer (some ⟨mb, 0, none⟩), .string (st c)] W (ResP base mb scs deep ab W (modL scs c n))
def LoopOk (base mb deep : Nat) (scs : List (Option Sc)) (tx : Tx) : Prop :=
  ∀ (k : UInt8) (c : B) (n ab cap : Nat) (W : World), c.length ≤ 8192 → Mk base mb W ab cap scs deep n → base ≤ W.heap.size → loopL tx scs k c n ≠ .no → Calls Tryz.prog 58 #[.pointer (some ⟨mb, 0, none⟩), .int .u8 (k.toNat : Int), .string (st c)] W (ResP base mb scs deep ab W (loopL tx scs k c n))
def ReckOk (base mb deep : Nat) (scs : List (Option Sc)) (tx : Tx) : Prop :=
  ∀ (op c : B) (n ab cap : Nat) (W : World), op.length ≤ 8192 → c.length ≤ 8192 → Mk base mb W ab cap scs deep n → base ≤ W.heap.size → reckL tx scs op c n ≠ .no → Calls Tryz.prog 59 #[.pointer (some ⟨mb, 0, none⟩), .string (st op), .string (st c)] W (ResP base mb scs deep ab W (reckL tx scs op c n))
def TxLen (tx : Tx) : Prop := ∀ scs s n v n', tx scs s n = .ok v n' → v.length ≤ 8192
theorem madeL_q (tx : Tx) (scs : List (Option Sc)) (c : B) (n : Nat) (h : hasP c [63] = true) : madeL tx scs c n = eitherL tx scs (c.drop 1) n := by
  cases c with
  | nil => simp [hasP] at h
  | cons a r =>
    have : a = 63 := by simpa [hasP] using h
    subst this
    rfl
theorem madeL_n (tx : Tx) (scs : List (Option Sc)) (c : B) (n : Nat) (h : hasP c [63] = false) : madeL tx scs c n = (match outL 58 c 0 0 with
    | none => match valueL scs c with
      | none => .no
      | some v => .ok (v.getD []) n
    | some k => if isCmp (c.take k) = true then twoL (tx scs) (c.drop (k + 1)) n fun x y n2 => .ok (flagL (cmpL (c.take k) x y)) n2
      else if c.take k = [83] ∨ c.take k = [87] ∨ c.take k = [80] then loopL tx scs ((c.take k).headD 0) (c.drop (k + 1)) n
      else if (c.take k).take 2 = [101, 124] then reckL tx scs ((c.take k).drop 2) (c.drop (k + 1)) n
      else modL scs c n) := by
  unfold madeL
  split
  · rename_i r
    simp [hasP] at h
  · rfl
theorem flag_len (b : Bool) : (flagL b).length ≤ 8192 := by cases b <;> decide
theorem ResP.end_ {base mb deep ab : Nat} {scs : List (Option Sc)} {w : World} {r : Rs} {e : Ending} {w' : World} (h : ResP base mb scs deep ab w r e w') (hno : r ≠ .no) : (∃ x, e = .returned (.string (st x)) ∧ ResP base mb scs deep ab w r (.returned (.string (st x))) w') ∨ (∃ k, e = Pan k ∧ ResP base mb scs deep ab w r (Pan k) w') := by
  cases r with
  | no => exact absurd rfl hno
  | ok x n =>
    obtain ⟨rfl, h2⟩ := h
    exact .inl ⟨x, rfl, rfl, h2⟩
  | bad k =>
    obtain ⟨rfl, h2⟩ := h
    exact .inr ⟨k, rfl, rfl, h2⟩

theorem ResP.drewN {base mb deep ab m : Nat} {scs : List (Option Sc)} {w : World} {r : Rs} {e : Ending} {w' : World} (h : ResP base mb scs deep ab (w.drewN m) r e w') : ResP base mb scs deep ab w r e w' := by
  have g : Kp mb ab w (w.drewN m) := Kp.refl.grow0 (g_drewN _ _)
  cases r with
  | no => trivial
  | ok x n =>
    obtain ⟨rfl, h1, ab', cap', h2, h3⟩ := h
    exact ⟨rfl, g.trans h1 (.inl rfl), ab', cap', h2, h3⟩
  | bad k =>
    obtain ⟨rfl, h1⟩ := h
    exact ⟨rfl, g.trans h1 (.inl rfl)⟩
theorem twoR_len {tx : Tx} (hT : TxLen tx) {scs : List (Option Sc)} {rest : B} {n n2 : Nat} {x y : B} (h : twoR (tx scs) rest n = .ok x y n2) : x.length ≤ 8192 ∧ y.length ≤ 8192 := by
  unfold twoR twoP at h
  split at h
  · rename_i a b _
    cases ha : tx scs a n with
    | no => rw [ha] at h; cases h
    | bad e => rw [ha] at h; cases h
    | ok u n1 =>
      rw [ha] at h
      dsimp only at h
      cases hb : tx scs b n1 with
      | no => rw [hb] at h; cases h
      | bad e => rw [hb] at h; cases h
      | ok v n3 =>
        rw [hb] at h
        dsimp only at h
        injection h with h1 h2 h3
        subst h1; subst h2
        exact ⟨hT _ _ _ _ _ ha, hT _ _ _ _ _ hb⟩
  · cases h

set_option maxRecDepth 100000 in
set_option maxHeartbeats 4000000 in
theorem made_any (base mb deep L : Nat) (scs : List (Option Sc)) (tx : Tx) (hT : TxOk base mb deep L tx) (hTl : TxLen tx) (hl : scs.length ≤ L) (hL : L ≤ 100) (HM : ModOk base mb deep scs) (HL : LoopOk base mb deep scs tx) (HR : ReckOk base mb deep scs tx)
    (s : B) (n0 ab0 cap0 : Nat) (w : World) (hs : s.length ≤ 8192)
    (hM : Mk base mb w ab0 cap0 scs deep n0) (hB : base ≤ w.heap.size) (hno : madeL tx scs s n0 ≠ .no) :
    Calls Tryz.prog 47 #[.pointer (some ⟨mb, 0, none⟩), .string (st s)] w (ResP base mb scs deep ab0 w (madeL tx scs s n0)) := by
  have CC := cutPrefix_any s [63] w (by omega) (by decide)
  rw [show st [63] = ⟨#[63]⟩ from rfl] at CC
  unfold cutV at CC
  obtain ⟨R, hR⟩ : ∃ R, R = madeL tx scs s n0 := ⟨_, rfl⟩
  rw [← hR] at hno ⊢
  cases hq : hasP s [63] with
  | true =>
    rw [if_pos hq] at CC
    rw [madeL_q tx scs s n0 hq] at hR
    have CE := either_any base mb deep L scs tx hT hl hL (s.drop 1) n0 ab0 cap0 w (by rw [List.length_drop]; omega) hM hB (by rw [← hR]; exact hno)
    rw [← hR] at CE
    have CE2 := CE.mono fun e w' h => h.end_ hno
    obtain ⟨S, hS⟩ : ∃ S, S = st s := ⟨_, rfl⟩
    obtain ⟨S1, hS1⟩ : ∃ S, S = st (s.drop 1) := ⟨_, rfl⟩
    rw [← hS] at CC ⊢
    rw [← hS1] at CE2
    replace CC : Hid (Calls Tryz.prog 52 #[.string S, .string ⟨#[63]⟩] w fun e w' => e = .returned (.tuple #[.string S1, .bool true]) ∧ w' = w) := Lib.hid (by rw [hS1]; exact CC)
    replace CE2 := Lib.hid CE2; replace CE := Lib.hid CE; replace hR := Lib.hid hR; replace hno := Lib.hid hno; replace hT := Lib.hid hT; replace hM := Lib.hid hM; replace hB := Lib.hid hB; replace hS := Lib.hid hS; replace hS1 := Lib.hid hS1; replace hq := Lib.hid hq
    go_enter Tryz.func47, Tryz.ntmps47
    go_wp2_with fail
    refine CC.out.mono ?_
    rintro e w1 ⟨rfl, rfl⟩
    go_wp2_with fail
    refine CE2.out.mono ?_
    rintro e w2 (⟨x, rfl, hres⟩ | ⟨k, rfl, hres⟩)
    · replace hres := Lib.hid hres
      go_wp2_with fail
      go_ret
      exact hres.out
    · replace hres := Lib.hid hres
      unfold Pan
      go_wp2_with fail
      exact ⟨rfl, hres.out⟩
  | false =>
    rw [if_neg (by rw [hq]; simp)] at CC
    rw [madeL_n tx scs s n0 hq] at hR
    have CO := outside_any s 58 w (by omega) (.inr rfl)
    obtain ⟨S, hS⟩ : ∃ S, S = st s := ⟨_, rfl⟩
    rw [← hS] at CC CO ⊢
    replace CC := Lib.hid CC; replace hq := Lib.hid hq
    cases ho : outL 58 s 0 0 with
    | none =>
      rw [ho] at hR CO
      dsimp only at hR
      replace CO : Calls Tryz.prog 54 #[.string S, .int .u8 58] w fun e w' => e = .returned (.int .i64 (-1)) ∧ w' = w := CO
      cases hv : valueL scs s with
      | none => rw [hv] at hR; exact absurd hR hno
      | some v =>
        rw [hv] at hR
        dsimp only at hR
        have CV := value_any base mb ab0 cap0 deep n0 scs s w hM hB (by omega) v hv
        unfold inV at CV
        obtain ⟨x, hx⟩ : ∃ x, x = v.getD [] := ⟨_, rfl⟩
        obtain ⟨bb, hbb⟩ : ∃ b, b = v.isSome := ⟨_, rfl⟩
        rw [← hx] at hR CV
        rw [← hbb] at CV
        rw [← hS] at CV
        have hfin : ∀ w', w.grownBy w' none → ResP base mb scs deep ab0 w R (.returned (.string (st x))) w' := fun w' g => by
          rw [hR]
          exact ⟨rfl, Kp.refl.grow0 g, ab0, cap0, hM.grown hB g, .inl rfl⟩
        replace CV := Lib.hid CV; replace hR := Lib.hid hR; replace hno := Lib.hid hno; replace hT := Lib.hid hT; replace hM := Lib.hid hM; replace hB := Lib.hid hB; replace hS := Lib.hid hS; replace CO := Lib.hid CO; replace ho := Lib.hid ho; replace hv := Lib.hid hv; replace hfin := Lib.hid hfin; replace hx := Lib.hid hx; replace hbb := Lib.hid hbb
        go_enter Tryz.func47, Tryz.ntmps47
        go_wp2_with fail
        refine CC.out.mono ?_
        rintro e w1 ⟨rfl, rfl⟩
        go_wp2_with fail
        refine CO.out.mono ?_
        rintro e w2 ⟨rfl, rfl⟩
        go_wp2_with fail
        refine CV.out.mono ?_
        rintro e w3 ⟨rfl, G3⟩
        replace G3 := Lib.hid G3
        go_wp2_with fail
        go_ret
        exact hfin.out _ G3.out
    | some k =>
      rw [ho] at hR CO
      dsimp only at hR
      replace CO : Calls Tryz.prog 54 #[.string S, .int .u8 58] w fun e w' => e = .returned (.int .i64 (k : Int)) ∧ w' = w := CO
      obtain ⟨hkl, _⟩ := outL_lt ho
      obtain ⟨len, hlen⟩ : ∃ len, len = s.length := ⟨_, rfl⟩
      have hZ : S.size = len := by rw [hS, st_size, hlen]
      rw [← hlen] at hkl hs
      obtain ⟨head, hhead⟩ : ∃ h, h = s.take k := ⟨_, rfl⟩
      obtain ⟨rest, hrest⟩ : ∃ h, h = s.drop (k + 1) := ⟨_, rfl⟩
      rw [← hhead, ← hrest] at hR
      have hx1 : S.extract 0 k = st head := by rw [hS, st_take, hhead]
      have hx2 : S.extract (k + 1) len = st rest := by rw [hS, st_drop _ _ _ hlen, hrest]
      have hrl : rest.length ≤ 8192 := by rw [hrest, List.length_drop]; omega
      have hhl : head.length ≤ 8192 := by rw [hhead, List.length_take]; omega
      obtain ⟨SR, hSR⟩ : ∃ S, S = st rest := ⟨_, rfl⟩
      rw [← hSR] at hx2
      have hwk : IntKind.i64.wrap ((k : Int) + 1) = ((k + 1 : Nat) : Int) := by rw [IntKind.wrap_i64]; omega
      have hki : (k : Int) + 1 ≤ (len : Int) := by omega
      have hki2 : (k : Int) ≤ (len : Int) := by omega
      replace CO := Lib.hid CO; replace ho := Lib.hid ho; replace hhead := Lib.hid hhead; replace hrest := Lib.hid hrest; replace hSR := Lib.hid hSR; replace hS := Lib.hid hS; replace hlen := Lib.hid hlen; replace hT := Lib.hid hT; replace hM := Lib.hid hM; replace hB := Lib.hid hB; replace hrl := Lib.hid hrl; replace hhl := Lib.hid hhl; replace hno := Lib.hid hno; replace hTl := Lib.hid hTl; replace HM := Lib.hid HM; replace HL := Lib.hid HL; replace HR := Lib.hid HR; replace hl := Lib.hid hl
      cases hc : isCmp head with
      | true =>
        rw [if_pos hc, twoL_R] at hR
        have hno2 : twoR (tx scs) rest n0 ≠ .no := fun h => hno.out (by rw [hR, h])
        have C2 := fun m => two_any base mb deep L scs tx hT.out hl.out rest n0 ab0 cap0 (w.drewN m) hrl.out (hM.out.grown hB.out (g_drewN w m)) hB.out hno2
        rw [← hSR.out] at C2
        cases ht2 : twoR (tx scs) rest n0 with
        | no => exact absurd ht2 hno2
        | bad e0 =>
          rw [ht2] at C2 hR
          replace hR : R = .bad e0 := hR
          replace C2 : ∀ m, Calls Tryz.prog 55 #[.pointer (some ⟨mb, 0, none⟩), .string SR] (w.drewN m) fun e w' => e = Pan e0 ∧ Kp mb ab0 (w.drewN m) w' := C2
          unfold Pan at C2
          replace C2 := Lib.hid C2; replace hR := Lib.hid hR; replace hno2 := Lib.hid hno2; replace ht2 := Lib.hid ht2
          have hcs := isCmp_cases hc
          replace hc := Lib.hid hc
          rcases hcs with rfl | rfl | rfl | rfl | rfl | rfl | rfl | rfl | rfl
          · rw [show st [61, 61] = ⟨#[61, 61]⟩ from rfl] at hx1
            go_enter Tryz.func47, Tryz.ntmps47
            go_wp2_with fail
            refine CC.out.mono ?_
            rintro e w1 ⟨rfl, rfl⟩
            go_wp2_with fail
            refine CO.out.mono ?_
            rintro e w2 ⟨rfl, rfl⟩
            go_upto_region 8 with fail
            go_quiet (fail)
            go_wp2_with fail
            refine (C2.out _).mono ?_
            rintro e w3 ⟨rfl, hK3⟩
            replace hK3 := Lib.hid hK3
            go_wp2_with fail
            refine ⟨rfl, ?_⟩
            rw [hR.out]
            exact ⟨rfl, (Kp.refl.grow0 (g_drewN _ _)).trans hK3.out (.inl rfl)⟩
          · rw [show st [33, 61] = ⟨#[33, 61]⟩ from rfl] at hx1
            go_enter Tryz.func47, Tryz.ntmps47
            go_wp2_with fail
            refine CC.out.mono ?_
            rintro e w1 ⟨rfl, rfl⟩
            go_wp2_with fail
            refine CO.out.mono ?_
            rintro e w2 ⟨rfl, rfl⟩
            go_upto_region 8 with fail
            go_quiet (fail)
            go_wp2_with fail
            refine (C2.out _).mono ?_
            rintro e w3 ⟨rfl, hK3⟩
            replace hK3 := Lib.hid hK3
            go_wp2_with fail
            refine ⟨rfl, ?_⟩
            rw [hR.out]
            exact ⟨rfl, (Kp.refl.grow0 (g_drewN _ _)).trans hK3.out (.inl rfl)⟩
          · rw [show st [60] = ⟨#[60]⟩ from rfl] at hx1
            go_enter Tryz.func47, Tryz.ntmps47
            go_wp2_with fail
            refine CC.out.mono ?_
            rintro e w1 ⟨rfl, rfl⟩
            go_wp2_with fail
            refine CO.out.mono ?_
            rintro e w2 ⟨rfl, rfl⟩
            go_upto_region 8 with fail
            go_quiet (fail)
            go_wp2_with fail
            refine (C2.out _).mono ?_
            rintro e w3 ⟨rfl, hK3⟩
            replace hK3 := Lib.hid hK3
            go_wp2_with fail
            refine ⟨rfl, ?_⟩
            rw [hR.out]
            exact ⟨rfl, (Kp.refl.grow0 (g_drewN _ _)).trans hK3.out (.inl rfl)⟩
          · rw [show st [62] = ⟨#[62]⟩ from rfl] at hx1
            go_enter Tryz.func47, Tryz.ntmps47
            go_wp2_with fail
            refine CC.out.mono ?_
            rintro e w1 ⟨rfl, rfl⟩
            go_wp2_with fail
            refine CO.out.mono ?_
            rintro e w2 ⟨rfl, rfl⟩
            go_upto_region 8 with fail
            go_quiet (fail)
            go_wp2_with fail
            refine (C2.out _).mono ?_
            rintro e w3 ⟨rfl, hK3⟩
            replace hK3 := Lib.hid hK3
            go_wp2_with fail
            refine ⟨rfl, ?_⟩
            rw [hR.out]
            exact ⟨rfl, (Kp.refl.grow0 (g_drewN _ _)).trans hK3.out (.inl rfl)⟩
          · rw [show st [60, 61] = ⟨#[60, 61]⟩ from rfl] at hx1
            go_enter Tryz.func47, Tryz.ntmps47
            go_wp2_with fail
            refine CC.out.mono ?_
            rintro e w1 ⟨rfl, rfl⟩
            go_wp2_with fail
            refine CO.out.mono ?_
            rintro e w2 ⟨rfl, rfl⟩
            go_upto_region 8 with fail
            go_quiet (fail)
            go_wp2_with fail
            refine (C2.out _).mono ?_
            rintro e w3 ⟨rfl, hK3⟩
            replace hK3 := Lib.hid hK3
            go_wp2_with fail
            refine ⟨rfl, ?_⟩
            rw [hR.out]
            exact ⟨rfl, (Kp.refl.grow0 (g_drewN _ _)).trans hK3.out (.inl rfl)⟩
          · rw [show st [62, 61] = ⟨#[62, 61]⟩ from rfl] at hx1
            go_enter Tryz.func47, Tryz.ntmps47
            go_wp2_with fail
            refine CC.out.mono ?_
            rintro e w1 ⟨rfl, rfl⟩
            go_wp2_with fail
            refine CO.out.mono ?_
            rintro e w2 ⟨rfl, rfl⟩
            go_upto_region 8 with fail
            go_quiet (fail)
            go_wp2_with fail
            refine (C2.out _).mono ?_
            rintro e w3 ⟨rfl, hK3⟩
            replace hK3 := Lib.hid hK3
            go_wp2_with fail
            refine ⟨rfl, ?_⟩
            rw [hR.out]
            exact ⟨rfl, (Kp.refl.grow0 (g_drewN _ _)).trans hK3.out (.inl rfl)⟩
          · rw [show st [124, 124] = ⟨#[124, 124]⟩ from rfl] at hx1
            go_enter Tryz.func47, Tryz.ntmps47
            go_wp2_with fail
            refine CC.out.mono ?_
            rintro e w1 ⟨rfl, rfl⟩
            go_wp2_with fail
            refine CO.out.mono ?_
            rintro e w2 ⟨rfl, rfl⟩
            go_upto_region 8 with fail
            go_quiet (fail)
            go_wp2_with fail
            refine (C2.out _).mono ?_
            rintro e w3 ⟨rfl, hK3⟩
            replace hK3 := Lib.hid hK3
            go_wp2_with fail
            refine ⟨rfl, ?_⟩
            rw [hR.out]
            exact ⟨rfl, (Kp.refl.grow0 (g_drewN _ _)).trans hK3.out (.inl rfl)⟩
          · rw [show st [38, 38] = ⟨#[38, 38]⟩ from rfl] at hx1
            go_enter Tryz.func47, Tryz.ntmps47
            go_wp2_with fail
            refine CC.out.mono ?_
            rintro e w1 ⟨rfl, rfl⟩
            go_wp2_with fail
            refine CO.out.mono ?_
            rintro e w2 ⟨rfl, rfl⟩
            go_upto_region 8 with fail
            go_quiet (fail)
            go_wp2_with fail
            refine (C2.out _).mono ?_
            rintro e w3 ⟨rfl, hK3⟩
            replace hK3 := Lib.hid hK3
            go_wp2_with fail
            refine ⟨rfl, ?_⟩
            rw [hR.out]
            exact ⟨rfl, (Kp.refl.grow0 (g_drewN _ _)).trans hK3.out (.inl rfl)⟩
          · rw [show st [109] = ⟨#[109]⟩ from rfl] at hx1
            go_enter Tryz.func47, Tryz.ntmps47
            go_wp2_with fail
            refine CC.out.mono ?_
            rintro e w1 ⟨rfl, rfl⟩
            go_wp2_with fail
            refine CO.out.mono ?_
            rintro e w2 ⟨rfl, rfl⟩
            go_upto_region 8 with fail
            go_quiet (fail)
            go_wp2_with fail
            refine (C2.out _).mono ?_
            rintro e w3 ⟨rfl, hK3⟩
            replace hK3 := Lib.hid hK3
            go_wp2_with fail
            refine ⟨rfl, ?_⟩
            rw [hR.out]
            exact ⟨rfl, (Kp.refl.grow0 (g_drewN _ _)).trans hK3.out (.inl rfl)⟩
        | ok x y n2 =>
          rw [ht2] at C2 hR
          dsimp only at hR
          replace C2 : ∀ m, Calls Tryz.prog 55 #[.pointer (some ⟨mb, 0, none⟩), .string SR] (w.drewN m) fun e w' => e = .returned (.tuple #[.string (st x), .string (st y)]) ∧ Kp mb ab0 (w.drewN m) w' ∧ ∃ ab' cap', Mk base mb w' ab' cap' scs deep n2 ∧ (ab' = ab0 ∨ (w.drewN m).heap.size ≤ ab') := C2
          have hxy := twoR_len hTl.out ht2
          have CCm := fun W => compared_any head x y W hc (by omega) (by omega)
          obtain ⟨r, hr⟩ : ∃ r, r = cmpL head x y := ⟨_, rfl⟩
          rw [← hr] at hR CCm
          have CF := fun W => flag_any r W
          obtain ⟨SX, hSX⟩ : ∃ S, S = st x := ⟨_, rfl⟩
          obtain ⟨SY, hSY⟩ : ∃ S, S = st y := ⟨_, rfl⟩
          rw [← hSX, ← hSY] at C2 CCm
          obtain ⟨SF, hSF⟩ : ∃ S, S = st (flagL r) := ⟨_, rfl⟩
          rw [← hSF] at CF
          have hcs := isCmp_cases hc
          replace C2 := Lib.hid C2; replace hR := Lib.hid hR; replace hno2 := Lib.hid hno2; replace ht2 := Lib.hid ht2; replace hxy := Lib.hid hxy; replace CCm := Lib.hid CCm; replace hr := Lib.hid hr; replace CF := Lib.hid CF; replace hSX := Lib.hid hSX; replace hSY := Lib.hid hSY; replace hSF := Lib.hid hSF; replace hc := Lib.hid hc
          rcases hcs with rfl | rfl | rfl | rfl | rfl | rfl | rfl | rfl | rfl
          · rw [show st [61, 61] = ⟨#[61, 61]⟩ from rfl] at hx1 CCm
            go_enter Tryz.func47, Tryz.ntmps47
            go_wp2_with fail
            refine CC.out.mono ?_
            rintro e w1 ⟨rfl, rfl⟩
            go_wp2_with fail
            refine CO.out.mono ?_
            rintro e w2 ⟨rfl, rfl⟩
            go_upto_region 8 with fail
            go_quiet (fail)
            go_wp2_with fail
            refine (C2.out _).mono ?_
            rintro e w3 ⟨rfl, hK3, ab3, cap3, hM3, hab3⟩
            replace hK3 := Lib.hid hK3; replace hM3 := Lib.hid hM3; replace hab3 := Lib.hid hab3
            go_wp2_with fail
            refine (CCm.out _).mono ?_
            rintro e w4 ⟨rfl, G4⟩
            replace G4 := Lib.hid G4
            go_wp2_with fail
            refine (CF.out _).mono ?_
            rintro e w5 ⟨rfl, rfl⟩
            go_wp2_with fail
            go_ret
            rw [hR.out]
            have hKK := ((Kp.refl (w := w2) (mb := mb) (ab := ab0)).grow0 (g_drewN _ _)).trans hK3.out (.inl rfl)
            exact ⟨by rw [hSF.out]; rfl, hKK.grow0 G4.out, ab3, cap3, hM3.out.grown (Nat.le_trans hB.out hKK.size) G4.out, hab3.out⟩
          · rw [show st [33, 61] = ⟨#[33, 61]⟩ from rfl] at hx1 CCm
            go_enter Tryz.func47, Tryz.ntmps47
            go_wp2_with fail
            refine CC.out.mono ?_
            rintro e w1 ⟨rfl, rfl⟩
            go_wp2_with fail
            refine CO.out.mono ?_
            rintro e w2 ⟨rfl, rfl⟩
            go_upto_region 8 with fail
            go_quiet (fail)
            go_wp2_with fail
            refine (C2.out _).mono ?_
            rintro e w3 ⟨rfl, hK3, ab3, cap3, hM3, hab3⟩
            replace hK3 := Lib.hid hK3; replace hM3 := Lib.hid hM3; replace hab3 := Lib.hid hab3
            go_wp2_with fail
            refine (CCm.out _).mono ?_
            rintro e w4 ⟨rfl, G4⟩
            replace G4 := Lib.hid G4
            go_wp2_with fail
            refine (CF.out _).mono ?_
            rintro e w5 ⟨rfl, rfl⟩
            go_wp2_with fail
            go_ret
            rw [hR.out]
            have hKK := ((Kp.refl (w := w2) (mb := mb) (ab := ab0)).grow0 (g_drewN _ _)).trans hK3.out (.inl rfl)
            exact ⟨by rw [hSF.out]; rfl, hKK.grow0 G4.out, ab3, cap3, hM3.out.grown (Nat.le_trans hB.out hKK.size) G4.out, hab3.out⟩
          · rw [show st [60] = ⟨#[60]⟩ from rfl] at hx1 CCm
            go_enter Tryz.func47, Tryz.ntmps47
            go_wp2_with fail
            refine CC.out.mono ?_
            rintro e w1 ⟨rfl, rfl⟩
            go_wp2_with fail
            refine CO.out.mono ?_
            rintro e w2 ⟨rfl, rfl⟩
            go_upto_region 8 with fail
            go_quiet (fail)
            go_wp2_with fail
            refine (C2.out _).mono ?_
            rintro e w3 ⟨rfl, hK3, ab3, cap3, hM3, hab3⟩
            replace hK3 := Lib.hid hK3; replace hM3 := Lib.hid hM3; replace hab3 := Lib.hid hab3
            go_wp2_with fail
            refine (CCm.out _).mono ?_
            rintro e w4 ⟨rfl, G4⟩
            replace G4 := Lib.hid G4
            go_wp2_with fail
            refine (CF.out _).mono ?_
            rintro e w5 ⟨rfl, rfl⟩
            go_wp2_with fail
            go_ret
            rw [hR.out]
            have hKK := ((Kp.refl (w := w2) (mb := mb) (ab := ab0)).grow0 (g_drewN _ _)).trans hK3.out (.inl rfl)
            exact ⟨by rw [hSF.out]; rfl, hKK.grow0 G4.out, ab3, cap3, hM3.out.grown (Nat.le_trans hB.out hKK.size) G4.out, hab3.out⟩
          · rw [show st [62] = ⟨#[62]⟩ from rfl] at hx1 CCm
            go_enter Tryz.func47, Tryz.ntmps47
            go_wp2_with fail
            refine CC.out.mono ?_
            rintro e w1 ⟨rfl, rfl⟩
            go_wp2_with fail
            refine CO.out.mono ?_
            rintro e w2 ⟨rfl, rfl⟩
            go_upto_region 8 with fail
            go_quiet (fail)
            go_wp2_with fail
            refine (C2.out _).mono ?_
            rintro e w3 ⟨rfl, hK3, ab3, cap3, hM3, hab3⟩
            replace hK3 := Lib.hid hK3; replace hM3 := Lib.hid hM3; replace hab3 := Lib.hid hab3
            go_wp2_with fail
            refine (CCm.out _).mono ?_
            rintro e w4 ⟨rfl, G4⟩
            replace G4 := Lib.hid G4
            go_wp2_with fail
            refine (CF.out _).mono ?_
            rintro e w5 ⟨rfl, rfl⟩
            go_wp2_with fail
            go_ret
            rw [hR.out]
            have hKK := ((Kp.refl (w := w2) (mb := mb) (ab := ab0)).grow0 (g_drewN _ _)).trans hK3.out (.inl rfl)
            exact ⟨by rw [hSF.out]; rfl, hKK.grow0 G4.out, ab3, cap3, hM3.out.grown (Nat.le_trans hB.out hKK.size) G4.out, hab3.out⟩
          · rw [show st [60, 61] = ⟨#[60, 61]⟩ from rfl] at hx1 CCm
            go_enter Tryz.func47, Tryz.ntmps47
            go_wp2_with fail
            refine CC.out.mono ?_
            rintro e w1 ⟨rfl, rfl⟩
            go_wp2_with fail
            refine CO.out.mono ?_
            rintro e w2 ⟨rfl, rfl⟩
            go_upto_region 8 with fail
            go_quiet (fail)
            go_wp2_with fail
            refine (C2.out _).mono ?_
            rintro e w3 ⟨rfl, hK3, ab3, cap3, hM3, hab3⟩
            replace hK3 := Lib.hid hK3; replace hM3 := Lib.hid hM3; replace hab3 := Lib.hid hab3
            go_wp2_with fail
            refine (CCm.out _).mono ?_
            rintro e w4 ⟨rfl, G4⟩
            replace G4 := Lib.hid G4
            go_wp2_with fail
            refine (CF.out _).mono ?_
            rintro e w5 ⟨rfl, rfl⟩
            go_wp2_with fail
            go_ret
            rw [hR.out]
            have hKK := ((Kp.refl (w := w2) (mb := mb) (ab := ab0)).grow0 (g_drewN _ _)).trans hK3.out (.inl rfl)
            exact ⟨by rw [hSF.out]; rfl, hKK.grow0 G4.out, ab3, cap3, hM3.out.grown (Nat.le_trans hB.out hKK.size) G4.out, hab3.out⟩
          · rw [show st [62, 61] = ⟨#[62, 61]⟩ from rfl] at hx1 CCm
            go_enter Tryz.func47, Tryz.ntmps47
            go_wp2_with fail
            refine CC.out.mono ?_
            rintro e w1 ⟨rfl, rfl⟩
            go_wp2_with fail
            refine CO.out.mono ?_
            rintro e w2 ⟨rfl, rfl⟩
            go_upto_region 8 with fail
            go_quiet (fail)
            go_wp2_with fail
            refine (C2.out _).mono ?_
            rintro e w3 ⟨rfl, hK3, ab3, cap3, hM3, hab3⟩
            replace hK3 := Lib.hid hK3; replace hM3 := Lib.hid hM3; replace hab3 := Lib.hid hab3
            go_wp2_with fail
            refine (CCm.out _).mono ?_
            rintro e w4 ⟨rfl, G4⟩
            replace G4 := Lib.hid G4
            go_wp2_with fail
            refine (CF.out _).mono ?_
            rintro e w5 ⟨rfl, rfl⟩
            go_wp2_with fail
            go_ret
            rw [hR.out]
            have hKK := ((Kp.refl (w := w2) (mb := mb) (ab := ab0)).grow0 (g_drewN _ _)).trans hK3.out (.inl rfl)
            exact ⟨by rw [hSF.out]; rfl, hKK.grow0 G4.out, ab3, cap3, hM3.out.grown (Nat.le_trans hB.out hKK.size) G4.out, hab3.out⟩
          · rw [show st [124, 124] = ⟨#[124, 124]⟩ from rfl] at hx1 CCm
            go_enter Tryz.func47, Tryz.ntmps47
            go_wp2_with fail
            refine CC.out.mono ?_
            rintro e w1 ⟨rfl, rfl⟩
            go_wp2_with fail
            refine CO.out.mono ?_
            rintro e w2 ⟨rfl, rfl⟩
            go_upto_region 8 with fail
            go_quiet (fail)
            go_wp2_with fail
            refine (C2.out _).mono ?_
            rintro e w3 ⟨rfl, hK3, ab3, cap3, hM3, hab3⟩
            replace hK3 := Lib.hid hK3; replace hM3 := Lib.hid hM3; replace hab3 := Lib.hid hab3
            go_wp2_with fail
            refine (CCm.out _).mono ?_
            rintro e w4 ⟨rfl, G4⟩
            replace G4 := Lib.hid G4
            go_wp2_with fail
            refine (CF.out _).mono ?_
            rintro e w5 ⟨rfl, rfl⟩
            go_wp2_with fail
            go_ret
            rw [hR.out]
            have hKK := ((Kp.refl (w := w2) (mb := mb) (ab := ab0)).grow0 (g_drewN _ _)).trans hK3.out (.inl rfl)
            exact ⟨by rw [hSF.out]; rfl, hKK.grow0 G4.out, ab3, cap3, hM3.out.grown (Nat.le_trans hB.out hKK.size) G4.out, hab3.out⟩
          · rw [show st [38, 38] = ⟨#[38, 38]⟩ from rfl] at hx1 CCm
            go_enter Tryz.func47, Tryz.ntmps47
            go_wp2_with fail
            refine CC.out.mono ?_
            rintro e w1 ⟨rfl, rfl⟩
            go_wp2_with fail
            refine CO.out.mono ?_
            rintro e w2 ⟨rfl, rfl⟩
            go_upto_region 8 with fail
            go_quiet (fail)
            go_wp2_with fail
            refine (C2.out _).mono ?_
            rintro e w3 ⟨rfl, hK3, ab3, cap3, hM3, hab3⟩
            replace hK3 := Lib.hid hK3; replace hM3 := Lib.hid hM3; replace hab3 := Lib.hid hab3
            go_wp2_with fail
            refine (CCm.out _).mono ?_
            rintro e w4 ⟨rfl, G4⟩
            replace G4 := Lib.hid G4
            go_wp2_with fail
            refine (CF.out _).mono ?_
            rintro e w5 ⟨rfl, rfl⟩
            go_wp2_with fail
            go_ret
            rw [hR.out]
            have hKK := ((Kp.refl (w := w2) (mb := mb) (ab := ab0)).grow0 (g_drewN _ _)).trans hK3.out (.inl rfl)
            exact ⟨by rw [hSF.out]; rfl, hKK.grow0 G4.out, ab3, cap3, hM3.out.grown (Nat.le_trans hB.out hKK.size) G4.out, hab3.out⟩
          · rw [show st [109] = ⟨#[109]⟩ from rfl] at hx1 CCm
            go_enter Tryz.func47, Tryz.ntmps47
            go_wp2_with fail
            refine CC.out.mono ?_
            rintro e w1 ⟨rfl, rfl⟩
            go_wp2_with fail
            refine CO.out.mono ?_
            rintro e w2 ⟨rfl, rfl⟩
            go_upto_region 8 with fail
            go_quiet (fail)
            go_wp2_with fail
            refine (C2.out _).mono ?_
            rintro e w3 ⟨rfl, hK3, ab3, cap3, hM3, hab3⟩
            replace hK3 := Lib.hid hK3; replace hM3 := Lib.hid hM3; replace hab3 := Lib.hid hab3
            go_wp2_with fail
            refine (CCm.out _).mono ?_
            rintro e w4 ⟨rfl, G4⟩
            replace G4 := Lib.hid G4
            go_wp2_with fail
            refine (CF.out _).mono ?_
            rintro e w5 ⟨rfl, rfl⟩
            go_wp2_with fail
            go_ret
            rw [hR.out]
            have hKK := ((Kp.refl (w := w2) (mb := mb) (ab := ab0)).grow0 (g_drewN _ _)).trans hK3.out (.inl rfl)
            exact ⟨by rw [hSF.out]; rfl, hKK.grow0 G4.out, ab3, cap3, hM3.out.grown (Nat.le_trans hB.out hKK.size) G4.out, hab3.out⟩
      | false =>
        rw [if_neg (by rw [hc]; simp)] at hR
        have hfac : (head == [61, 61]) = false ∧ (head == [33, 61]) = false ∧ (head == [60]) = false ∧ (head == [62]) = false ∧ (head == [60, 61]) = false ∧ (head == [62, 61]) = false ∧ (head == [124, 124]) = false ∧ (head == [38, 38]) = false ∧ (head == [109]) = false := by
          unfold isCmp at hc
          simp only [Bool.or_eq_false_iff] at hc
          obtain ⟨⟨⟨⟨⟨⟨⟨⟨h1, h2⟩, h3⟩, h4⟩, h5⟩, h6⟩, h7⟩, h8⟩, h9⟩ := hc
          exact ⟨h1, h2, h3, h4, h5, h6, h7, h8, h9⟩
        by_cases hlp : head = [83] ∨ head = [87] ∨ head = [80]
        · rw [if_pos hlp] at hR
          have CLp := fun m => HL.out (head.headD 0) rest n0 ab0 cap0 (w.drewN m) hrl.out (hM.out.grown hB.out (g_drewN w m)) hB.out (by rw [← hR]; exact hno.out)
          rw [← hR] at CLp
          have CL2 := fun m => (CLp m).mono fun e w' h => h.end_ hno.out
          rw [← hSR.out] at CL2
          have fin : ∀ m e w', ResP base mb scs deep ab0 (w.drewN m) R e w' → ResP base mb scs deep ab0 w R e w' := fun m e w' h => h.drewN
          clear hfac
          replace CLp := Lib.hid CLp; replace CL2 := Lib.hid CL2; replace hR := Lib.hid hR; replace hc := Lib.hid hc; replace fin := Lib.hid fin
          rcases hlp with rfl | rfl | rfl
          · rw [show st [83] = ⟨#[83]⟩ from rfl] at hx1
            go_enter Tryz.func47, Tryz.ntmps47
            go_wp2_with fail
            refine CC.out.mono ?_
            rintro e w1 ⟨rfl, rfl⟩
            go_wp2_with fail
            refine CO.out.mono ?_
            rintro e w2 ⟨rfl, rfl⟩
            go_upto_region 8 with fail
            go_quiet (fail)
            go_wp2_with fail
            refine (CL2.out _).mono ?_
            rintro e w3 (⟨x, rfl, hres⟩ | ⟨q, rfl, hres⟩)
            · replace hres := Lib.hid hres
              go_wp2_with fail
              go_ret
              exact fin.out _ _ _ hres.out
            · replace hres := Lib.hid hres
              unfold Pan
              go_wp2_with fail
              exact ⟨rfl, fin.out _ _ _ hres.out⟩
          · rw [show st [87] = ⟨#[87]⟩ from rfl] at hx1
            go_enter Tryz.func47, Tryz.ntmps47
            go_wp2_with fail
            refine CC.out.mono ?_
            rintro e w1 ⟨rfl, rfl⟩
            go_wp2_with fail
            refine CO.out.mono ?_
            rintro e w2 ⟨rfl, rfl⟩
            go_upto_region 8 with fail
            go_quiet (fail)
            go_wp2_with fail
            refine (CL2.out _).mono ?_
            rintro e w3 (⟨x, rfl, hres⟩ | ⟨q, rfl, hres⟩)
            · replace hres := Lib.hid hres
              go_wp2_with fail
              go_ret
              exact fin.out _ _ _ hres.out
            · replace hres := Lib.hid hres
              unfold Pan
              go_wp2_with fail
              exact ⟨rfl, fin.out _ _ _ hres.out⟩
          · rw [show st [80] = ⟨#[80]⟩ from rfl] at hx1
            go_enter Tryz.func47, Tryz.ntmps47
            go_wp2_with fail
            refine CC.out.mono ?_
            rintro e w1 ⟨rfl, rfl⟩
            go_wp2_with fail
            refine CO.out.mono ?_
            rintro e w2 ⟨rfl, rfl⟩
            go_upto_region 8 with fail
            go_quiet (fail)
            go_wp2_with fail
            refine (CL2.out _).mono ?_
            rintro e w3 (⟨x, rfl, hres⟩ | ⟨q, rfl, hres⟩)
            · replace hres := Lib.hid hres
              go_wp2_with fail
              go_ret
              exact fin.out _ _ _ hres.out
            · replace hres := Lib.hid hres
              unfold Pan
              go_wp2_with fail
              exact ⟨rfl, fin.out _ _ _ hres.out⟩
        · rw [if_neg hlp] at hR
          obtain ⟨f1, f2, f3, f4, f5, f6, f7, f8, f9⟩ := hfac
          have f10 : (head == [83]) = false := beq_eq_false_iff_ne.2 fun h => hlp (.inl h)
          have f11 : (head == [87]) = false := beq_eq_false_iff_ne.2 fun h => hlp (.inr (.inl h))
          have f12 : (head == [80]) = false := beq_eq_false_iff_ne.2 fun h => hlp (.inr (.inr h))
          have fin : ∀ m e w', ResP base mb scs deep ab0 (w.drewN m) R e w' → ResP base mb scs deep ab0 w R e w' := fun m e w' h => h.drewN
          have CC3 := fun W => cutPrefix_any head [101, 124] W (by have := hhl.out; omega) (by decide)
          rw [show st [101, 124] = ⟨#[101, 124]⟩ from rfl] at CC3
          unfold cutV at CC3
          have hht : (st head).toList = head := st_toList head
          obtain ⟨SH, hSH⟩ : ∃ S, S = st head := ⟨_, rfl⟩
          rw [← hSH] at hx1 hht
          by_cases he2 : head.take 2 = [101, 124]
          · rw [if_pos he2] at hR
            have hpt : hasP head [101, 124] = true := by unfold hasP; simpa using he2
            have CRk := fun m => HR.out (head.drop 2) rest n0 ab0 cap0 (w.drewN m) (by rw [List.length_drop]; have := hhl.out; omega) hrl.out (hM.out.grown hB.out (g_drewN w m)) hB.out (by rw [← hR]; exact hno.out)
            rw [← hR] at CRk
            have CL2 := fun m => (CRk m).mono fun e w' h => h.end_ hno.out
            obtain ⟨SD, hSD⟩ : ∃ S, S = st (head.drop 2) := ⟨_, rfl⟩
            rw [← hSR.out, ← hSD] at CL2
            replace CC3 : ∀ W, Calls Tryz.prog 52 #[.string SH, .string ⟨#[101, 124]⟩] W fun e w' => e = .returned (.tuple #[.string SD, .bool true]) ∧ w' = W := fun W => by
              have := CC3 W
              rw [if_pos hpt, ← hSH] at this
              rw [hSD]; exact this
            replace CRk := Lib.hid CRk; replace CL2 := Lib.hid CL2; replace hR := Lib.hid hR; replace hc := Lib.hid hc; replace fin := Lib.hid fin; replace CC3 := Lib.hid CC3; replace hpt := Lib.hid hpt; replace he2 := Lib.hid he2; replace hSH := Lib.hid hSH; replace hSD := Lib.hid hSD; replace hlp := Lib.hid hlp
            go_enter Tryz.func47, Tryz.ntmps47
            go_wp2_with fail
            refine CC.out.mono ?_
            rintro e w1 ⟨rfl, rfl⟩
            go_wp2_with fail
            refine CO.out.mono ?_
            rintro e w2 ⟨rfl, rfl⟩
            go_upto_region 8 with fail
            go_quiet (fail)
            go_wp2_with fail
            refine (CC3.out _).mono ?_
            rintro e w3 ⟨rfl, rfl⟩
            go_wp2_with fail
            refine (CL2.out _).mono ?_
            rintro e w3 (⟨x, rfl, hres⟩ | ⟨q, rfl, hres⟩)
            · replace hres := Lib.hid hres
              go_wp2_with fail
              go_ret
              exact fin.out _ _ _ hres.out
            · replace hres := Lib.hid hres
              unfold Pan
              go_wp2_with fail
              exact ⟨rfl, fin.out _ _ _ hres.out⟩
          · rw [if_neg he2] at hR
            have hpt : hasP head [101, 124] = false := by unfold hasP; simpa using he2
            have CMd := fun m => HM.out s n0 ab0 cap0 (w.drewN m) (by rw [← hlen.out]; exact hs) (hM.out.grown hB.out (g_drewN w m)) hB.out (by rw [← hR]; exact hno.out)
            rw [← hR] at CMd
            have CL2 := fun m => (CMd m).mono fun e w' h => h.end_ hno.out
            rw [← hS.out] at CL2
            replace CC3 : ∀ W, Calls Tryz.prog 52 #[.string SH, .string ⟨#[101, 124]⟩] W fun e w' => e = .returned (.tuple #[.string SH, .bool false]) ∧ w' = W := fun W => by
              have := CC3 W
              rw [if_neg (by rw [hpt]; simp), ← hSH] at this
              exact this
            replace CMd := Lib.hid CMd; replace CL2 := Lib.hid CL2; replace hR := Lib.hid hR; replace hc := Lib.hid hc; replace fin := Lib.hid fin; replace CC3 := Lib.hid CC3; replace hpt := Lib.hid hpt; replace he2 := Lib.hid he2; replace hSH := Lib.hid hSH; replace hlp := Lib.hid hlp
            go_enter Tryz.func47, Tryz.ntmps47
            go_wp2_with fail
            refine CC.out.mono ?_
            rintro e w1 ⟨rfl, rfl⟩
            go_wp2_with fail
            refine CO.out.mono ?_
            rintro e w2 ⟨rfl, rfl⟩
            go_upto_region 8 with fail
            go_quiet (fail)
            go_wp2_with fail
            refine (CC3.out _).mono ?_
            rintro e w3 ⟨rfl, rfl⟩
            go_wp2_with fail
            refine (CL2.out _).mono ?_
            rintro e w3 (⟨x, rfl, hres⟩ | ⟨q, rfl, hres⟩)
            · replace hres := Lib.hid hres
              go_wp2_with fail
              go_ret
              exact fin.out _ _ _ hres.out
            · replace hres := Lib.hid hres
              unfold Pan
              go_wp2_with fail
              exact ⟨rfl, fin.out _ _ _ hres.out⟩
end Go.Proofs.YtfhdfhlabkeipaaGreatDoor
