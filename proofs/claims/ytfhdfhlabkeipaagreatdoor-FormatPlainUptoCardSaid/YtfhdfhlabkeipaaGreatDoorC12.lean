/- Format: text: what the expander makes of a text, out of what it makes of expressions. -/
import Derived.Test.YtfhdfhlabkeipaaGreatDoorC11
import Derived.Deep.CutBlock
namespace Go.Proofs.YtfhdfhlabkeipaaGreatDoor
open Go.RowKit
set_option linter.unusedSimpArgs false
set_option linter.unusedVariables false

def ExOk (base mb deep : Nat) (scs : List (Option Sc)) (ex : B → Nat → Rs) : Prop :=
  ∀ (c : B) (n ab cap : Nat) (W : World), c.length ≤ 8192 → Mk base mb W ab cap scs deep n → base ≤ W.heap.size → ex c n ≠ .no → Calls Tryz.prog 38 #[.pointer (some ⟨mb, 0, none⟩), .string (st c)] W (ResP base mb scs deep ab W (ex c n))
theorem step_row {w wr w2 w3 : World} {base mb ab0 ab cap deep n L : Nat} {scs : List (Option Sc)} {v : Value} {xs : List Value} (hK : Kp mb ab0 w wr) (hM : Mk base mb wr ab cap scs deep n) (hB : base ≤ w.heap.size) (ho : wr.ownsRow w.heap.size 5 1 v L xs)
    (g : wr.grownBy w2 none) (h2 : w2.grownBy w3 v.ownBlock) : Kp mb ab0 w w3 ∧ Mk base mb w3 ab cap scs deep n := by
  have hB2 : base ≤ wr.heap.size := Nat.le_trans hB hK.size
  refine ⟨(hK.grow0 g).grow h2 fun b e => (own_lt ho e).1, (hM.grown hB2 g).row (own_keep ho g) hB (Nat.le_trans hB2 g.size) h2⟩
/-- At a round's head; R: what is to come of the whole. -/
def TI (base mb ab0 deep : Nat) (scs : List (Option Sc)) (ex : B → Nat → Rs) (s : B) (R : Rs) (w wr : World) (acc : B) (A : Option Addr) (L c i : Nat) : Prop :=
  ∃ n ab cap, Kp mb ab0 w wr ∧ Mk base mb wr ab cap scs deep n ∧ (ab = ab0 ∨ w.heap.size ≤ ab) ∧ wr.ownsRow w.heap.size 5 1 (.slice A L c) L (bs acc) ∧ L = acc.length ∧ R = textG ex scs (s.drop i) acc n
/-- Behind the switch. -/
def TC (base mb ab0 deep : Nat) (scs : List (Option Sc)) (ex : B → Nat → Rs) (s : B) (R : Rs) (w wr : World) (acc : B) (A : Option Addr) (L c i : Nat) : Prop :=
  ∃ n ab cap, Kp mb ab0 w wr ∧ Mk base mb wr ab cap scs deep n ∧ (ab = ab0 ∨ w.heap.size ≤ ab) ∧ wr.ownsRow w.heap.size 5 1 (.slice A L c) L (bs acc) ∧ L = acc.length ∧ R = chk acc (textG ex scs (s.drop (i + 1)) acc n)
theorem bs_snoc (acc : B) (u : UInt8) : bs acc ++ [b8 u] = bs (acc ++ [u]) := by simp [bs]

set_option maxHeartbeats 4000000 in
set_option maxRecDepth 100000 in
theorem text_any (base mb deep : Nat) (scs : List (Option Sc)) (ex : B → Nat → Rs) (hX : ExOk base mb deep scs ex) (hxl : ∀ c n v n', ex c n = .ok v n' → v.length ≤ 8192) (hscs : scs.length ≤ 100) (s : B) (n0 ab0 cap0 : Nat) (w : World) (hs : s.length ≤ 8192)
    (hM : Mk base mb w ab0 cap0 scs deep n0) (hB : base ≤ w.heap.size) (hno : textL ex scs s n0 ≠ .no) :
    Calls Tryz.prog 26 #[.pointer (some ⟨mb, 0, none⟩), .string (st s)] w (ResP base mb scs deep ab0 w (textL ex scs s n0)) := by
  obtain ⟨R, hR⟩ : ∃ R, R = textL ex scs s n0 := ⟨_, rfl⟩
  rw [← hR] at hno ⊢
  obtain ⟨S, hS⟩ : ∃ S, S = st s := ⟨_, rfl⟩
  obtain ⟨len, hlen⟩ : ∃ len, len = s.length := ⟨_, rfl⟩
  have hZ : S.size = len := by rw [hS, st_size, hlen]
  rw [← hS]
  rw [← hlen] at hs
  obtain ⟨tb, htb⟩ : ∃ tb, tb = w.heap.size := ⟨_, rfl⟩
  replace hS := Lib.hid hS; replace hlen := Lib.hid hlen; replace hR := Lib.hid hR; replace hno := Lib.hid hno; replace hX := Lib.hid hX; replace hxl := Lib.hid hxl; replace hM := Lib.hid hM; replace hB := Lib.hid hB; replace hscs := Lib.hid hscs; replace htb := Lib.hid htb
  have CM1 := Lib.hid must_ok
  have CM0 := Lib.hid must_bad
  have CN := Lib.hid named_any
  unfold Pan at CM0
  go_enter Tryz.func26, Tryz.ntmps26
  go_wp2_with fail
  go_loopw [5, 6] (fun bv iv wr => ∃ (acc : B) (A : Option Addr) (L c i : Nat), bv = .slice A L c ∧ iv = .int .i64 i ∧ i ≤ len ∧ L ≤ 8192 ∧ Hid (TI base mb ab0 deep scs ex s R w wr acc A L c i)) (fun _ iv _ => 8300 - (intOf iv).toNat)
  case atStart => exact ⟨[], none, 0, 0, 0, rfl, rfl, Nat.zero_le _, Nat.zero_le _, Lib.hid ⟨n0, ab0, cap0, Kp.refl, hM.out, .inl rfl, World.ownsRow_nil _ _ _ _, rfl, by rw [hR.out, List.drop_zero]; rfl⟩⟩
  case round =>
    obtain ⟨acc, A, L, c, i, rfl, rfl, hi, hL, hI⟩ := hrel
    have hwi : IntKind.i64.wrap ((i : Int) + 1) = ((i + 1 : Nat) : Int) := by rw [IntKind.wrap_i64]; omega
    have hwi2 : IntKind.i64.wrap ((i : Int) + 2) = ((i + 2 : Nat) : Int) := by rw [IntKind.wrap_i64]; omega
    by_cases hlt : i < len
    · have hlti : (i : Int) < (len : Int) := by omega
      obtain ⟨c0, hc0⟩ : ∃ c0, s[i]? = some c0 := ⟨s[i]'(by rw [← hlen.out]; exact hlt), List.getElem?_eq_getElem _⟩
      have hg0 := get_at hc0 hS.out
      go_upto_region 6 with fail
      go_cut [27] (fun v wx => ∃ q : Bool, v = .bool q ∧ wx = wr ∧ Hid ((q = true ∧ c0 = 35 ∧ i + 1 < len) ∨ (q = false ∧ (c0 ≠ 35 ∨ len ≤ i + 1))))
      case first =>
        by_cases h35 : c0 = 35
        · have e35 : (c0.toNat : Int) = 35 := u8_eq (n := 35) (by omega) h35
          by_cases hl1 : i + 1 < len
          · have hl1i : (i : Int) + 1 < (len : Int) := by omega
            replace h35 := Lib.hid h35; replace hc0 := Lib.hid hc0
            go_wp2_with fail
            go_meet
            exact ⟨true, rfl, rfl, Lib.hid (.inl ⟨rfl, h35.out, hl1⟩)⟩
          · have hl1i : ¬ ((i : Int) + 1 < (len : Int)) := by omega
            replace h35 := Lib.hid h35; replace hc0 := Lib.hid hc0
            go_wp2_with fail
            go_meet
            exact ⟨false, rfl, rfl, Lib.hid (.inr ⟨rfl, .inr (by omega)⟩)⟩
        · have e35 : ¬ ((c0.toNat : Int) = 35) := u8_ne (n := 35) (by omega) h35
          replace h35 := Lib.hid h35; replace hc0 := Lib.hid hc0
          go_wp2_with fail
          go_meet
          exact ⟨false, rfl, rfl, Lib.hid (.inr ⟨rfl, .inl h35.out⟩)⟩
      case rest =>
        obtain ⟨q, rfl, rfl, hq⟩ := hcut
        go_upto_if 27 with fail
        go_cut [7] (fun cv wx => ∃ cc : UInt8, cv = .int .u8 (cc.toNat : Int) ∧ wx = wc ∧ Hid ((c0 = 35 ∧ s[i + 1]? = some cc ∧ i + 1 < len) ∨ (cc = 0 ∧ (c0 ≠ 35 ∨ len ≤ i + 1))))
        case first =>
          cases q with
          | true =>
            obtain ⟨h35, hl1⟩ : c0 = 35 ∧ i + 1 < len := by
              rcases hq.out with ⟨_, h⟩ | ⟨h, _⟩
              · exact h
              · cases h
            obtain ⟨e1, he1⟩ : ∃ e, s[i + 1]? = some e := ⟨s[i + 1]'(by rw [← hlen.out]; exact hl1), List.getElem?_eq_getElem _⟩
            have hge := get_at he1 hS.out
            have hl1i : (i : Int) + 1 < (len : Int) := by omega
            have hf : Hid ((c0 = 35 ∧ s[i + 1]? = some e1 ∧ i + 1 < len) ∨ (e1 = 0 ∧ (c0 ≠ 35 ∨ len ≤ i + 1))) := Lib.hid (.inl ⟨h35, he1, hl1⟩)
            replace h35 := Lib.hid h35; replace hc0 := Lib.hid hc0; replace he1 := Lib.hid he1
            go_wp2_with fail
            go_meet
            exact ⟨e1, rfl, rfl, hf⟩
          | false =>
            replace hc0 := Lib.hid hc0
            go_wp2_with fail
            go_meet
            exact ⟨0, rfl, rfl, Lib.hid (by
              rcases hq.out with ⟨h, _⟩ | ⟨_, h⟩
              · cases h
              · exact .inr ⟨rfl, h⟩)⟩
        case rest =>
          obtain ⟨cc, rfl, rfl, hcc⟩ := hcut
          go_upto_block 2 with fail
          go_cut [5, 6] (fun bv iv wx => ∃ (acc' : B) (A' : Option Addr) (L' c' i' : Nat), bv = .slice A' L' c' ∧ iv = .int .i64 i' ∧ i ≤ i' ∧ i' + 1 ≤ len ∧ L' ≤ 2000000 ∧ Hid (TC base mb ab0 deep scs ex s R w wx acc' A' L' c' i'))
          case first =>
            obtain ⟨n, ab, cap, hK, hMk, hab, hO, hLl, hRR⟩ := hI.out
            replace hK := Lib.hid hK; replace hMk := Lib.hid hMk; replace hab := Lib.hid hab; replace hO := Lib.hid hO; replace hLl := Lib.hid hLl; replace hRR := Lib.hid hRR; replace hc0 := Lib.hid hc0
            rcases hcc.out with ⟨h35, he, hl1⟩ | ⟨hz, hno35⟩
            · have hge := get_at he hS.out
              have hl1i : (i : Int) + 1 < (len : Int) := by omega
              replace h35 := Lib.hid h35; replace he := Lib.hid he
              by_cases q1 : cc = 35
              · have f1 : ((cc.toNat : Int) == 35) = true := beq_iff_eq.2 (u8_eq (n := 35) (by omega) q1)
                replace q1 := Lib.hid q1
                have hstep := hRR.out.trans (tg_self (ex := ex) (scs := scs) (acc := acc) (n := n) hc0.out h35.out he.out (.inl q1.out))
                rw [show i + 2 = (i + 1) + 1 from rfl] at hstep
                replace hstep := Lib.hid hstep
                go_wp2_with (at_builtin; refine ap35 rfl (.tmp 49) (.tmp 51) rfl w.heap.size (.slice A L c) L (bs acc) rfl (own_keep hO.out (World.grownBy_alloc _ _ none)) wc.heap.size cc rfl (heap_alloc_new wc _) (by omega) (Nat.le_trans hK.out.size (World.grownBy_alloc _ _ none).size) ?_; intro A2 c2 w2 h1 h2; replace h1 := Lib.hid h1; replace h2 := Lib.hid h2)
                obtain ⟨k1, k2⟩ := step_row hK.out hMk.out hB.out hO.out (World.grownBy_alloc _ _ none) h2.out
                have hTC : TC base mb ab0 deep scs ex s R w w2 (acc ++ [cc]) A2 (L + 1) c2 (i + 1) := ⟨n, ab, cap, k1, k2, hab.out, by rw [← bs_snoc]; exact h1.out, by rw [List.length_append, hLl.out]; rfl, hstep.out⟩
                replace hTC := Lib.hid hTC; replace k1 := Lib.hid k1; replace k2 := Lib.hid k2
                go_wp2_with fail
                go_meet
                exact ⟨acc ++ [cc], A2, L + 1, c2, (i + 1), rfl, rfl, by omega, by omega, by omega, hTC⟩
              have f1 : ((cc.toNat : Int) == 35) = false := beq_eq_false_iff_ne.2 (u8_ne (n := 35) (by omega) q1)
              by_cases q2 : cc = 44
              · have f2 : ((cc.toNat : Int) == 44) = true := beq_iff_eq.2 (u8_eq (n := 44) (by omega) q2)
                replace q2 := Lib.hid q2; replace q1 := Lib.hid q1
                have hstep := hRR.out.trans (tg_self (ex := ex) (scs := scs) (acc := acc) (n := n) hc0.out h35.out he.out (.inr (.inl q2.out)))
                rw [show i + 2 = (i + 1) + 1 from rfl] at hstep
                replace hstep := Lib.hid hstep
                go_wp2_with (at_builtin; refine ap35 rfl (.tmp 49) (.tmp 51) rfl w.heap.size (.slice A L c) L (bs acc) rfl (own_keep hO.out (World.grownBy_alloc _ _ none)) wc.heap.size cc rfl (heap_alloc_new wc _) (by omega) (Nat.le_trans hK.out.size (World.grownBy_alloc _ _ none).size) ?_; intro A2 c2 w2 h1 h2; replace h1 := Lib.hid h1; replace h2 := Lib.hid h2)
                obtain ⟨k1, k2⟩ := step_row hK.out hMk.out hB.out hO.out (World.grownBy_alloc _ _ none) h2.out
                have hTC : TC base mb ab0 deep scs ex s R w w2 (acc ++ [cc]) A2 (L + 1) c2 (i + 1) := ⟨n, ab, cap, k1, k2, hab.out, by rw [← bs_snoc]; exact h1.out, by rw [List.length_append, hLl.out]; rfl, hstep.out⟩
                replace hTC := Lib.hid hTC; replace k1 := Lib.hid k1; replace k2 := Lib.hid k2
                go_wp2_with fail
                go_meet
                exact ⟨acc ++ [cc], A2, L + 1, c2, (i + 1), rfl, rfl, by omega, by omega, by omega, hTC⟩
              have f2 : ((cc.toNat : Int) == 44) = false := beq_eq_false_iff_ne.2 (u8_ne (n := 44) (by omega) q2)
              by_cases q3 : cc = 125
              · have f3 : ((cc.toNat : Int) == 125) = true := beq_iff_eq.2 (u8_eq (n := 125) (by omega) q3)
                replace q2 := Lib.hid q2; replace q1 := Lib.hid q1; replace q3 := Lib.hid q3
                have hstep := hRR.out.trans (tg_self (ex := ex) (scs := scs) (acc := acc) (n := n) hc0.out h35.out he.out (.inr (.inr q3.out)))
                rw [show i + 2 = (i + 1) + 1 from rfl] at hstep
                replace hstep := Lib.hid hstep
                go_wp2_with (at_builtin; refine ap35 rfl (.tmp 49) (.tmp 51) rfl w.heap.size (.slice A L c) L (bs acc) rfl (own_keep hO.out (World.grownBy_alloc _ _ none)) wc.heap.size cc rfl (heap_alloc_new wc _) (by omega) (Nat.le_trans hK.out.size (World.grownBy_alloc _ _ none).size) ?_; intro A2 c2 w2 h1 h2; replace h1 := Lib.hid h1; replace h2 := Lib.hid h2)
                obtain ⟨k1, k2⟩ := step_row hK.out hMk.out hB.out hO.out (World.grownBy_alloc _ _ none) h2.out
                have hTC : TC base mb ab0 deep scs ex s R w w2 (acc ++ [cc]) A2 (L + 1) c2 (i + 1) := ⟨n, ab, cap, k1, k2, hab.out, by rw [← bs_snoc]; exact h1.out, by rw [List.length_append, hLl.out]; rfl, hstep.out⟩
                replace hTC := Lib.hid hTC; replace k1 := Lib.hid k1; replace k2 := Lib.hid k2
                go_wp2_with fail
                go_meet
                exact ⟨acc ++ [cc], A2, L + 1, c2, (i + 1), rfl, rfl, by omega, by omega, by omega, hTC⟩
              have f3 : ((cc.toNat : Int) == 125) = false := beq_eq_false_iff_ne.2 (u8_ne (n := 125) (by omega) q3)
              by_cases q4 : cc = 123
              · have f4 : ((cc.toNat : Int) == 123) = true := beq_iff_eq.2 (u8_eq (n := 123) (by omega) q4)
                have CL : Hid (∀ W, Calls Tryz.prog 36 #[.string S, .int .i64 ((i + 2 : Nat) : Int)] W fun e w' => e = .returned (.int .i64 (idx ((closeL (s.drop (i + 2)) 1 0).map (· + (i + 2))))) ∧ w' = W) := Lib.hid fun W => by
                  rw [hS.out, ← closeL_at]
                  exact closing_any s (i + 2) W (by have := hlen.out; omega) (by have := hlen.out; omega)
                cases hcl : closeL (s.drop (i + 2)) 1 0 with
                | none =>
                  rw [hcl] at CL
                  replace CL : Hid (∀ W, Calls Tryz.prog 36 #[.string S, .int .i64 ((i + 2 : Nat) : Int)] W fun e w' => e = .returned (.int .i64 (-1)) ∧ w' = W) := CL
                  have hRb := hRR.out.trans (tg_open_none (ex := ex) (scs := scs) (acc := acc) (n := n) hc0.out h35.out he.out q4 hcl)
                  replace hRb := Lib.hid hRb; replace hcl := Lib.hid hcl; replace q1 := Lib.hid q1; replace q2 := Lib.hid q2; replace q3 := Lib.hid q3; replace q4 := Lib.hid q4
                  go_wp2_with fail
                  refine (CL.out _).mono ?_
                  rintro e w1 ⟨rfl, rfl⟩
                  go_wp2_with fail
                  refine (CM0.out 4 _).mono ?_
                  rintro e w2 ⟨rfl, rfl⟩
                  go_wp2_with fail
                  refine ⟨rfl, ?_⟩
                  rw [hRb.out]
                  exact ⟨rfl, hK.out⟩
                | some k =>
                  rw [hcl] at CL
                  obtain ⟨en, hen⟩ : ∃ en, en = i + 2 + k := ⟨_, rfl⟩
                  have hkl := (closeL_lt _ _ _ _ _ (Nat.le_refl _) hcl).2
                  rw [List.length_drop, ← hlen.out] at hkl
                  have henl : en + 1 ≤ len := by omega
                  have heni : i + 2 ≤ en := by omega
                  replace CL : Hid (∀ W, Calls Tryz.prog 36 #[.string S, .int .i64 ((i + 2 : Nat) : Int)] W fun e w' => e = .returned (.int .i64 (en : Int)) ∧ w' = W) := Lib.hid fun W => by
                    have := CL.out W
                    rw [show idx ((some k).map (· + (i + 2))) = (en : Int) by show ((k + (i + 2) : Nat) : Int) = _; omega] at this
                    exact this
                  have hstep := hRR.out.trans (tg_open (ex := ex) (scs := scs) (acc := acc) (n := n) hc0.out h35.out he.out q4 hcl)
                  rw [← hen] at hstep
                  have hext : S.extract (i + 2) en = st ((s.drop (i + 2)).take k) := by
                    rw [hS.out, st_ext, hen, List.drop_take, show i + 2 + k - (i + 2) = k by omega]
                  obtain ⟨cx, hcx⟩ : ∃ cx, cx = (s.drop (i + 2)).take k := ⟨_, rfl⟩
                  rw [← hcx] at hstep hext
                  have hcxl : cx.length ≤ 8192 := by rw [hcx, List.length_take, List.length_drop]; have := hlen.out; omega
                  have hB1 : base ≤ wc.heap.size := Nat.le_trans hB.out hK.out.size
                  have hexn : ex cx n ≠ .no := fun h => hno.out (by rw [hstep, h]; rfl)
                  have CX := hX.out cx n ab cap wc hcxl hMk.out hB1 hexn
                  have hg1i : (0 : Int) ≤ (i : Int) + 2 := by omega
                  have hg2i : (i : Int) + 2 ≤ (en : Int) := by omega
                  have hg3i : (en : Int) ≤ (len : Int) := by omega
                  have hen0 : (0 : Int) ≤ (en : Int) := by omega
                  obtain ⟨SX, hSX⟩ : ∃ SX, SX = st cx := ⟨_, rfl⟩
                  rw [← hSX] at hext CX
                  obtain ⟨nb1, nb2⟩ := hMk.out.ne_bytes hO.out
                  cases hexr : ex cx n with
                  | no => exact absurd hexr hexn
                  | bad e0 =>
                    rw [hexr] at CX hstep
                    replace CX : Calls Tryz.prog 38 #[.pointer (some ⟨mb, 0, none⟩), .string SX] wc fun e w' => e = Pan e0 ∧ Kp mb ab wc w' := CX
                    unfold Pan at CX
                    replace hstep : R = .bad e0 := hstep
                    replace hstep := Lib.hid hstep; replace CX := Lib.hid CX; replace hcl := Lib.hid hcl; replace q1 := Lib.hid q1; replace q2 := Lib.hid q2; replace q3 := Lib.hid q3; replace q4 := Lib.hid q4; replace hexn := Lib.hid hexn; replace hB1 := Lib.hid hB1; replace hcxl := Lib.hid hcxl; replace hcx := Lib.hid hcx; replace hen := Lib.hid hen; replace hkl := Lib.hid hkl; replace hSX := Lib.hid hSX; replace hexr := Lib.hid hexr; replace nb1 := Lib.hid nb1; replace nb2 := Lib.hid nb2
                    go_wp2_with fail
                    refine (CL.out _).mono ?_
                    rintro e w1 ⟨rfl, rfl⟩
                    go_wp2_with fail
                    refine (CM1.out 4 _).mono ?_
                    rintro e w2 ⟨rfl, rfl⟩
                    go_wp2_with fail
                    refine CX.out.mono ?_
                    rintro e w3 ⟨rfl, hK3⟩
                    replace hK3 := Lib.hid hK3
                    go_wp2_with fail
                    refine ⟨rfl, ?_⟩
                    rw [hstep.out]
                    exact ⟨rfl, hK.out.trans hK3.out hab.out⟩
                  | ok v n' =>
                    rw [hexr] at CX hstep
                    have hvl := hxl.out _ _ _ _ hexr
                    replace CX : Calls Tryz.prog 38 #[.pointer (some ⟨mb, 0, none⟩), .string SX] wc fun e w' => e = .returned (.string (st v)) ∧ Kp mb ab wc w' ∧ ∃ ab' cap', Mk base mb w' ab' cap' scs deep n' ∧ (ab' = ab ∨ wc.heap.size ≤ ab') := CX
                    replace hstep : R = chk (acc ++ v) (textG ex scs (s.drop (en + 1)) (acc ++ v) n') := hstep
                    replace hstep := Lib.hid hstep; replace CX := Lib.hid CX; replace hcl := Lib.hid hcl; replace q1 := Lib.hid q1; replace q2 := Lib.hid q2; replace q3 := Lib.hid q3; replace q4 := Lib.hid q4; replace hexn := Lib.hid hexn; replace hB1 := Lib.hid hB1; replace hcxl := Lib.hid hcxl; replace hcx := Lib.hid hcx; replace hen := Lib.hid hen; replace hkl := Lib.hid hkl; replace hSX := Lib.hid hSX; replace hexr := Lib.hid hexr; replace hvl := Lib.hid hvl; replace nb1 := Lib.hid nb1; replace nb2 := Lib.hid nb2
                    go_wp2_with fail
                    refine (CL.out _).mono ?_
                    rintro e w1 ⟨rfl, rfl⟩
                    go_wp2_with fail
                    refine (CM1.out 4 _).mono ?_
                    rintro e w2 ⟨rfl, rfl⟩
                    go_wp2_with fail
                    refine CX.out.mono ?_
                    rintro e w3 ⟨rfl, hK3, ab3, cap3, hM3, hab3⟩
                    have hO3 := hK3.own hO.out nb1.out nb2.out
                    have hKK := hK.out.trans hK3 hab.out
                    have hab4 : ab3 = ab0 ∨ w.heap.size ≤ ab3 := by
                      rcases hab3 with rfl | h
                      · exact hab.out
                      · exact .inr (Nat.le_trans hK.out.size h)
                    replace hK3 := Lib.hid hK3; replace hM3 := Lib.hid hM3; replace hab3 := Lib.hid hab3; replace hO3 := Lib.hid hO3; replace hKK := Lib.hid hKK; replace hab4 := Lib.hid hab4
                    go_wp2_with (at_builtin; refine ap35s rfl (.tmp 65) (.tmp 72) rfl w.heap.size (.slice A L c) L (bs acc) rfl hO3.out v rfl (by omega) (by have := hvl.out; omega) hKK.out.size ?_; intro A2 c2 w4 h1 h2; replace h1 := Lib.hid h1; replace h2 := Lib.hid h2)
                    obtain ⟨k1, k2⟩ := step_row hKK.out hM3.out hB.out hO3.out (World.grownBy.refl _ _) h2.out
                    have hTC : TC base mb ab0 deep scs ex s R w w4 (acc ++ v) A2 (L + v.length) c2 en := ⟨n', ab3, cap3, k1, k2, hab4.out, by rw [show bs (acc ++ v) = bs acc ++ bs v from bs_append acc v]; exact h1.out, by rw [List.length_append, hLl.out], hstep.out⟩
                    replace hTC := Lib.hid hTC; replace k1 := Lib.hid k1; replace k2 := Lib.hid k2
                    have hvl2 := hvl.out
                    go_wp2_with fail
                    go_meet
                    exact ⟨acc ++ v, A2, L + v.length, c2, en, rfl, rfl, by omega, by omega, by omega, hTC⟩
              have f4 : ((cc.toNat : Int) == 123) = false := beq_eq_false_iff_ne.2 (u8_ne (n := 123) (by omega) q4)
              have hpn : ¬ (cc = 35 ∨ cc = 44 ∨ cc = 125) := by rintro (h | h | h); exact q1 h; exact q2 h; exact q3 h
              by_cases hnm : namedL cc = []
              · have CNe := fun W => CN.out cc W
                rw [hnm, show st [] = ⟨#[]⟩ from rfl] at CNe
                replace CNe := Lib.hid CNe; replace q1 := Lib.hid q1; replace q2 := Lib.hid q2; replace q3 := Lib.hid q3; replace q4 := Lib.hid q4; replace hpn := Lib.hid hpn; replace hnm := Lib.hid hnm
                have hstep := hRR.out.trans (tg_plain (ex := ex) (scs := scs) (acc := acc) (n := n) hc0.out (.inr (.inr ⟨cc, he.out, hpn.out, q4.out, hnm.out⟩)))
                replace hstep := Lib.hid hstep
                go_wp2_with fail
                refine (CNe.out _).mono ?_
                rintro e w1 ⟨rfl, rfl⟩
                go_wp2_with (at_builtin; refine ap35 rfl (.tmp 32) (.tmp 36) rfl w.heap.size (.slice A L c) L (bs acc) rfl (own_keep hO.out (World.grownBy_alloc _ _ none)) w1.heap.size c0 rfl (heap_alloc_new w1 _) (by omega) (Nat.le_trans hK.out.size (World.grownBy_alloc _ _ none).size) ?_; intro A2 c2 w2 h1 h2; replace h1 := Lib.hid h1; replace h2 := Lib.hid h2)
                obtain ⟨k1, k2⟩ := step_row hK.out hMk.out hB.out hO.out (World.grownBy_alloc _ _ none) h2.out
                have hTC : TC base mb ab0 deep scs ex s R w w2 (acc ++ [c0]) A2 (L + 1) c2 i := ⟨n, ab, cap, k1, k2, hab.out, by rw [← bs_snoc]; exact h1.out, by rw [List.length_append, hLl.out]; rfl, hstep.out⟩
                replace hTC := Lib.hid hTC; replace k1 := Lib.hid k1; replace k2 := Lib.hid k2
                go_wp2_with fail
                go_meet
                exact ⟨acc ++ [c0], A2, L + 1, c2, i, rfl, rfl, by omega, by omega, by omega, hTC⟩
              · obtain ⟨X, hX1⟩ : ∃ X, X = namedL cc := ⟨_, rfl⟩
                have CNe := fun W => CN.out cc W
                have hstep := hRR.out.trans (tg_named (ex := ex) (scs := scs) (acc := acc) (n := n) hc0.out h35.out he.out hpn q4 hnm)
                rw [← hX1] at CNe hnm hstep
                have hXe : (st X).toList.isEmpty = false := by rw [empty_iff]; simp [hnm]
                cases hvv : valueL scs X with
                | none => rw [hvv] at hstep; exact absurd hstep hno.out
                | some v0 =>
                  rw [hvv] at hstep
                  dsimp only at hstep
                  obtain ⟨v, hv⟩ : ∃ v, v = v0.getD [] := ⟨_, rfl⟩
                  rw [← hv] at hstep
                  by_cases hvl : v.length ≤ 1000000
                  · rw [if_pos hvl] at hstep
                    have hB1 : base ≤ wc.heap.size := Nat.le_trans hB.out hK.out.size
                    have CV := value_any base mb ab cap deep n scs X wc hMk.out hB1 (by have := hscs.out; omega) v0 hvv
                    unfold inV at CV
                    rw [← hv] at CV
                    obtain ⟨bb, hbb⟩ : ∃ bb, bb = v0.isSome := ⟨_, rfl⟩
                    rw [← hbb] at CV
                    obtain ⟨SX, hSX⟩ : ∃ SX, SX = st X := ⟨_, rfl⟩
                    rw [← hSX] at hXe CNe CV
                    replace hstep := Lib.hid hstep; replace CV := Lib.hid CV; replace CNe := Lib.hid CNe; replace hX1 := Lib.hid hX1; replace hnm := Lib.hid hnm; replace hvv := Lib.hid hvv; replace hv := Lib.hid hv; replace hbb := Lib.hid hbb; replace hSX := Lib.hid hSX; replace q1 := Lib.hid q1; replace q2 := Lib.hid q2; replace q3 := Lib.hid q3; replace q4 := Lib.hid q4; replace hpn := Lib.hid hpn; replace hB1 := Lib.hid hB1; replace hvl := Lib.hid hvl
                    go_wp2_with fail
                    refine (CNe.out _).mono ?_
                    rintro e w1 ⟨rfl, rfl⟩
                    go_wp2_with fail
                    refine (CNe.out _).mono ?_
                    rintro e w2 ⟨rfl, rfl⟩
                    go_wp2_with fail
                    refine CV.out.mono ?_
                    rintro e w3 ⟨rfl, G3⟩
                    replace G3 := Lib.hid G3
                    go_wp2_with (at_builtin; refine ap35s rfl (.tmp 86) (.tmp 87) rfl w.heap.size (.slice A L c) L (bs acc) rfl (own_keep hO.out G3.out) v rfl (by omega) (by have := hvl.out; omega) (Nat.le_trans hK.out.size G3.out.size) ?_; intro A2 c2 w4 h1 h2; replace h1 := Lib.hid h1; replace h2 := Lib.hid h2)
                    obtain ⟨k1, k2⟩ := step_row hK.out hMk.out hB.out hO.out G3.out h2.out
                    have hTC : TC base mb ab0 deep scs ex s R w w4 (acc ++ v) A2 (L + v.length) c2 (i + 1) := ⟨n, ab, cap, k1, k2, hab.out, by rw [show bs (acc ++ v) = bs acc ++ bs v from bs_append acc v]; exact h1.out, by rw [List.length_append, hLl.out], hstep.out⟩
                    replace hTC := Lib.hid hTC; replace k1 := Lib.hid k1; replace k2 := Lib.hid k2
                    have hvl2 := hvl.out
                    go_wp2_with fail
                    go_meet
                    exact ⟨acc ++ v, A2, L + v.length, c2, i + 1, rfl, rfl, by omega, by omega, by omega, hTC⟩
                  · rw [if_neg hvl] at hstep
                    exact absurd hstep hno.out
            · subst hz
              have CNe : Hid (∀ W, Calls Tryz.prog 39 #[.int .u8 0] W fun e w' => e = .returned (.string ⟨#[]⟩) ∧ w' = W) := Lib.hid fun W => CN.out 0 W
              have hstep := hRR.out.trans (tg_plain (ex := ex) (scs := scs) (acc := acc) (n := n) hc0.out (hno35.imp id fun h => .inl (by rw [← hlen.out]; exact h)))
              replace hstep := Lib.hid hstep
              go_wp2_with fail
              refine (CNe.out _).mono ?_
              rintro e w1 ⟨rfl, rfl⟩
              go_wp2_with (at_builtin; refine ap35 rfl (.tmp 32) (.tmp 36) rfl w.heap.size (.slice A L c) L (bs acc) rfl (own_keep hO.out (World.grownBy_alloc _ _ none)) w1.heap.size c0 rfl (heap_alloc_new w1 _) (by omega) (Nat.le_trans hK.out.size (World.grownBy_alloc _ _ none).size) ?_; intro A2 c2 w2 h1 h2; replace h1 := Lib.hid h1; replace h2 := Lib.hid h2)
              obtain ⟨k1, k2⟩ := step_row hK.out hMk.out hB.out hO.out (World.grownBy_alloc _ _ none) h2.out
              have hTC : TC base mb ab0 deep scs ex s R w w2 (acc ++ [c0]) A2 (L + 1) c2 i := ⟨n, ab, cap, k1, k2, hab.out, by rw [← bs_snoc]; exact h1.out, by rw [List.length_append, hLl.out]; rfl, hstep.out⟩
              replace hTC := Lib.hid hTC; replace k1 := Lib.hid k1; replace k2 := Lib.hid k2
              go_wp2_with fail
              go_meet
              exact ⟨acc ++ [c0], A2, L + 1, c2, i, rfl, rfl, by omega, by omega, by omega, hTC⟩
          case rest =>
            obtain ⟨acc', A', L', c', i', rfl, rfl, hii, hi', hL', hTC⟩ := hcut
            obtain ⟨n, ab, cap, hK, hMk, hab, hO, hLl, hRR⟩ := hTC.out
            have hwi' : IntKind.i64.wrap ((i' : Int) + 1) = ((i' + 1 : Nat) : Int) := by rw [IntKind.wrap_i64]; omega
            by_cases hle : L' ≤ 8192
            · have hlei : (L' : Int) ≤ 8192 := by omega
              have hTI : TI base mb ab0 deep scs ex s R w wc acc' A' L' c' (i' + 1) := ⟨n, ab, cap, hK, hMk, hab, hO, hLl, by rw [hRR]; unfold chk; rw [if_pos (by rw [← hLl]; exact hle)]⟩
              replace hTI := Lib.hid hTI; replace hK := Lib.hid hK; replace hMk := Lib.hid hMk; replace hab := Lib.hid hab; replace hO := Lib.hid hO; replace hLl := Lib.hid hLl; replace hRR := Lib.hid hRR; replace hc0 := Lib.hid hc0
              go_wp2_with fail
              refine (CM1.out 2 _).mono ?_
              rintro e w1 ⟨rfl, rfl⟩
              go_wp2_with fail
              exact ⟨⟨acc', A', L', c', i' + 1, rfl, rfl, by omega, hle, hTI⟩, by simp [intOf]; omega⟩
            · have hlei : ¬ ((L' : Int) ≤ 8192) := by omega
              have hRb : R = .bad 2 := by rw [hRR]; unfold chk; rw [if_neg (by rw [← hLl]; exact hle)]
              replace hK := Lib.hid hK; replace hMk := Lib.hid hMk; replace hab := Lib.hid hab; replace hO := Lib.hid hO; replace hLl := Lib.hid hLl; replace hRR := Lib.hid hRR; replace hc0 := Lib.hid hc0; replace hRb := Lib.hid hRb
              go_wp2_with fail
              refine (CM0.out 2 _).mono ?_
              rintro e w1 ⟨rfl, rfl⟩
              go_wp2_with fail
              refine ⟨rfl, ?_⟩
              rw [hRb.out]
              exact ⟨rfl, hK.out⟩
    · obtain ⟨n, ab, cap, hK, hMk, hab, hO, hLl, hRR⟩ := hI.out
      have hlti : ¬ ((i : Int) < (len : Int)) := by omega
      rw [tg_end (by rw [← hlen.out]; omega)] at hRR
      have hcv := conv_str (w := wr) (P := Tryz.prog) 35 9 5 Tryz.underlying35 Tryz.underlying5 Tryz.underlying9 A L c acc hLl (by
        obtain ⟨A2, c2, h1, h2, _⟩ := Rd.of_own hO
        injection h1 with h1
        rw [h1]; exact h2)
      replace hI := Lib.hid hI.out; replace hK := Lib.hid hK; replace hMk := Lib.hid hMk; replace hab := Lib.hid hab; replace hO := Lib.hid hO; replace hLl := Lib.hid hLl; replace hRR := Lib.hid hRR
      go_wp2_with fail
      go_ret
      rw [hRR.out]
      exact ⟨rfl, hK.out, ab, cap, hMk.out, hab.out⟩
end Go.Proofs.YtfhdfhlabkeipaaGreatDoor
