/- Format: FormatPlain returns true. -/
import Derived.Test.YtfhdfhlabkeipaaGreatDoorY4
namespace Go.Proofs.YtfhdfhlabkeipaaGreatDoor
open Go.RowKit
set_option linter.unusedSimpArgs false
set_option linter.unusedVariables false

theorem st_appP (a b : B) : st a ++ st b = st (a ++ b) := by
  apply ByteArray.ext
  simp [st]
theorem expand_none (w : World) (hTB : TB w.heap.size w) (s : B) (Av Al : Option Addr) (nv cv nl cl : Nat) (hno : expandL [none] s ≠ .no) :
    Calls Tryz.prog 10 #[.string (st s), .agg #[.slice Av nv cv, .slice Al nl cl]] w fun e w' => e = .returned (.tuple #[.string (st (outV (expandL [none] s)).1), .int .i64 (outV (expandL [none] s)).2]) ∧ w.grownBy w' none :=
  Expand_any allOk w hTB s none Av Al nv cv nl cl (fun sc h => by cases h) hno
theorem steps_none (w : World) (hTB : TB w.heap.size w) (s : B) (Av Al : Option Addr) (nv cv nl cl : Nat) (hno : expandL [none] s ≠ .no) :
    Calls Tryz.prog 16 #[.string (st s), .agg #[.slice Av nv cv, .slice Al nl cl]] w fun e w' => e = .returned (.tuple #[.int .i64 ((outN (expandL [none] s)).1 : Int), .int .i64 (outV (expandL [none] s)).2]) ∧ w.grownBy w' none :=
  Steps_any allOk w hTB s none Av Al nv cv nl cl (fun sc h => by cases h) hno
set_option maxRecDepth 100000 in
set_option maxHeartbeats 8000000 in
theorem plain_any (a : B) (Av Al : Option Addr) (nv cv nl cl : Nat) (w : World) (hTB : TB w.heap.size w) (ha : a.length ≤ 2000000) :
    Calls Tryz.prog 7 #[.string (st a), .agg #[.slice Av nv cv, .slice Al nl cl]] w fun e w' => e = .returned (.bool true) ∧ w.grownBy w' none := by
  have CQ : Hid (∀ W, Calls Tryz.prog 17 #[.string (st a)] W fun e w' => e = .returned (.string (st (quoL a))) ∧ W.grownBy w' none) := Lib.hid fun W => quoted_any a W ha
  have CS : Hid (∀ W, w.grownBy W none → Calls Tryz.prog 9 #[] W fun e w' => e = .returned (.bool true) ∧ W.grownBy w' none) := Lib.hid fun W g => shown_any W (hTB.up g)
  have CE : Hid (∀ (W : World) (s : B), w.grownBy W none → expandL [none] s ≠ .no → Calls Tryz.prog 10 #[.string (st s), .agg #[.slice Av nv cv, .slice Al nl cl]] W fun e w' => e = .returned (.tuple #[.string (st (outV (expandL [none] s)).1), .int .i64 (outV (expandL [none] s)).2]) ∧ W.grownBy w' none) := Lib.hid fun W s g h => expand_none W (hTB.up g) s Av Al nv cv nl cl h
  have CN : Hid (∀ (W : World) (s : B), w.grownBy W none → expandL [none] s ≠ .no → Calls Tryz.prog 16 #[.string (st s), .agg #[.slice Av nv cv, .slice Al nl cl]] W fun e w' => e = .returned (.tuple #[.int .i64 ((outN (expandL [none] s)).1 : Int), .int .i64 (outV (expandL [none] s)).2]) ∧ W.grownBy w' none) := Lib.hid fun W s g h => steps_none W (hTB.up g) s Av Al nv cv nl cl h
  obtain ⟨SA, hSA⟩ : ∃ S, S = st a := ⟨_, rfl⟩
  obtain ⟨la, hla⟩ : ∃ l, l = a.length := ⟨_, rfl⟩
  have hZA : SA.size = la := by rw [hSA, st_size, hla]
  obtain ⟨SQ, hSQ⟩ : ∃ S, S = st (quoL a) := ⟨_, rfl⟩
  obtain ⟨lq, hlq⟩ : ∃ l, l = (quoL a).length := ⟨_, rfl⟩
  have hZQ : SQ.size = lq := by rw [hSQ, st_size, hlq]
  have hlq2 : lq ≤ 4000000 := by have := quo_le a; omega
  rw [← hSA, ← hSQ] at CQ
  rw [← hSA]
  rw [← hla] at ha
  replace hSA := Lib.hid hSA; replace hla := Lib.hid hla; replace hSQ := Lib.hid hSQ; replace hlq := Lib.hid hlq; replace hTB := Lib.hid hTB
  go_enter Tryz.func7, Tryz.ntmps7
  go_wp2_with fail
  obtain ⟨W0, hW0⟩ : ∃ W, W = w.alloc (.cells #[.slice Av nv cv, .slice Al nl cl] 28) := ⟨_, rfl⟩
  obtain ⟨b0, hb0⟩ : ∃ b, b = w.heap.size := ⟨_, rfl⟩
  have hh0 : W0.heap[b0]? = some (.cells #[.slice Av nv cv, .slice Al nl cl] 28 (0, 0)) := by rw [hW0, hb0]; exact heap_alloc_new _ _
  have g0 : w.grownBy W0 none := by rw [hW0]; exact World.grownBy_alloc _ _ none
  rw [← hW0, ← hb0]
  replace hW0 := Lib.hid hW0; replace hb0 := Lib.hid hb0; replace g0 := Lib.hid g0; replace hh0 := Lib.hid hh0
  refine (CS.out _ g0.out).mono ?_
  rintro e W1 ⟨rfl, G1⟩
  have hh1 := (G1.block b0 (Array.getElem?_eq_some_iff.1 hh0.out).1 (by simp)).trans hh0.out
  have g1 := g0.out.trans G1
  have kW : ∀ W, W1.grownBy W none → W.cell? ⟨b0, 0, none⟩ = some (.slice Av nv cv) ∧ W.cell? ⟨b0, 1, none⟩ = some (.slice Al nl cl) := fun W g => by
    have h := (g.block b0 (Array.getElem?_eq_some_iff.1 hh1).1 (by simp)).trans hh1
    exact ⟨by rw [cell_of_heap h]; rfl, by rw [cell_of_heap h]; rfl⟩
  obtain ⟨base, hbase⟩ : ∃ b, b = W1.heap.size := ⟨_, rfl⟩
  replace G1 := Lib.hid G1; replace hh1 := Lib.hid hh1; replace g1 := Lib.hid g1; replace kW := Lib.hid kW; replace hbase := Lib.hid hbase
  go_wp2_with fail
  go_loopw [6, 7, 8] (fun bv sv iv wr => ∃ (i n sg : Nat) (A : Option Addr) (cp : Nat), bv = .slice A n cp ∧ sv = .int .i64 (sg : Int) ∧ iv = .int .i64 (i : Int) ∧ i ≤ la ∧ n ≤ 2 * i ∧ sg ≤ i ∧ Hid (n = (dblL (a.take i)).length ∧ (sg = 0 → dblL (a.take i) = a.take i) ∧ wr.ownsRow base 5 1 (.slice A n cp) n (bs (dblL (a.take i))) ∧ W1.grownBy wr none)) (fun _ _ iv _ => la - (intOf iv).toNat)
  case atStart => exact ⟨0, 0, 0, none, 0, rfl, rfl, rfl, Nat.zero_le _, Nat.zero_le _, Nat.zero_le _, Lib.hid ⟨rfl, fun _ => rfl, World.ownsRow_nil _ _ _ _, World.grownBy.refl _ _⟩⟩
  case round =>
    obtain ⟨i, n, sg, A, cp, rfl, rfl, rfl, hi, hn, hsg, hI⟩ := hrel
    obtain ⟨hnl, hsame, hO, hG⟩ := hI.out
    have hbW : base ≤ wr.heap.size := by rw [hbase.out]; exact hG.size
    by_cases hlt : i < la
    · have hlti : (i : Int) < (la : Int) := by omega
      obtain ⟨x, hx⟩ : ∃ x, a[i]? = some x := ⟨a[i]'(by rw [← hla.out]; exact hlt), List.getElem?_eq_getElem _⟩
      have hg := get_at hx hSA.out
      have hq := dbl_take a i hx
      have htk := take_at hx
      have hw1 : IntKind.i64.wrap ((i : Int) + 1) = ((i + 1 : Nat) : Int) := by rw [IntKind.wrap_i64]; omega
      have hws : IntKind.i64.wrap ((sg : Int) + 1) = ((sg + 1 : Nat) : Int) := by rw [IntKind.wrap_i64]; omega
      by_cases h35 : x = 35
      · subst h35
        have hq2 : dblL (a.take (i + 1)) = dblL (a.take i) ++ [35, 35] := by rw [hq, dbl_two]
        have hl2 : (dblL (a.take (i + 1))).length = n + 1 + 1 := by rw [hq2, List.length_append, ← hnl]; rfl
        replace hx := Lib.hid hx; replace hq := Lib.hid hq; replace hO := Lib.hid hO; replace hG := Lib.hid hG; replace hI := Lib.hid hI; replace hbW := Lib.hid hbW; replace hnl := Lib.hid hnl; replace hq2 := Lib.hid hq2; replace hl2 := Lib.hid hl2; replace htk := Lib.hid htk; replace hsame := Lib.hid hsame
        go_wp2_with (first
          | (at_builtin; refine ap35 rfl (.tmp 23) (.tmp 27) rfl base (.slice A n cp) n (bs (dblL (a.take i))) rfl (own_keep hO.out (World.grownBy_alloc _ _ none)) wr.heap.size 35 rfl (heap_alloc_new wr _) (by omega) (by exact Nat.le_trans hbW.out (World.grownBy_alloc _ _ none).size) ?_; intro A' c' w' q1 q2; have G2 := g_own (a' := wr) (g_alloc hG.out _) hO.out (by rw [hbase.out]; exact Nat.le_refl _) q2; replace q1 := Lib.hid q1; replace q2 := Lib.hid q2; replace G2 := Lib.hid G2)
          | (at_builtin; refine ap35 rfl (.tmp 33) (.tmp 34) rfl base (.slice A' (n + 1) c') (n + 1) (bs (dblL (a.take i)) ++ [b8 35]) rfl (own_keep q1.out (World.grownBy_alloc _ _ none)) w'.heap.size 35 rfl (heap_alloc_new w' _) (by omega) (by rw [hbase.out]; exact Nat.le_trans G2.out.size (World.grownBy_alloc _ _ none).size) ?_; intro A2 c2 w2 p1 p2; have G3 := g_own (a' := w') (g_alloc G2.out _) q1.out (by rw [hbase.out]; exact Nat.le_refl _) p2; replace p1 := Lib.hid p1; replace p2 := Lib.hid p2; replace G3 := Lib.hid G3))
        exact ⟨⟨i + 1, n + 1 + 1, sg + 1, A2, c2, rfl, by first | rfl | rw [hws], by first | rfl | rw [hw1], by omega, by omega, by omega, Lib.hid ⟨hl2.out.symm, fun h => by omega, by rw [hq2.out, bs_append]; have := p1.out; rw [List.append_assoc] at this; exact this, G3.out⟩⟩, by first | (simp [intOf]; done) | (simp [intOf]; omega)⟩
      · have hq2 : dblL (a.take (i + 1)) = dblL (a.take i) ++ [x] := by rw [hq, dbl_one h35]
        have e1 : ¬ ((x.toNat : Int) = 35) := u8_ne (n := 35) (by omega) h35
        have eb1 : ((x.toNat : Int) == 35) = false := by simpa using e1
        have hl2 : (dblL (a.take (i + 1))).length = n + 1 := by rw [hq2, List.length_append, ← hnl]; rfl
        have hs2 : sg = 0 → dblL (a.take (i + 1)) = a.take (i + 1) := fun h => by rw [hq2, htk, hsame h]
        replace hx := Lib.hid hx; replace hq := Lib.hid hq; replace hO := Lib.hid hO; replace hG := Lib.hid hG; replace hI := Lib.hid hI; replace hbW := Lib.hid hbW; replace hnl := Lib.hid hnl; replace hq2 := Lib.hid hq2; replace hl2 := Lib.hid hl2; replace h35 := Lib.hid h35; replace htk := Lib.hid htk; replace hsame := Lib.hid hsame; replace hs2 := Lib.hid hs2
        go_wp2_with (at_builtin; refine ap35 rfl (.tmp 23) (.tmp 27) rfl base (.slice A n cp) n (bs (dblL (a.take i))) rfl (own_keep hO.out (World.grownBy_alloc _ _ none)) wr.heap.size x rfl (heap_alloc_new wr _) (by omega) (by exact Nat.le_trans hbW.out (World.grownBy_alloc _ _ none).size) ?_; intro A2 c2 w2 p1 p2; have G3 := g_own (a' := wr) (g_alloc hG.out _) hO.out (by rw [hbase.out]; exact Nat.le_refl _) p2; replace p1 := Lib.hid p1; replace p2 := Lib.hid p2; replace G3 := Lib.hid G3)
        exact ⟨⟨i + 1, n + 1, sg, A2, c2, rfl, rfl, by first | rfl | rw [hw1], by omega, by omega, by omega, Lib.hid ⟨hl2.out.symm, hs2.out, by rw [hq2.out, bs_append]; exact p1.out, G3.out⟩⟩, by first | (simp [intOf]; done) | (simp [intOf]; omega)⟩
    · have hlti : ¬ ((i : Int) < (la : Int)) := by omega
      have hfull : a.take i = a := List.take_of_length_le (by rw [← hla.out]; omega)
      rw [hfull] at hO hnl hsame
      obtain ⟨A', cp', eA, hrd, _⟩ := Rd.of_own hO
      injection eA with eA _ ec
      subst eA
      subst ec
      obtain ⟨SD, hSD⟩ : ∃ S, S = st (dblL a) := ⟨_, rfl⟩
      have hcvG : ∀ W, wr.grownBy W none → (convert 35 9 (.slice A n cp)).run Tryz.prog W = .ok (.string SD) W := fun W g => by
        have := conv_str (P := Tryz.prog) W 35 9 5 Tryz.underlying35 Tryz.underlying5 Tryz.underlying9 A n cp (dblL a) hnl (hrd.grown g (.inl rfl))
        rw [← hSD] at this
        exact this
      have hgr : w.grownBy wr none := g1.out.trans hG
      obtain ⟨k0, k1⟩ := kW.out wr hG
      have hcv0 := hcvG wr (World.grownBy.refl _ _)
      have hno : expandL [none] (dblL a) ≠ .no := by
        by_cases h : (dblL a).length ≤ 8192
        · rw [plain_ok none a h]; simp
        · rw [long_bad _ _ h]; simp
      have CE1 := CE.out wr (dblL a) hgr hno
      have CN1 : ∀ W, wr.grownBy W none → _ := fun W g => CN.out W (dblL a) (hgr.trans g) hno
      rw [← hSD] at CE1 CN1
      by_cases hlong : n ≤ 8192
      · have hpl := plain_ok none a (by rw [← hnl]; exact hlong)
        rw [hpl] at CE1 CN1
        have hlg : ¬ ((8192 : Int) < (n : Int)) := by omega
        replace CE1 : Hid (Calls Tryz.prog 10 #[.string SD, .agg #[.slice Av nv cv, .slice Al nl cl]] wr fun e w' => e = .returned (.tuple #[.string (st a), .int .i64 0]) ∧ wr.grownBy w' none) := Lib.hid CE1
        replace CN1 : Hid (∀ W, wr.grownBy W none → Calls Tryz.prog 16 #[.string SD, .agg #[.slice Av nv cv, .slice Al nl cl]] W fun e w' => e = .returned (.tuple #[.int .i64 0, .int .i64 0]) ∧ W.grownBy w' none) := Lib.hid CN1
        rw [← hSA.out] at CE1
        obtain ⟨T, hT⟩ : ∃ T, T = [35, 123, 108, 58] ++ quoL a ++ [125] := ⟨_, rfl⟩
        have hqv : (lq + 5 ≤ 8192 ∧ expandL [none] T = .ok (quoL a) 1) ∨ (¬ lq + 5 ≤ 8192 ∧ expandL [none] T = .bad 2) := by
          by_cases h : lq + 5 ≤ 8192
          · exact .inl ⟨h, by rw [hT]; exact quo_ok none a (by rw [← hlq.out]; exact h)⟩
          · exact .inr ⟨h, long_bad _ _ (by rw [hT]; have := hlq.out; simp only [List.length_append, List.length_cons, List.length_nil]; omega)⟩
        have hnoq : expandL [none] T ≠ .no := by
          rcases hqv with ⟨_, h⟩ | ⟨_, h⟩ <;> rw [h] <;> simp
        have hstq : st T = ⟨#[35, 123, 108, 58]⟩ ++ SQ ++ ⟨#[125]⟩ := by rw [hT, hSQ.out, ← st_appP, ← st_appP]; rfl
        have CE2 : ∀ W, wr.grownBy W none → _ := fun W g => CE.out W T (hgr.trans g) hnoq
        rw [hstq] at CE2
        obtain ⟨V3, hV3⟩ : ∃ V, V = st (outV (expandL [none] T)).1 := ⟨_, rfl⟩
        obtain ⟨E3, hE3⟩ : ∃ V, V = (outV (expandL [none] T)).2 := ⟨_, rfl⟩
        rw [← hV3, ← hE3] at CE2
        have hz1 : ¬ (9223372036854775807 < 4 + lq) := by omega
        have hz2 : ¬ (9223372036854775807 < 4 + lq + 1) := by omega
        have hdd : sg = 0 → (SD.toList == SA.toList) = true := fun h => by rw [hSD, hSA.out, hsame h, beq_self_eq_true]
        have haa : (SA.toList == SA.toList) = true := beq_self_eq_true _
        have hqq : (SQ.toList == SQ.toList) = true := beq_self_eq_true _
        have hq5 : IntKind.i64.wrap ((lq : Int) + 5) = (lq : Int) + 5 := by rw [IntKind.wrap_i64]; omega
        have kg : ∀ W, wr.grownBy W none → W.cell? ⟨b0, 0, none⟩ = some (.slice Av nv cv) ∧ W.cell? ⟨b0, 1, none⟩ = some (.slice Al nl cl) := fun W g => kW.out W (hG.trans g)
        replace kg := Lib.hid kg
        replace hI := Lib.hid hI; replace hG := Lib.hid hG; replace hO := Lib.hid hO; replace hrd := Lib.hid hrd; replace hcvG := Lib.hid hcvG; replace hgr := Lib.hid hgr; replace hno := Lib.hid hno; replace hnl := Lib.hid hnl; replace hsame := Lib.hid hsame; replace hfull := Lib.hid hfull; replace hSD := Lib.hid hSD; replace hbW := Lib.hid hbW; replace hpl := Lib.hid hpl; replace hnoq := Lib.hid hnoq; replace hstq := Lib.hid hstq; replace CE2 := Lib.hid CE2; replace hdd := Lib.hid hdd; replace hqv := Lib.hid hqv; replace hV3 := Lib.hid hV3; replace hE3 := Lib.hid hE3; replace hT := Lib.hid hT
        go_wp2_with fail
        refine CE1.out.mono ?_
        rintro e w2 ⟨rfl, G2⟩
        obtain ⟨m0, m1⟩ := kg.out w2 G2
        have hcv1 := hcvG.out w2 G2
        replace G2 := Lib.hid G2
        go_wp2_with fail
        refine (CN1.out _ G2.out).mono ?_
        rintro e w3 ⟨rfl, G⟩
        have G3 := G2.out.trans G
        replace G3 := Lib.hid G3
        clear G m0 m1 hcv1
        go_upto_region 15 with fail
        obtain ⟨m0, m1⟩ := kg.out w3 G3.out
        go_region_held3 (fun w' => w'.cell? ⟨b0, 0, none⟩ = some (.slice Av nv cv) ∧ w'.cell? ⟨b0, 1, none⟩ = some (.slice Al nl cl)) (first | exact kg.out _ Gq | exact kg.out _ Ge | exact ⟨m0, m1⟩ | go_keep)
          ((first
            | (go_at_call 17; refine (CQ.out _).mono ?_; rintro e v1 ⟨rfl, Gq0⟩; have Gq := (g_drew G3.out).trans Gq0; replace Gq := Gq)
            | (go_at_call 10; refine (CE2.out _ Gq).mono ?_; rintro e v2 ⟨rfl, Ge0⟩; have Ge := Gq.trans Ge0)))
        all_goals
          have hcv2 := hcvG.out v2 Ge
          have GE := hgr.out.trans Ge
          replace Ge := Lib.hid Ge; replace GE := Lib.hid GE; replace Gq := Lib.hid Gq
          rcases hqv.out with ⟨h5, hv⟩ | ⟨h5, hv⟩
          · have hV : V3 = SQ := by rw [hV3.out, hv, hSQ.out]; rfl
            have hE : E3 = 0 := by rw [hE3.out, hv]; rfl
            subst hV
            subst hE
            have h5i : (lq : Int) + 5 ≤ 8192 := by omega
            replace hv := Lib.hid hv
            go_wp2_with fail
            refine (CQ.out _).mono ?_
            rintro e v3 ⟨rfl, Gv3⟩
            have hcv3 := hcvG.out v3 (Ge.out.trans Gv3)
            have G3' := GE.out.trans Gv3
            replace Gv3 := Lib.hid Gv3; replace G3' := Lib.hid G3'
            by_cases hs0 : sg = 0
            · have hd := hdd.out hs0
              subst hs0
              clear hsg
              go_wp2_with fail
              refine (CQ.out _).mono ?_
              rintro e v4 ⟨rfl, Gv4⟩
              have hcv4 := hcvG.out v4 ((Ge.out.trans Gv3.out).trans Gv4)
              have G4' := G3'.out.trans Gv4
              replace Gv4 := Lib.hid Gv4; replace G4' := Lib.hid G4'
              go_wp2_with fail
              go_ret
              exact ⟨by first | rfl | simp, G4'.out⟩
            · have hsi : (0 : Int) < (sg : Int) := by omega
              go_wp2_with fail
              refine (CQ.out _).mono ?_
              rintro e v4 ⟨rfl, Gv4⟩
              have hcv4 := hcvG.out v4 ((Ge.out.trans Gv3.out).trans Gv4)
              have G4' := G3'.out.trans Gv4
              replace Gv4 := Lib.hid Gv4; replace G4' := Lib.hid G4'
              go_wp2_with fail
              go_ret
              exact ⟨by first | rfl | simp, G4'.out⟩
          · have hV : V3 = ⟨#[]⟩ := by rw [hV3.out, hv]; rfl
            have hE : E3 = 2 := by rw [hE3.out, hv]; rfl
            subst hV
            subst hE
            have h5i : ¬ ((lq : Int) + 5 ≤ 8192) := by omega
            replace hv := Lib.hid hv
            go_wp2_with fail
            refine (CQ.out _).mono ?_
            rintro e v3 ⟨rfl, Gv3⟩
            have hcv3 := hcvG.out v3 (Ge.out.trans Gv3)
            have G3' := GE.out.trans Gv3
            replace Gv3 := Lib.hid Gv3; replace G3' := Lib.hid G3'
            by_cases hs0 : sg = 0
            · have hd := hdd.out hs0
              subst hs0
              clear hsg
              go_wp2_with fail
              go_ret
              exact ⟨by first | rfl | simp, G3'.out⟩
            · have hsi : (0 : Int) < (sg : Int) := by omega
              go_wp2_with fail
              go_ret
              exact ⟨by first | rfl | simp, G3'.out⟩
      · have hlg : (8192 : Int) < (n : Int) := by omega
        have hpl := long_bad [none] (dblL a) (by rw [← hnl]; exact hlong)
        rw [hpl] at CE1 CN1
        replace CE1 : Hid (Calls Tryz.prog 10 #[.string SD, .agg #[.slice Av nv cv, .slice Al nl cl]] wr fun e w' => e = .returned (.tuple #[.string ⟨#[]⟩, .int .i64 2]) ∧ wr.grownBy w' none) := Lib.hid CE1
        replace CN1 : Hid (∀ W, wr.grownBy W none → Calls Tryz.prog 16 #[.string SD, .agg #[.slice Av nv cv, .slice Al nl cl]] W fun e w' => e = .returned (.tuple #[.int .i64 0, .int .i64 2]) ∧ W.grownBy w' none) := Lib.hid CN1
        replace hI := Lib.hid hI; replace hG := Lib.hid hG; replace hO := Lib.hid hO; replace hrd := Lib.hid hrd; replace hcvG := Lib.hid hcvG; replace hgr := Lib.hid hgr; replace hno := Lib.hid hno; replace hnl := Lib.hid hnl; replace hsame := Lib.hid hsame; replace hfull := Lib.hid hfull; replace hSD := Lib.hid hSD; replace hbW := Lib.hid hbW; replace hpl := Lib.hid hpl
        go_wp2_with fail
        refine CE1.out.mono ?_
        rintro e w2 ⟨rfl, G2⟩
        obtain ⟨m0, m1⟩ := kW.out w2 (hG.out.trans G2)
        have hcv1 := hcvG.out w2 G2
        replace G2 := Lib.hid G2
        go_wp2_with fail
        refine (CN1.out _ G2.out).mono ?_
        rintro e w3 ⟨rfl, G3⟩
        have GF := (hgr.out.trans G2.out).trans G3
        replace G3 := Lib.hid G3; replace GF := Lib.hid GF
        go_wp2_with fail
        go_ret
        exact ⟨rfl, GF.out⟩
end Go.Proofs.YtfhdfhlabkeipaaGreatDoor
