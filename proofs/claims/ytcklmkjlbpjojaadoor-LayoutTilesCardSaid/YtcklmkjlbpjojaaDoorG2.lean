/- Layout: Beside. -/
import Derived.Test.YtcklmkjlbpjojaaDoorE2c
import Derived.Test.YtcklmkjlbpjojaaDoorK
namespace Go.Proofs.YtcklmkjlbpjojaaDoor
open Go.RowKit
set_option linter.unusedSimpArgs false
set_option linter.unusedVariables false

theorem g_drewN {w w' : World} {r : Option Nat} (h : w.grownBy w' r) (n : Nat) : w.grownBy (w'.drewN n) r := ⟨h.os, h.tape, h.output, h.size, h.block⟩
/-- Does k lie on the side i of n? -/
def touch (i : Nat) (k n : Nd) : Prop :=
  if i = 0 then k.x + k.a + 1 = n.x ∧ k.y < n.y + n.b ∧ n.y < k.y + k.b
  else if i = 1 then n.x + n.a + 1 = k.x ∧ n.y < k.y + k.b ∧ k.y < n.y + n.b
  else if i = 2 then k.y + k.b + 1 = n.y ∧ k.x < n.x + n.a ∧ n.x < k.x + k.a
  else n.y + n.b + 1 = k.y ∧ n.x < k.x + k.a ∧ k.x < n.x + n.a
def small (n : Nd) : Prop := (0 ≤ n.x ∧ n.x ≤ 1000) ∧ (0 ≤ n.y ∧ n.y ≤ 1000) ∧ (0 ≤ n.a ∧ n.a ≤ 1000) ∧ (0 ≤ n.b ∧ n.b ≤ 1000)
def sideOf (z : Int) : Option Nat := if z = 76 then some 0 else if z = 82 then some 1 else if z = 85 then some 2 else if z = 68 then some 3 else none
set_option maxRecDepth 100000 in
theorem ib_any (z : Int) (w : World) (h0 : 0 ≤ z) (h1 : z ≤ 255) : Calls Tryd.prog 40 #[.string ⟨#[76, 82, 85, 68]⟩, .int .u8 z] w fun e w' => e = .returned (.int .i64 (match sideOf z with | some i => (i : Int) | none => -1)) ∧ w' = w := by
  refine (Tryd.strings_IndexByte _ z w).mono ?_
  rintro e w' ⟨rfl, rfl⟩
  refine ⟨?_, rfl⟩
  congr 2
  have : ∀ n : Fin 256, Lib.indexByte [76, 82, 85, 68] ((n.val : Int).toNat.toUInt8) = (match sideOf (n.val : Int) with | some i => (i : Int) | none => -1) := by decide
  have h2 := this ⟨z.toNat, by omega⟩
  have e : ((⟨z.toNat, by omega⟩ : Fin 256).val : Int) = z := by show (z.toNat : Int) = z; omega
  rw [e] at h2
  exact h2
theorem besideNo_any (base tr : Nat) (t : T) (pane z : Int) (w : World) (hT : Tr base w tr t) (hl : t.leaves.length ≤ 100000) (h0 : 0 ≤ z) (h1 : z ≤ 255) (hs : sideOf z = none) :
    Calls Tryd.prog 16 #[ptr tr, .int .i64 pane, .int .u8 z] w fun e w' => e = .returned (.int .i64 0) ∧ w.grownBy w' none := by
  have CA := Lib.hid (leaf_any base tr t pane w hT hl)
  have CI := Lib.hid (fun W => ib_any z W h0 h1)
  rw [hs] at CI
  replace hT := Lib.hid hT; replace hs := Lib.hid hs
  cases hf : t.find pane
  all_goals
    rw [hf] at CA
    simp only [Option.map_none, Option.map_some, uptr] at CA
    replace hf := Lib.hid hf
    unfold ptr at *
    go_enter Tryd.func16, Tryd.ntmps16
    go_wp2_with fail
    refine CA.out.mono ?_
    rintro e w1 ⟨rfl, G1⟩
    go_wp2_with fail
    refine (CI.out _).mono ?_
    rintro e w2 ⟨rfl, rfl⟩
    go_wp2_with fail
    go_ret
    exact ⟨rfl, G1⟩
set_option maxHeartbeats 4000000 in
set_option maxRecDepth 100000 in
theorem beside_any (base tr : Nat) (t n : T) (pane z : Int) (i : Nat) (w : World) (hT : Tr base w tr t) (hl : t.leaves.length ≤ 100000) (h0 : 0 ≤ z) (h1 : z ≤ 255) (hs : sideOf z = some i) (hn : t.find pane = some n) (hsm : ∀ s ∈ t.leaves, small s.n) :
    Calls Tryd.prog 16 #[ptr tr, .int .i64 pane, .int .u8 z] w fun e w' => ∃ r : Int, e = .returned (.int .i64 r) ∧ w.grownBy w' none ∧ ((r = 0 ∧ ∀ s ∈ t.leaves, ¬ touch i s.n n.n) ∨ ∃ s ∈ t.leaves, touch i s.n n.n ∧ r = s.n.p) := by
  have CA := Lib.hid (leaf_any base tr t pane w hT hl)
  have CI := Lib.hid (fun W => ib_any z W h0 h1)
  have CL := Lib.hid (fun W (hg : w.grownBy W none) => all_any base tr t W (hT.grown hg) hl)
  rw [hn] at CA
  rw [hs] at CI
  simp only [Option.map_some, uptr] at CA
  have hni := List.mem_of_find?_eq_some hn
  obtain ⟨len, hln⟩ : ∃ len, len = t.leaves.length := ⟨_, rfl⟩
  rw [← hln] at CL hl
  replace hT := Lib.hid hT; replace hsm := Lib.hid hsm; replace hni := Lib.hid hni; replace hn := Lib.hid hn; replace hln := Lib.hid hln
  have hi : i = 0 ∨ i = 1 ∨ i = 2 ∨ i = 3 := by
    unfold sideOf at hs
    split at hs
    · injection hs; omega
    split at hs
    · injection hs; omega
    split at hs
    · injection hs; omega
    split at hs
    · injection hs; omega
    · cases hs
  replace hs := Lib.hid hs
  rcases hi with rfl | rfl | rfl | rfl
  · unfold ptr at *
    go_enter Tryd.func16, Tryd.ntmps16
    go_wp2_with fail
    refine CA.out.mono ?_
    rintro e w1 ⟨rfl, G1⟩
    go_wp2_with fail
    refine (CI.out _).mono ?_
    rintro e w2 ⟨rfl, rfl⟩
    go_wp2_with fail
    refine (CL.out _ G1).mono ?_
    rintro e w3 ⟨A, c, rfl, hO, G3⟩
    have G13 := G1.trans G3
    have hR := own_Rd hO
    have hT3 := hT.out.grown G13
    replace hO := Lib.hid hO; replace hR := Lib.hid hR; replace hT3 := Lib.hid hT3; replace G13 := Lib.hid G13; replace G3 := Lib.hid G3; replace G1 := Lib.hid G1
    clear CA CI CL
    go_wp2_with fail
    go_loopw [34] (fun iv wr => ∃ j : Nat, j ≤ len ∧ iv = .int .i64 j ∧ Hid (w3.grownBy wr none ∧ ∀ s ∈ t.leaves.take j, ¬ touch 0 s.n n.n)) (fun iv _ => len - (intOf iv).toNat)
    case atStart => exact ⟨0, Nat.zero_le _, rfl, Lib.hid ⟨World.grownBy.refl _ _, by simp⟩⟩
    case round =>
      obtain ⟨j, hj, rfl, hI⟩ := hrel
      by_cases hlt : j < len
      · obtain ⟨s, hs⟩ : ∃ s, t.leaves[j]? = some s := ⟨t.leaves[j]'(by rw [← hln.out]; exact hlt), List.getElem?_eq_getElem _⟩
        obtain ⟨b, off, rfl, _, hcell⟩ := hR.out.at_ (j := j) (u := ptr s.g) (by simp [ptrs, hs])
        have hc2 := hI.out.1.cell hcell (by simp)
        obtain ⟨up', hsT, _, _⟩ := mem_leaves t wr none (hT3.out.p.grown hI.out.1) s (List.mem_of_getElem? hs)
        obtain ⟨up2, hnT, _, _⟩ := mem_leaves t wr none (hT3.out.p.grown hI.out.1) n hni.out
        have hsA : At wr up' s.n s.ks := by cases s; exact hsT.at_
        have hnA : At wr up2 n.n n.ks := by cases n; exact hnT.at_
        have q1 := hsA.c1; have q2 := hsA.c2; have q3 := hsA.c3; have q4 := hsA.c4; have q0 := hsA.c0
        have r1 := hnA.c1; have r2 := hnA.c2; have r3 := hnA.c3; have r4 := hnA.c4
        have hsg : s.n.g = s.g := rfl
        have hng : n.n.g = n.g := rfl
        rw [hsg] at q0 q1 q2 q3 q4
        rw [hng] at r1 r2 r3 r4
        obtain ⟨⟨b1, b2⟩, ⟨b3, b4⟩, ⟨b5, b6⟩, ⟨b7, b8⟩⟩ := hsm.out s (List.mem_of_getElem? hs)
        obtain ⟨⟨d1, d2⟩, ⟨d3, d4⟩, ⟨d5, d6⟩, ⟨d7, d8⟩⟩ := hsm.out n hni.out
        obtain ⟨sp, spp⟩ : ∃ sp, sp = s.n.p := ⟨_, rfl⟩
        rw [← spp] at q0
        obtain ⟨sx, sxx⟩ : ∃ sx, sx = s.n.x := ⟨_, rfl⟩
        obtain ⟨sy, syy⟩ : ∃ sy, sy = s.n.y := ⟨_, rfl⟩
        obtain ⟨sa, saa⟩ : ∃ sa, sa = s.n.a := ⟨_, rfl⟩
        obtain ⟨sb, sbb⟩ : ∃ sb, sb = s.n.b := ⟨_, rfl⟩
        obtain ⟨mx, mxx⟩ : ∃ mx, mx = n.n.x := ⟨_, rfl⟩
        obtain ⟨my, myy⟩ : ∃ my, my = n.n.y := ⟨_, rfl⟩
        obtain ⟨ma, maa⟩ : ∃ ma, ma = n.n.a := ⟨_, rfl⟩
        obtain ⟨mb, mbb⟩ : ∃ mb, mb = n.n.b := ⟨_, rfl⟩
        have htc : touch 0 s.n n.n ↔ sx + sa + 1 = mx ∧ sy < my + mb ∧ my < sy + sb := by
          subst sxx syy saa sbb mxx myy maa mbb; exact Iff.rfl
        rw [← sxx] at q1 b1 b2; rw [← syy] at q2 b3 b4; rw [← saa] at q3 b5 b6; rw [← sbb] at q4 b7 b8
        rw [← mxx] at r1 d1 d2; rw [← myy] at r2 d3 d4; rw [← maa] at r3 d5 d6; rw [← mbb] at r4 d7 d8
        have hnot : ¬ touch 0 s.n n.n → ∀ s' ∈ t.leaves.take (j + 1), ¬ touch 0 s'.n n.n := by
          intro hno
          rw [take_succ' hs]
          intro s' hs'
          rcases List.mem_append.1 hs' with h | h
          · exact hI.out.2 s' h
          · simp only [List.mem_singleton] at h; subst h; exact hno
        obtain ⟨TO, hTO⟩ : ∃ TO, TO = touch 0 s.n n.n := ⟨_, rfl⟩
        rw [← hTO] at htc hnot
        have hc : ¬ (sx + sa + 1 = mx ∧ sy < my + mb ∧ my < sy + sb) → ¬ TO := fun h k => h (htc.1 k)
        replace hTO := Lib.hid hTO; replace hs := Lib.hid hs; replace hsA := Lib.hid hsA; replace hnA := Lib.hid hnA; replace hsT := Lib.hid hsT; replace hnT := Lib.hid hnT; replace spp := Lib.hid spp; replace hnot := Lib.hid hnot
        replace sxx := Lib.hid sxx; replace syy := Lib.hid syy; replace saa := Lib.hid saa; replace sbb := Lib.hid sbb
        replace mxx := Lib.hid mxx; replace myy := Lib.hid myy; replace maa := Lib.hid maa; replace mbb := Lib.hid mbb
        clear hcell hsg hng
        unfold ptr at hc2
        have ws1 : IntKind.i64.wrap (sx + sa) = sx + sa := by rw [IntKind.wrap_i64]; omega
        have ws2 : IntKind.i64.wrap (sx + sa + 1) = sx + sa + 1 := by rw [IntKind.wrap_i64]; omega
        have ws3 : IntKind.i64.wrap (my + mb) = my + mb := by rw [IntKind.wrap_i64]; omega
        have ws4 : IntKind.i64.wrap (sy + sb) = sy + sb := by rw [IntKind.wrap_i64]; omega
        replace htc := Lib.hid htc
        by_cases c1 : sx + sa + 1 = mx
        · by_cases c2 : sy < my + mb
          · by_cases c3 : my < sy + sb
            · clear hc
              have k1 : (sx + sa + 1 == mx) = true := by simp [c1]
              have k2 : decide (sy < my + mb) = true := by simp [c2]
              have k3 : decide (my < sy + sb) = true := by simp [c3]
              go_upto_region 12 with fail
              dsimp only [List.append]
              go_big_quiet (fail)
              go_wp2_with fail
              go_ret
              exact ⟨_, rfl, G13.out.trans (g_drewN hI.out.1 _), .inr ⟨s, List.mem_of_getElem? hs.out, by rw [← hTO.out]; exact htc.out.2 ⟨c1, c2, c3⟩, spp.out⟩⟩
            · replace hc := Lib.hid (hc (fun h => c3 h.2.2))
              have k1 : (sx + sa + 1 == mx) = true := by simp [c1]
              have k2 : decide (sy < my + mb) = true := by simp [c2]
              have k3 : decide (my < sy + sb) = false := by simp; omega
              go_upto_region 12 with fail
              dsimp only [List.append]
              go_big_quiet (fail)
              go_wp2_with fail
              refine ⟨⟨j + 1, by omega, by go_num, Lib.hid ⟨g_drewN hI.out.1 _, ?_⟩⟩, by simp [intOf]; omega⟩
              exact hnot.out hc.out
          · replace hc := Lib.hid (hc (fun h => c2 h.2.1))
            have k1 : (sx + sa + 1 == mx) = true := by simp [c1]
            have k2 : decide (sy < my + mb) = false := by simp; omega
            go_upto_region 12 with fail
            dsimp only [List.append]
            go_big_quiet (fail)
            go_wp2_with fail
            refine ⟨⟨j + 1, by omega, by go_num, Lib.hid ⟨g_drewN hI.out.1 _, ?_⟩⟩, by simp [intOf]; omega⟩
            exact hnot.out hc.out
        · replace hc := Lib.hid (hc (fun h => c1 h.1))
          have k1 : (sx + sa + 1 == mx) = false := by simp [c1]
          go_upto_region 12 with fail
          dsimp only [List.append]
          go_big_quiet (fail)
          go_wp2_with fail
          refine ⟨⟨j + 1, by omega, by go_num, Lib.hid ⟨g_drewN hI.out.1 _, ?_⟩⟩, by simp [intOf]; omega⟩
          exact hnot.out hc.out
      · have : j = len := by omega
        subst this
        go_wp2_with fail
        go_ret
        refine ⟨0, rfl, G13.out.trans hI.out.1, .inl ⟨rfl, ?_⟩⟩
        have := hI.out.2
        rwa [List.take_of_length_le (by rw [hln.out]; exact Nat.le_refl _)] at this
  · unfold ptr at *
    go_enter Tryd.func16, Tryd.ntmps16
    go_wp2_with fail
    refine CA.out.mono ?_
    rintro e w1 ⟨rfl, G1⟩
    go_wp2_with fail
    refine (CI.out _).mono ?_
    rintro e w2 ⟨rfl, rfl⟩
    go_wp2_with fail
    refine (CL.out _ G1).mono ?_
    rintro e w3 ⟨A, c, rfl, hO, G3⟩
    have G13 := G1.trans G3
    have hR := own_Rd hO
    have hT3 := hT.out.grown G13
    replace hO := Lib.hid hO; replace hR := Lib.hid hR; replace hT3 := Lib.hid hT3; replace G13 := Lib.hid G13; replace G3 := Lib.hid G3; replace G1 := Lib.hid G1
    clear CA CI CL
    go_wp2_with fail
    go_loopw [34] (fun iv wr => ∃ j : Nat, j ≤ len ∧ iv = .int .i64 j ∧ Hid (w3.grownBy wr none ∧ ∀ s ∈ t.leaves.take j, ¬ touch 1 s.n n.n)) (fun iv _ => len - (intOf iv).toNat)
    case atStart => exact ⟨0, Nat.zero_le _, rfl, Lib.hid ⟨World.grownBy.refl _ _, by simp⟩⟩
    case round =>
      obtain ⟨j, hj, rfl, hI⟩ := hrel
      by_cases hlt : j < len
      · obtain ⟨s, hs⟩ : ∃ s, t.leaves[j]? = some s := ⟨t.leaves[j]'(by rw [← hln.out]; exact hlt), List.getElem?_eq_getElem _⟩
        obtain ⟨b, off, rfl, _, hcell⟩ := hR.out.at_ (j := j) (u := ptr s.g) (by simp [ptrs, hs])
        have hc2 := hI.out.1.cell hcell (by simp)
        obtain ⟨up', hsT, _, _⟩ := mem_leaves t wr none (hT3.out.p.grown hI.out.1) s (List.mem_of_getElem? hs)
        obtain ⟨up2, hnT, _, _⟩ := mem_leaves t wr none (hT3.out.p.grown hI.out.1) n hni.out
        have hsA : At wr up' s.n s.ks := by cases s; exact hsT.at_
        have hnA : At wr up2 n.n n.ks := by cases n; exact hnT.at_
        have q1 := hsA.c1; have q2 := hsA.c2; have q3 := hsA.c3; have q4 := hsA.c4; have q0 := hsA.c0
        have r1 := hnA.c1; have r2 := hnA.c2; have r3 := hnA.c3; have r4 := hnA.c4
        have hsg : s.n.g = s.g := rfl
        have hng : n.n.g = n.g := rfl
        rw [hsg] at q0 q1 q2 q3 q4
        rw [hng] at r1 r2 r3 r4
        obtain ⟨⟨b1, b2⟩, ⟨b3, b4⟩, ⟨b5, b6⟩, ⟨b7, b8⟩⟩ := hsm.out s (List.mem_of_getElem? hs)
        obtain ⟨⟨d1, d2⟩, ⟨d3, d4⟩, ⟨d5, d6⟩, ⟨d7, d8⟩⟩ := hsm.out n hni.out
        obtain ⟨sp, spp⟩ : ∃ sp, sp = s.n.p := ⟨_, rfl⟩
        rw [← spp] at q0
        obtain ⟨sx, sxx⟩ : ∃ sx, sx = s.n.x := ⟨_, rfl⟩
        obtain ⟨sy, syy⟩ : ∃ sy, sy = s.n.y := ⟨_, rfl⟩
        obtain ⟨sa, saa⟩ : ∃ sa, sa = s.n.a := ⟨_, rfl⟩
        obtain ⟨sb, sbb⟩ : ∃ sb, sb = s.n.b := ⟨_, rfl⟩
        obtain ⟨mx, mxx⟩ : ∃ mx, mx = n.n.x := ⟨_, rfl⟩
        obtain ⟨my, myy⟩ : ∃ my, my = n.n.y := ⟨_, rfl⟩
        obtain ⟨ma, maa⟩ : ∃ ma, ma = n.n.a := ⟨_, rfl⟩
        obtain ⟨mb, mbb⟩ : ∃ mb, mb = n.n.b := ⟨_, rfl⟩
        have htc : touch 1 s.n n.n ↔ mx + ma + 1 = sx ∧ my < sy + sb ∧ sy < my + mb := by
          subst sxx syy saa sbb mxx myy maa mbb; exact Iff.rfl
        rw [← sxx] at q1 b1 b2; rw [← syy] at q2 b3 b4; rw [← saa] at q3 b5 b6; rw [← sbb] at q4 b7 b8
        rw [← mxx] at r1 d1 d2; rw [← myy] at r2 d3 d4; rw [← maa] at r3 d5 d6; rw [← mbb] at r4 d7 d8
        have hnot : ¬ touch 1 s.n n.n → ∀ s' ∈ t.leaves.take (j + 1), ¬ touch 1 s'.n n.n := by
          intro hno
          rw [take_succ' hs]
          intro s' hs'
          rcases List.mem_append.1 hs' with h | h
          · exact hI.out.2 s' h
          · simp only [List.mem_singleton] at h; subst h; exact hno
        obtain ⟨TO, hTO⟩ : ∃ TO, TO = touch 1 s.n n.n := ⟨_, rfl⟩
        rw [← hTO] at htc hnot
        have hc : ¬ (mx + ma + 1 = sx ∧ my < sy + sb ∧ sy < my + mb) → ¬ TO := fun h k => h (htc.1 k)
        replace hTO := Lib.hid hTO; replace hs := Lib.hid hs; replace hsA := Lib.hid hsA; replace hnA := Lib.hid hnA; replace hsT := Lib.hid hsT; replace hnT := Lib.hid hnT; replace spp := Lib.hid spp; replace hnot := Lib.hid hnot
        replace sxx := Lib.hid sxx; replace syy := Lib.hid syy; replace saa := Lib.hid saa; replace sbb := Lib.hid sbb
        replace mxx := Lib.hid mxx; replace myy := Lib.hid myy; replace maa := Lib.hid maa; replace mbb := Lib.hid mbb
        clear hcell hsg hng
        unfold ptr at hc2
        have ws1 : IntKind.i64.wrap (mx + ma) = mx + ma := by rw [IntKind.wrap_i64]; omega
        have ws2 : IntKind.i64.wrap (mx + ma + 1) = mx + ma + 1 := by rw [IntKind.wrap_i64]; omega
        have ws3 : IntKind.i64.wrap (sy + sb) = sy + sb := by rw [IntKind.wrap_i64]; omega
        have ws4 : IntKind.i64.wrap (my + mb) = my + mb := by rw [IntKind.wrap_i64]; omega
        replace htc := Lib.hid htc
        by_cases c1 : mx + ma + 1 = sx
        · by_cases c2 : my < sy + sb
          · by_cases c3 : sy < my + mb
            · clear hc
              have k1 : (mx + ma + 1 == sx) = true := by simp [c1]
              have k2 : decide (my < sy + sb) = true := by simp [c2]
              have k3 : decide (sy < my + mb) = true := by simp [c3]
              go_upto_region 12 with fail
              dsimp only [List.append]
              go_big_quiet (fail)
              go_wp2_with fail
              go_ret
              exact ⟨_, rfl, G13.out.trans (g_drewN hI.out.1 _), .inr ⟨s, List.mem_of_getElem? hs.out, by rw [← hTO.out]; exact htc.out.2 ⟨c1, c2, c3⟩, spp.out⟩⟩
            · replace hc := Lib.hid (hc (fun h => c3 h.2.2))
              have k1 : (mx + ma + 1 == sx) = true := by simp [c1]
              have k2 : decide (my < sy + sb) = true := by simp [c2]
              have k3 : decide (sy < my + mb) = false := by simp; omega
              go_upto_region 12 with fail
              dsimp only [List.append]
              go_big_quiet (fail)
              go_wp2_with fail
              refine ⟨⟨j + 1, by omega, by go_num, Lib.hid ⟨g_drewN hI.out.1 _, ?_⟩⟩, by simp [intOf]; omega⟩
              exact hnot.out hc.out
          · replace hc := Lib.hid (hc (fun h => c2 h.2.1))
            have k1 : (mx + ma + 1 == sx) = true := by simp [c1]
            have k2 : decide (my < sy + sb) = false := by simp; omega
            go_upto_region 12 with fail
            dsimp only [List.append]
            go_big_quiet (fail)
            go_wp2_with fail
            refine ⟨⟨j + 1, by omega, by go_num, Lib.hid ⟨g_drewN hI.out.1 _, ?_⟩⟩, by simp [intOf]; omega⟩
            exact hnot.out hc.out
        · replace hc := Lib.hid (hc (fun h => c1 h.1))
          have k1 : (mx + ma + 1 == sx) = false := by simp [c1]
          go_upto_region 12 with fail
          dsimp only [List.append]
          go_big_quiet (fail)
          go_wp2_with fail
          refine ⟨⟨j + 1, by omega, by go_num, Lib.hid ⟨g_drewN hI.out.1 _, ?_⟩⟩, by simp [intOf]; omega⟩
          exact hnot.out hc.out
      · have : j = len := by omega
        subst this
        go_wp2_with fail
        go_ret
        refine ⟨0, rfl, G13.out.trans hI.out.1, .inl ⟨rfl, ?_⟩⟩
        have := hI.out.2
        rwa [List.take_of_length_le (by rw [hln.out]; exact Nat.le_refl _)] at this
  · unfold ptr at *
    go_enter Tryd.func16, Tryd.ntmps16
    go_wp2_with fail
    refine CA.out.mono ?_
    rintro e w1 ⟨rfl, G1⟩
    go_wp2_with fail
    refine (CI.out _).mono ?_
    rintro e w2 ⟨rfl, rfl⟩
    go_wp2_with fail
    refine (CL.out _ G1).mono ?_
    rintro e w3 ⟨A, c, rfl, hO, G3⟩
    have G13 := G1.trans G3
    have hR := own_Rd hO
    have hT3 := hT.out.grown G13
    replace hO := Lib.hid hO; replace hR := Lib.hid hR; replace hT3 := Lib.hid hT3; replace G13 := Lib.hid G13; replace G3 := Lib.hid G3; replace G1 := Lib.hid G1
    clear CA CI CL
    go_wp2_with fail
    go_loopw [34] (fun iv wr => ∃ j : Nat, j ≤ len ∧ iv = .int .i64 j ∧ Hid (w3.grownBy wr none ∧ ∀ s ∈ t.leaves.take j, ¬ touch 2 s.n n.n)) (fun iv _ => len - (intOf iv).toNat)
    case atStart => exact ⟨0, Nat.zero_le _, rfl, Lib.hid ⟨World.grownBy.refl _ _, by simp⟩⟩
    case round =>
      obtain ⟨j, hj, rfl, hI⟩ := hrel
      by_cases hlt : j < len
      · obtain ⟨s, hs⟩ : ∃ s, t.leaves[j]? = some s := ⟨t.leaves[j]'(by rw [← hln.out]; exact hlt), List.getElem?_eq_getElem _⟩
        obtain ⟨b, off, rfl, _, hcell⟩ := hR.out.at_ (j := j) (u := ptr s.g) (by simp [ptrs, hs])
        have hc2 := hI.out.1.cell hcell (by simp)
        obtain ⟨up', hsT, _, _⟩ := mem_leaves t wr none (hT3.out.p.grown hI.out.1) s (List.mem_of_getElem? hs)
        obtain ⟨up2, hnT, _, _⟩ := mem_leaves t wr none (hT3.out.p.grown hI.out.1) n hni.out
        have hsA : At wr up' s.n s.ks := by cases s; exact hsT.at_
        have hnA : At wr up2 n.n n.ks := by cases n; exact hnT.at_
        have q1 := hsA.c1; have q2 := hsA.c2; have q3 := hsA.c3; have q4 := hsA.c4; have q0 := hsA.c0
        have r1 := hnA.c1; have r2 := hnA.c2; have r3 := hnA.c3; have r4 := hnA.c4
        have hsg : s.n.g = s.g := rfl
        have hng : n.n.g = n.g := rfl
        rw [hsg] at q0 q1 q2 q3 q4
        rw [hng] at r1 r2 r3 r4
        obtain ⟨⟨b1, b2⟩, ⟨b3, b4⟩, ⟨b5, b6⟩, ⟨b7, b8⟩⟩ := hsm.out s (List.mem_of_getElem? hs)
        obtain ⟨⟨d1, d2⟩, ⟨d3, d4⟩, ⟨d5, d6⟩, ⟨d7, d8⟩⟩ := hsm.out n hni.out
        obtain ⟨sp, spp⟩ : ∃ sp, sp = s.n.p := ⟨_, rfl⟩
        rw [← spp] at q0
        obtain ⟨sx, sxx⟩ : ∃ sx, sx = s.n.x := ⟨_, rfl⟩
        obtain ⟨sy, syy⟩ : ∃ sy, sy = s.n.y := ⟨_, rfl⟩
        obtain ⟨sa, saa⟩ : ∃ sa, sa = s.n.a := ⟨_, rfl⟩
        obtain ⟨sb, sbb⟩ : ∃ sb, sb = s.n.b := ⟨_, rfl⟩
        obtain ⟨mx, mxx⟩ : ∃ mx, mx = n.n.x := ⟨_, rfl⟩
        obtain ⟨my, myy⟩ : ∃ my, my = n.n.y := ⟨_, rfl⟩
        obtain ⟨ma, maa⟩ : ∃ ma, ma = n.n.a := ⟨_, rfl⟩
        obtain ⟨mb, mbb⟩ : ∃ mb, mb = n.n.b := ⟨_, rfl⟩
        have htc : touch 2 s.n n.n ↔ sy + sb + 1 = my ∧ sx < mx + ma ∧ mx < sx + sa := by
          subst sxx syy saa sbb mxx myy maa mbb; exact Iff.rfl
        rw [← sxx] at q1 b1 b2; rw [← syy] at q2 b3 b4; rw [← saa] at q3 b5 b6; rw [← sbb] at q4 b7 b8
        rw [← mxx] at r1 d1 d2; rw [← myy] at r2 d3 d4; rw [← maa] at r3 d5 d6; rw [← mbb] at r4 d7 d8
        have hnot : ¬ touch 2 s.n n.n → ∀ s' ∈ t.leaves.take (j + 1), ¬ touch 2 s'.n n.n := by
          intro hno
          rw [take_succ' hs]
          intro s' hs'
          rcases List.mem_append.1 hs' with h | h
          · exact hI.out.2 s' h
          · simp only [List.mem_singleton] at h; subst h; exact hno
        obtain ⟨TO, hTO⟩ : ∃ TO, TO = touch 2 s.n n.n := ⟨_, rfl⟩
        rw [← hTO] at htc hnot
        have hc : ¬ (sy + sb + 1 = my ∧ sx < mx + ma ∧ mx < sx + sa) → ¬ TO := fun h k => h (htc.1 k)
        replace hTO := Lib.hid hTO; replace hs := Lib.hid hs; replace hsA := Lib.hid hsA; replace hnA := Lib.hid hnA; replace hsT := Lib.hid hsT; replace hnT := Lib.hid hnT; replace spp := Lib.hid spp; replace hnot := Lib.hid hnot
        replace sxx := Lib.hid sxx; replace syy := Lib.hid syy; replace saa := Lib.hid saa; replace sbb := Lib.hid sbb
        replace mxx := Lib.hid mxx; replace myy := Lib.hid myy; replace maa := Lib.hid maa; replace mbb := Lib.hid mbb
        clear hcell hsg hng
        unfold ptr at hc2
        have ws1 : IntKind.i64.wrap (sy + sb) = sy + sb := by rw [IntKind.wrap_i64]; omega
        have ws2 : IntKind.i64.wrap (sy + sb + 1) = sy + sb + 1 := by rw [IntKind.wrap_i64]; omega
        have ws3 : IntKind.i64.wrap (mx + ma) = mx + ma := by rw [IntKind.wrap_i64]; omega
        have ws4 : IntKind.i64.wrap (sx + sa) = sx + sa := by rw [IntKind.wrap_i64]; omega
        replace htc := Lib.hid htc
        by_cases c1 : sy + sb + 1 = my
        · by_cases c2 : sx < mx + ma
          · by_cases c3 : mx < sx + sa
            · clear hc
              have k1 : (sy + sb + 1 == my) = true := by simp [c1]
              have k2 : decide (sx < mx + ma) = true := by simp [c2]
              have k3 : decide (mx < sx + sa) = true := by simp [c3]
              go_upto_region 12 with fail
              dsimp only [List.append]
              go_big_quiet (fail)
              go_wp2_with fail
              go_ret
              exact ⟨_, rfl, G13.out.trans (g_drewN hI.out.1 _), .inr ⟨s, List.mem_of_getElem? hs.out, by rw [← hTO.out]; exact htc.out.2 ⟨c1, c2, c3⟩, spp.out⟩⟩
            · replace hc := Lib.hid (hc (fun h => c3 h.2.2))
              have k1 : (sy + sb + 1 == my) = true := by simp [c1]
              have k2 : decide (sx < mx + ma) = true := by simp [c2]
              have k3 : decide (mx < sx + sa) = false := by simp; omega
              go_upto_region 12 with fail
              dsimp only [List.append]
              go_big_quiet (fail)
              go_wp2_with fail
              refine ⟨⟨j + 1, by omega, by go_num, Lib.hid ⟨g_drewN hI.out.1 _, ?_⟩⟩, by simp [intOf]; omega⟩
              exact hnot.out hc.out
          · replace hc := Lib.hid (hc (fun h => c2 h.2.1))
            have k1 : (sy + sb + 1 == my) = true := by simp [c1]
            have k2 : decide (sx < mx + ma) = false := by simp; omega
            go_upto_region 12 with fail
            dsimp only [List.append]
            go_big_quiet (fail)
            go_wp2_with fail
            refine ⟨⟨j + 1, by omega, by go_num, Lib.hid ⟨g_drewN hI.out.1 _, ?_⟩⟩, by simp [intOf]; omega⟩
            exact hnot.out hc.out
        · replace hc := Lib.hid (hc (fun h => c1 h.1))
          have k1 : (sy + sb + 1 == my) = false := by simp [c1]
          go_upto_region 12 with fail
          dsimp only [List.append]
          go_big_quiet (fail)
          go_wp2_with fail
          refine ⟨⟨j + 1, by omega, by go_num, Lib.hid ⟨g_drewN hI.out.1 _, ?_⟩⟩, by simp [intOf]; omega⟩
          exact hnot.out hc.out
      · have : j = len := by omega
        subst this
        go_wp2_with fail
        go_ret
        refine ⟨0, rfl, G13.out.trans hI.out.1, .inl ⟨rfl, ?_⟩⟩
        have := hI.out.2
        rwa [List.take_of_length_le (by rw [hln.out]; exact Nat.le_refl _)] at this
  · unfold ptr at *
    go_enter Tryd.func16, Tryd.ntmps16
    go_wp2_with fail
    refine CA.out.mono ?_
    rintro e w1 ⟨rfl, G1⟩
    go_wp2_with fail
    refine (CI.out _).mono ?_
    rintro e w2 ⟨rfl, rfl⟩
    go_wp2_with fail
    refine (CL.out _ G1).mono ?_
    rintro e w3 ⟨A, c, rfl, hO, G3⟩
    have G13 := G1.trans G3
    have hR := own_Rd hO
    have hT3 := hT.out.grown G13
    replace hO := Lib.hid hO; replace hR := Lib.hid hR; replace hT3 := Lib.hid hT3; replace G13 := Lib.hid G13; replace G3 := Lib.hid G3; replace G1 := Lib.hid G1
    clear CA CI CL
    go_wp2_with fail
    go_loopw [34] (fun iv wr => ∃ j : Nat, j ≤ len ∧ iv = .int .i64 j ∧ Hid (w3.grownBy wr none ∧ ∀ s ∈ t.leaves.take j, ¬ touch 3 s.n n.n)) (fun iv _ => len - (intOf iv).toNat)
    case atStart => exact ⟨0, Nat.zero_le _, rfl, Lib.hid ⟨World.grownBy.refl _ _, by simp⟩⟩
    case round =>
      obtain ⟨j, hj, rfl, hI⟩ := hrel
      by_cases hlt : j < len
      · obtain ⟨s, hs⟩ : ∃ s, t.leaves[j]? = some s := ⟨t.leaves[j]'(by rw [← hln.out]; exact hlt), List.getElem?_eq_getElem _⟩
        obtain ⟨b, off, rfl, _, hcell⟩ := hR.out.at_ (j := j) (u := ptr s.g) (by simp [ptrs, hs])
        have hc2 := hI.out.1.cell hcell (by simp)
        obtain ⟨up', hsT, _, _⟩ := mem_leaves t wr none (hT3.out.p.grown hI.out.1) s (List.mem_of_getElem? hs)
        obtain ⟨up2, hnT, _, _⟩ := mem_leaves t wr none (hT3.out.p.grown hI.out.1) n hni.out
        have hsA : At wr up' s.n s.ks := by cases s; exact hsT.at_
        have hnA : At wr up2 n.n n.ks := by cases n; exact hnT.at_
        have q1 := hsA.c1; have q2 := hsA.c2; have q3 := hsA.c3; have q4 := hsA.c4; have q0 := hsA.c0
        have r1 := hnA.c1; have r2 := hnA.c2; have r3 := hnA.c3; have r4 := hnA.c4
        have hsg : s.n.g = s.g := rfl
        have hng : n.n.g = n.g := rfl
        rw [hsg] at q0 q1 q2 q3 q4
        rw [hng] at r1 r2 r3 r4
        obtain ⟨⟨b1, b2⟩, ⟨b3, b4⟩, ⟨b5, b6⟩, ⟨b7, b8⟩⟩ := hsm.out s (List.mem_of_getElem? hs)
        obtain ⟨⟨d1, d2⟩, ⟨d3, d4⟩, ⟨d5, d6⟩, ⟨d7, d8⟩⟩ := hsm.out n hni.out
        obtain ⟨sp, spp⟩ : ∃ sp, sp = s.n.p := ⟨_, rfl⟩
        rw [← spp] at q0
        obtain ⟨sx, sxx⟩ : ∃ sx, sx = s.n.x := ⟨_, rfl⟩
        obtain ⟨sy, syy⟩ : ∃ sy, sy = s.n.y := ⟨_, rfl⟩
        obtain ⟨sa, saa⟩ : ∃ sa, sa = s.n.a := ⟨_, rfl⟩
        obtain ⟨sb, sbb⟩ : ∃ sb, sb = s.n.b := ⟨_, rfl⟩
        obtain ⟨mx, mxx⟩ : ∃ mx, mx = n.n.x := ⟨_, rfl⟩
        obtain ⟨my, myy⟩ : ∃ my, my = n.n.y := ⟨_, rfl⟩
        obtain ⟨ma, maa⟩ : ∃ ma, ma = n.n.a := ⟨_, rfl⟩
        obtain ⟨mb, mbb⟩ : ∃ mb, mb = n.n.b := ⟨_, rfl⟩
        have htc : touch 3 s.n n.n ↔ my + mb + 1 = sy ∧ mx < sx + sa ∧ sx < mx + ma := by
          subst sxx syy saa sbb mxx myy maa mbb; exact Iff.rfl
        rw [← sxx] at q1 b1 b2; rw [← syy] at q2 b3 b4; rw [← saa] at q3 b5 b6; rw [← sbb] at q4 b7 b8
        rw [← mxx] at r1 d1 d2; rw [← myy] at r2 d3 d4; rw [← maa] at r3 d5 d6; rw [← mbb] at r4 d7 d8
        have hnot : ¬ touch 3 s.n n.n → ∀ s' ∈ t.leaves.take (j + 1), ¬ touch 3 s'.n n.n := by
          intro hno
          rw [take_succ' hs]
          intro s' hs'
          rcases List.mem_append.1 hs' with h | h
          · exact hI.out.2 s' h
          · simp only [List.mem_singleton] at h; subst h; exact hno
        obtain ⟨TO, hTO⟩ : ∃ TO, TO = touch 3 s.n n.n := ⟨_, rfl⟩
        rw [← hTO] at htc hnot
        have hc : ¬ (my + mb + 1 = sy ∧ mx < sx + sa ∧ sx < mx + ma) → ¬ TO := fun h k => h (htc.1 k)
        replace hTO := Lib.hid hTO; replace hs := Lib.hid hs; replace hsA := Lib.hid hsA; replace hnA := Lib.hid hnA; replace hsT := Lib.hid hsT; replace hnT := Lib.hid hnT; replace spp := Lib.hid spp; replace hnot := Lib.hid hnot
        replace sxx := Lib.hid sxx; replace syy := Lib.hid syy; replace saa := Lib.hid saa; replace sbb := Lib.hid sbb
        replace mxx := Lib.hid mxx; replace myy := Lib.hid myy; replace maa := Lib.hid maa; replace mbb := Lib.hid mbb
        clear hcell hsg hng
        unfold ptr at hc2
        have ws1 : IntKind.i64.wrap (my + mb) = my + mb := by rw [IntKind.wrap_i64]; omega
        have ws2 : IntKind.i64.wrap (my + mb + 1) = my + mb + 1 := by rw [IntKind.wrap_i64]; omega
        have ws3 : IntKind.i64.wrap (sx + sa) = sx + sa := by rw [IntKind.wrap_i64]; omega
        have ws4 : IntKind.i64.wrap (mx + ma) = mx + ma := by rw [IntKind.wrap_i64]; omega
        replace htc := Lib.hid htc
        by_cases c1 : my + mb + 1 = sy
        · by_cases c2 : mx < sx + sa
          · by_cases c3 : sx < mx + ma
            · clear hc
              have k1 : (my + mb + 1 == sy) = true := by simp [c1]
              have k2 : decide (mx < sx + sa) = true := by simp [c2]
              have k3 : decide (sx < mx + ma) = true := by simp [c3]
              go_upto_region 12 with fail
              dsimp only [List.append]
              go_big_quiet (fail)
              go_wp2_with fail
              go_ret
              exact ⟨_, rfl, G13.out.trans (g_drewN hI.out.1 _), .inr ⟨s, List.mem_of_getElem? hs.out, by rw [← hTO.out]; exact htc.out.2 ⟨c1, c2, c3⟩, spp.out⟩⟩
            · replace hc := Lib.hid (hc (fun h => c3 h.2.2))
              have k1 : (my + mb + 1 == sy) = true := by simp [c1]
              have k2 : decide (mx < sx + sa) = true := by simp [c2]
              have k3 : decide (sx < mx + ma) = false := by simp; omega
              go_upto_region 12 with fail
              dsimp only [List.append]
              go_big_quiet (fail)
              go_wp2_with fail
              refine ⟨⟨j + 1, by omega, by go_num, Lib.hid ⟨g_drewN hI.out.1 _, ?_⟩⟩, by simp [intOf]; omega⟩
              exact hnot.out hc.out
          · replace hc := Lib.hid (hc (fun h => c2 h.2.1))
            have k1 : (my + mb + 1 == sy) = true := by simp [c1]
            have k2 : decide (mx < sx + sa) = false := by simp; omega
            go_upto_region 12 with fail
            dsimp only [List.append]
            go_big_quiet (fail)
            go_wp2_with fail
            refine ⟨⟨j + 1, by omega, by go_num, Lib.hid ⟨g_drewN hI.out.1 _, ?_⟩⟩, by simp [intOf]; omega⟩
            exact hnot.out hc.out
        · replace hc := Lib.hid (hc (fun h => c1 h.1))
          have k1 : (my + mb + 1 == sy) = false := by simp [c1]
          go_upto_region 12 with fail
          dsimp only [List.append]
          go_big_quiet (fail)
          go_wp2_with fail
          refine ⟨⟨j + 1, by omega, by go_num, Lib.hid ⟨g_drewN hI.out.1 _, ?_⟩⟩, by simp [intOf]; omega⟩
          exact hnot.out hc.out
      · have : j = len := by omega
        subst this
        go_wp2_with fail
        go_ret
        refine ⟨0, rfl, G13.out.trans hI.out.1, .inl ⟨rfl, ?_⟩⟩
        have := hI.out.2
        rwa [List.take_of_length_le (by rw [hln.out]; exact Nat.le_refl _)] at this
end Go.Proofs.YtcklmkjlbpjojaaDoor
