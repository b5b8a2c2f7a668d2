/- Format: reckoned, at the one reckoning of the examples. Format: modified, loop and reckoned are as the plain interpreter says: nothing is left open. Format: the chapter's examples, reckoned by the kernel. No program in sight. Format: the chapter's examples: the scope, one of them, all. -/
import Derived.Test.YtfhdfhlabkeipaaGreatDoorQ1
import Derived.Test.YtfhdfhlabkeipaaGreatDoorK5
import Derived.Test.YtfhdfhlabkeipaaGreatDoorM5
import Derived.Test.YtfhdfhlabkeipaaGreatDoorL3
import Derived.Test.YtfhdfhlabkeipaaGreatDoorC20
import Derived.Test.YtfhdfhlabkeipaaGreatDoorF1
namespace Go.Proofs.YtfhdfhlabkeipaaGreatDoor
open Go.RowKit
set_option linter.unusedSimpArgs false
set_option linter.unusedVariables false

theorem split_ex : Lib.splitB (st [124]) 0 (Lib.countB (st [47, 124, 102]) (st [124])) (st [47, 124, 102]) = [st [47], st [102]] := by decide +kernel
theorem count_ex : Lib.countB (st [47, 124, 102]) (st [124]) = 1 := by decide +kernel
theorem split_own (w : World) (a b : ByteArray) : (w.alloc (.cells #[.string a, .string b] 9)).ownsRow w.heap.size 9 1 (.slice (some ⟨w.heap.size, 0, none⟩) 2 2) 2 [.string a, .string b] :=
  ⟨rfl, .inr ⟨w.heap.size, 2, _, rfl, Nat.le_refl _, heap_alloc_new w _, Nat.le_refl _, by decide, rfl, rfl⟩⟩
def SpP (w : World) (e : Ending) (w' : World) : Prop := ∃ A c, e = .returned (.slice A 2 c) ∧ w'.ownsRow w.heap.size 9 1 (.slice A 2 c) 2 [.string (st [47]), .string (st [102])] ∧ w.grownBy w' none
theorem split_any (w : World) (m : Int) (hm : w.cell? ⟨2, 0, none⟩ = some (.int .i64 m)) : Calls Tryz.prog 72 #[.string (st [47, 124, 102]), .string (st [124])] w (SpP w) := by
  refine (Tryz.strings_Split (st [47, 124, 102]) (st [124]) m w (by decide) hm (by decide)).mono ?_
  rintro e w' ⟨rfl, rfl⟩
  rw [split_ex, count_ex]
  exact ⟨_, _, rfl, split_own w (st [47]) (st [102]), World.grownBy_alloc _ _ none⟩

set_option maxRecDepth 100000 in
set_option maxHeartbeats 4000000 in
theorem reck_ok (base mb deep L : Nat) (scs : List (Option Sc)) (tx : Tx) (hT : TxOk base mb deep L tx) (hl : scs.length ≤ L) : ReckOk base mb deep scs tx := by
  intro op rest n0 ab0 cap0 w hop hrest hM hB hno
  obtain ⟨R, hR⟩ : ∃ R, R = reckL tx scs op rest n0 := ⟨_, rfl⟩
  rw [← hR] at hno ⊢
  unfold reckL at hR
  by_cases ho : op = [47, 124, 102]
  case neg => rw [if_neg ho] at hR; exact absurd hR hno
  subst ho
  rw [if_pos rfl, twoL_R] at hR
  have CT := fun (ab cap : Nat) (W : World) (h : Mk base mb W ab cap scs deep n0) (hB : base ≤ W.heap.size) (hne : twoR (tx scs) rest n0 ≠ .no) => two_any base mb deep L scs tx hT hl rest n0 ab cap W hrest h hB hne
  have hne : twoR (tx scs) rest n0 ≠ .no := fun h => hno (by rw [hR, h])
  obtain ⟨m, hm⟩ := hM.tb.m
  have CSp := split_any w m hm
  unfold SpP at CSp
  rw [show st [124] = ⟨#[124]⟩ from rfl, show st [102] = ⟨#[102]⟩ from rfl, show st [47] = ⟨#[47]⟩ from rfl] at CSp
  obtain ⟨S, hS⟩ : ∃ S, S = st [47, 124, 102] := ⟨_, rfl⟩
  obtain ⟨SR, hSR⟩ : ∃ S, S = st rest := ⟨_, rfl⟩
  rw [← hS] at CSp
  rw [← hSR] at CT
  rw [← hS, ← hSR]
  have CM1 := Lib.hid must_ok
  have CK := Lib.hid K.reckon_a
  replace CSp := Lib.hid CSp; replace CT := Lib.hid CT; replace hne := Lib.hid hne; replace hR := Lib.hid hR; replace hno := Lib.hid hno; replace hT := Lib.hid hT; replace hM := Lib.hid hM; replace hB := Lib.hid hB; replace hS := Lib.hid hS; replace hSR := Lib.hid hSR; replace hm := Lib.hid hm; replace hl := Lib.hid hl; replace hop := Lib.hid hop
  go_enter Tryz.func59, Tryz.ntmps59
  go_wp2_with fail
  refine CSp.out.mono ?_
  rintro e w1 ⟨A, c, rfl, hO, hG⟩
  obtain ⟨pg, rfl⟩ := own_some hO (by omega)
  replace hO := Lib.hid hO; replace hG := Lib.hid hG
  go_wp2_with (at_builtin; refine ap91 rfl (.tmp 17) (.tmp 18) rfl w.heap.size (.slice (some ⟨pg, 0, none⟩) 2 c) 2 _ rfl (own_keep hO.out (World.grownBy_alloc _ _ none)) w1.heap.size ⟨#[]⟩ rfl (heap_alloc_new w1 _) (by omega) (Nat.le_trans hG.out.size (World.grownBy_alloc _ _ none).size) ?_)
  intro A2 c2 w2 h1 h2
  obtain ⟨pq, rfl⟩ := own_some h1 (by omega)
  have hG2 : w.grownBy w2 none := g_own (a' := w1.alloc (.cells #[.string ⟨#[]⟩] 9)) (g_alloc hG.out _) (own_keep hO.out (World.grownBy_alloc _ _ none)) (Nat.le_refl _) h2
  obtain ⟨b', o', e', _, k0⟩ := (own_rd h1).at_ (j := 0) (u := .string (st [47])) rfl
  cases e'
  obtain ⟨b', o', e', _, k1⟩ := (own_rd h1).at_ (j := 1) (u := .string (st [102])) rfl
  cases e'
  rw [show st [47] = ⟨#[47]⟩ from rfl] at k0
  rw [show st [102] = ⟨#[102]⟩ from rfl] at k1
  rw [Nat.zero_add] at k0 k1
  have hM2 := hM.out.grown hB.out hG2
  have hB2 : base ≤ w2.heap.size := Nat.le_trans hB.out hG2.size
  have CT2 := Lib.hid (CT.out ab0 cap0 w2 hM2 hB2 hne.out)
  obtain ⟨n1, n2⟩ := hM2.ne_row h1 (by decide) (by decide)
  have hgp : pq ≠ mb ∧ pq ≠ ab0 := ⟨fun e => n1 (by rw [e]; rfl), fun e => n2 (by rw [e]; rfl)⟩
  have k0l : pq < w2.heap.size := (own_lt h1 rfl).2
  have k0h := Lib.hid k0
  replace h1 := Lib.hid h1; replace h2 := Lib.hid h2; replace hG2 := Lib.hid hG2; replace hM2 := Lib.hid hM2; replace hB2 := Lib.hid hB2; replace n1 := Lib.hid n1; replace n2 := Lib.hid n2; replace hgp := Lib.hid hgp
  go_wp2_with fail
  refine (CM1.out 4 _).mono ?_
  rintro e w3 ⟨rfl, rfl⟩
  go_wp2_with fail
  refine CT2.out.mono ?_
  intro e w4 h4
  have hR2 := hR.out
  cases htw : twoR (tx scs) rest n0 with
  | no => exact absurd htw hne.out
  | bad e0 =>
    rw [htw] at h4 hR2
    obtain ⟨rfl, hK4⟩ := h4
    have hKK : Kp mb ab0 w w4 := (Kp.refl.grow0 hG2.out).trans hK4 (.inl rfl)
    replace hR2 : R = .bad e0 := hR2
    replace hR2 := Lib.hid hR2; replace hKK := Lib.hid hKK; replace hK4 := Lib.hid hK4; replace htw := Lib.hid htw
    unfold Pan
    go_wp2_with fail
    refine ⟨rfl, ?_⟩
    rw [hR2.out]
    exact ⟨rfl, hKK.out⟩
  | ok x y n' =>
    rw [htw] at h4 hR2
    obtain ⟨rfl, hK4, ab4, cap4, hM4, ha4⟩ := h4
    dsimp only at hR2
    by_cases hxy : x = [55] ∧ y = [50]
    case neg => rw [if_neg hxy] at hR2; exact absurd hR2 hno.out
    rw [if_pos hxy] at hR2
    obtain ⟨rfl, rfl⟩ := hxy
    have hKK : Kp mb ab0 w w4 := (Kp.refl.grow0 hG2.out).trans hK4 (.inl rfl)
    have ha5 : ab4 = ab0 ∨ w.heap.size ≤ ab4 := by
      rcases ha4 with h | h
      · exact .inl h
      · exact .inr (Nat.le_trans hG2.out.size h)
    have CK4 := Lib.hid (CK.out w4 hM4.tb.d)
    have q0 : w4.cell? ⟨pq, 0, none⟩ = some (.string ⟨#[47]⟩) := (World.cell?_of_block (a := ⟨pq, 0, none⟩) (hK4.block pq k0l hgp.out.1 hgp.out.2)).trans k0h.out
    rw [show st [55] = ⟨#[55]⟩ from rfl, show st [50] = ⟨#[50]⟩ from rfl]
    replace hR2 := Lib.hid hR2; replace hKK := Lib.hid hKK; replace hK4 := Lib.hid hK4; replace htw := Lib.hid htw; replace hM4 := Lib.hid hM4; replace ha4 := Lib.hid ha4; replace ha5 := Lib.hid ha5
    clear k0 k1
    go_wp2_with fail
    refine CK4.out.mono ?_
    rintro e w5 ⟨rfl, hG5⟩
    have hB4 : base ≤ w4.heap.size := Nat.le_trans hB.out hKK.out.size
    have hfin : ResP base mb scs deep ab0 w R (.returned (.string ⟨#[51, 46, 53, 48]⟩)) w5 := by
      rw [hR2.out]
      exact ⟨rfl, hKK.out.grow0 hG5, ab4, cap4, hM4.out.grown hB4 hG5, ha5.out⟩
    replace hfin := Lib.hid hfin; replace hG5 := Lib.hid hG5; replace hB4 := Lib.hid hB4
    go_wp2_with fail
    refine (CM1.out 4 _).mono ?_
    rintro e w6 ⟨rfl, rfl⟩
    go_wp2_with fail
    go_ret
    exact hfin.out
end Go.Proofs.YtfhdfhlabkeipaaGreatDoor
namespace Go.Proofs.YtfhdfhlabkeipaaGreatDoor
open Go.RowKit
set_option linter.unusedSimpArgs false
set_option linter.unusedVariables false

theorem mod_ok (base mb deep : Nat) (scs : List (Option Sc)) (hl : scs.length ≤ 100) : ModOk base mb deep scs := by
  intro c n ab cap W hc hM hB hno
  obtain ⟨m, hm⟩ := hM.tb.m
  have hmW : ∀ w, W.grownBy w none → w.cell? ⟨2, 0, none⟩ = some (.int .i64 m) := fun w g => g.cell hm (by simp)
  unfold modL at hno ⊢
  by_cases h1 : c.take 2 = [108, 58]
  · rw [if_pos h1]
    obtain ⟨r, rfl⟩ : ∃ r, c = 108 :: 58 :: r := ⟨c.drop 2, by rw [← List.take_append_drop 2 c, h1]; simp⟩
    have hr : r.length ≤ 8192 := by simp only [List.length_cons] at hc; omega
    have : shortL ((108 :: 58 :: r).drop 2) n = .ok r n := by
      show shortL r n = _
      unfold shortL
      rw [if_pos hr]
    rw [this]
    exact modified_l base mb deep scs r n ab cap W hr hM hB
  · rw [if_neg h1] at hno ⊢
    by_cases hv : valueL scs xN = some (some xV)
    · rw [if_pos hv] at hno ⊢
      by_cases e1 : c = [61, 51, 58, 120]
      · rw [if_pos e1, e1]
        exact modified_one base mb deep scs n ab cap W hl hv hM hB [61, 51, 58, 120] [97, 47, 98] 61 3 ⟨#[]⟩ ⟨#[]⟩ (by decide) (by decide) (by decide)
          (modifiers_gen [61, 51, 58, 120] 61 3 ⟨#[]⟩ ⟨#[]⟩ xN W (by decide) fun w _ => first_eq 58 [120] w (.inl rfl) (by decide))
          (fun w _ => apply_eq w)
      · rw [if_neg e1] at hno ⊢
        by_cases e2 : c = [98, 58, 120]
        · rw [if_pos e2, e2]
          exact modified_b base mb deep scs n ab cap W hl hv hM hB
        · rw [if_neg e2] at hno ⊢
          by_cases e3 : c = [115, 47, 98, 47, 81, 47, 58, 120]
          · rw [if_pos e3, e3]
            exact modified_one base mb deep scs n ab cap W hl hv hM hB [115, 47, 98, 47, 81, 47, 58, 120] [97, 47, 81, 46, 99] 115 0 (st [98]) (st [81]) (by decide) (by decide) (by decide)
              (modifiers_gen [115, 47, 98, 47, 81, 47, 58, 120] 115 0 (st [98]) (st [81]) xN W (by decide) fun w g => first_s m w (hmW w g))
              (fun w g => apply_s m w (hmW w g))
          · rw [if_neg e3] at hno ⊢
            by_cases e4 : c = [61, 51, 59, 117, 58, 120]
            · rw [if_pos e4, e4]
              exact modified_two base mb deep scs n ab cap W hl hv hM hB [61, 51, 59, 117, 58, 120] [97, 47, 98] [65, 47, 66] (by decide) (by decide)
                (modifiers_two [61, 51, 59, 117, 58, 120] [117, 58, 120] 61 117 3 0 ⟨#[]⟩ ⟨#[]⟩ ⟨#[]⟩ ⟨#[]⟩ xN W (by decide) (by decide) (fun w _ => first_eq 59 [117, 58, 120] w (.inr rfl) (by decide)) (fun w _ => first_letter 117 [58, 120] w (.inr (.inl rfl)) (by decide)))
                (fun w _ => apply_eq w) (fun w _ => apply_u w)
            · rw [if_neg e4] at hno
              exact absurd rfl hno
    · rw [if_neg hv] at hno
      exact absurd rfl hno
theorem allOk : AllOk := fun base mb => ⟨fun deep scs h => mod_ok base mb deep scs h, fun deep L tx scs h1 h2 h3 h4 => loop_ok base mb deep L scs tx h1 h2 h3 h4, fun deep L tx scs h1 _ _ h4 => reck_ok base mb deep L scs tx h1 h4⟩
end Go.Proofs.YtfhdfhlabkeipaaGreatDoor
namespace Go.Proofs.YtfhdfhlabkeipaaGreatDoor
set_option linter.unusedSimpArgs false
set_option linter.unusedVariables false

def xaS : B := [35, 83, 58, 35, 73, 32, 35, 123, 120, 125, 32, 35, 123, 110, 111, 115, 117, 99, 104, 125, 35, 35]
def xaW : B := [115, 49, 58, 51, 32, 97, 47, 98, 46, 99, 32, 35]
theorem xa_ok : expandL [some exSc] xaS = .ok xaW 2 := by decide +kernel
def xbS : B := [35, 123, 63, 120, 44, 121, 101, 115, 44, 110, 111, 125, 32, 35, 123, 63, 121, 44, 121, 101, 115, 44, 110, 111, 125]
def xbW : B := [121, 101, 115, 32, 110, 111]
theorem xb_ok : expandL [some exSc] xbS = .ok xbW 2 := by decide +kernel
def xcS : B := [35, 123, 61, 51, 58, 120, 125, 32, 35, 123, 98, 58, 120, 125, 32, 35, 123, 115, 47, 98, 47, 81, 47, 58, 120, 125, 32, 35, 123, 61, 51, 59, 117, 58, 120, 125]
def xcW : B := [97, 47, 98, 32, 98, 46, 99, 32, 97, 47, 81, 46, 99, 32, 65, 47, 66]
theorem xc_ok : expandL [some exSc] xcS = .ok xcW 4 := by decide +kernel
def xdS : B := [35, 123, 87, 58, 35, 87, 32, 44, 91, 35, 87, 93, 32, 125]
def xdW : B := [111, 110, 101, 32, 91, 116, 119, 111, 93, 32]
theorem xd_ok : expandL [some exSc] xdS = .ok xdW 3 := by decide +kernel
def xfS : B := [35, 123, 101, 124, 47, 124, 102, 58, 55, 44, 50, 125, 32, 35, 123, 109, 58, 97, 42, 91, 98, 45, 100, 93, 44, 97, 98, 99, 125]
def xfW : B := [51, 46, 53, 48, 32, 49]
theorem xf_ok : expandL [some exSc] xfS = .ok xfW 2 := by decide +kernel
def xgS : B := [35, 123, 120]
theorem xg_ok : expandL [some exSc] xgS = .bad 4 := by decide +kernel
def xhS : B := [35, 123, 87, 58, 35, 87, 125, 35, 123, 120, 125]
theorem xh_ok : expandL [some exSc] xhS = .ok [111, 110, 101, 116, 119, 111, 97, 47, 98, 46, 99] 4 := by decide +kernel
end Go.Proofs.YtfhdfhlabkeipaaGreatDoor
namespace Go.Proofs.YtfhdfhlabkeipaaGreatDoor
open Go.RowKit
set_option linter.unusedSimpArgs false
set_option linter.unusedVariables false

theorem res_sc {fn : Func} {p : Tmp} {w : World} {b : Nat} {c0 c1 : Value} (h : fn.results = #[.cell p 28]) (tmps : Array Value) (hp : tmps.getD p undef = .pointer (some ⟨b, 0, none⟩)) (hm : w.heap[b]? = some (.cells #[c0, c1] 28 (0, 0))) :
    (results fn tmps).run Tryz.prog w = .ok (.agg #[c0, c1]) w := by
  have hp' : tmps[p]?.getD undef = .pointer (some ⟨b, 0, none⟩) := by simpa using hp
  obtain ⟨i0, hi0, hz0, hz1, hz2⟩ := info_parts info28
  simp [results, h, hp', asAddr, run_loadVar_row w b 28 28 _ (0, 0) _ hm Tryz.underlying28 rfl (by rw [hi0]; simp [hz1])]
theorem vars_block {base : Nat} {W : World} {g : Nat} {t : TypeId} (vs : List (B × B)) (n : Nat) (hn : n = vs.length) (hl : n ≤ 9223372036854775807) (h : W.heap[g]? = some (.cells (pc vs).toArray t (0, 0))) (hb : g < base) : VarsAt base W (.slice (some ⟨g, 0, none⟩) n n) vs :=
  ⟨_, n, n, rfl, hn, hl, by have := rd_block h; simpa using this, fun b hb' => by injection hb' with hb'; rw [← hb']; exact hb⟩
set_option maxRecDepth 100000 in
set_option maxHeartbeats 2000000 in
theorem example_any (w : World) : Calls Tryz.prog 19 #[] w fun e w' => w.grownBy w' none ∧ ∃ (g1 g2 : Nat), e = .returned (.agg #[.slice (some ⟨g1, 0, none⟩) 4 4, .slice (some ⟨g2, 0, none⟩) 1 1]) ∧ ScAt w'.heap.size w' exSc (.slice (some ⟨g1, 0, none⟩) 4 4) (.slice (some ⟨g2, 0, none⟩) 1 1) := by
  have hres : Tryz.f19.results = #[.cell 0 28] := by kernel_rfl
  replace hres := Lib.hid hres
  go_enter Tryz.func19, Tryz.ntmps19
  go_wp2_with fail
  obtain ⟨b0, hb0⟩ : ∃ b, b = w.heap.size := ⟨_, rfl⟩
  rw [← hb0]
  obtain ⟨W, hW⟩ : ∃ W : World, W = ((((((((w.alloc (.cells #[.slice (some ⟨b0 + 1 + 1 + 1 + 1 + 1, 0, none⟩) 4 4, .slice (some ⟨b0 + 1 + 1 + 1 + 1 + 1 + 1 + 1, 0, none⟩) 1 1] 28)).alloc
    (.cells (pc one1).toArray 24)).alloc (.cells #[.slice (some ⟨b0 + 1, 0, none⟩) 1 1, .slice none 0 0] 28)).alloc (.cells (pc two1).toArray 24)).alloc (.cells #[.slice (some ⟨b0 + 1 + 1 + 1, 0, none⟩) 2 2, .slice none 0 0] 28)).alloc
    (.cells (pc exSc.vars).toArray 24)).alloc (.cells #[.slice (some ⟨b0 + 1, 0, none⟩) 1 1, .slice none 0 0, .slice (some ⟨b0 + 1 + 1 + 1, 0, none⟩) 2 2, .slice none 0 0] 28)).alloc (.cells #[.int .u8 87, .slice (some ⟨b0 + 1 + 1 + 1 + 1 + 1 + 1, 0, none⟩) 2 2] 53)) := ⟨_, rfl⟩
  have hsz : W.heap.size = b0 + 8 := by rw [hW, hb0]; simp only [alloc_size]
  have f0 : W.heap[b0]? = some (.cells #[.slice (some ⟨b0 + 1 + 1 + 1 + 1 + 1, 0, none⟩) 4 4, .slice (some ⟨b0 + 1 + 1 + 1 + 1 + 1 + 1 + 1, 0, none⟩) 1 1] 28 (0, 0)) := by rw [hW, hb0]; simp only [alloc_get, alloc_size]; first | rfl | ((repeat rw [if_neg (by omega)]); first | rfl | (rw [if_pos rfl]) | simp)
  have f1 : W.heap[b0 + 1]? = some (.cells (pc one1).toArray 24 (0, 0)) := by rw [hW, hb0]; simp only [alloc_get, alloc_size]; first | rfl | ((repeat rw [if_neg (by omega)]); first | rfl | (rw [if_pos rfl]) | simp)
  have f3 : W.heap[b0 + 1 + 1 + 1]? = some (.cells (pc two1).toArray 24 (0, 0)) := by rw [hW, hb0]; simp only [alloc_get, alloc_size]; first | rfl | ((repeat rw [if_neg (by omega)]); first | rfl | (rw [if_pos rfl]) | simp)
  have f5 : W.heap[b0 + 1 + 1 + 1 + 1 + 1]? = some (.cells (pc exSc.vars).toArray 24 (0, 0)) := by rw [hW, hb0]; simp only [alloc_get, alloc_size]; first | rfl | ((repeat rw [if_neg (by omega)]); first | rfl | (rw [if_pos rfl]) | simp)
  have f6 : W.heap[b0 + 1 + 1 + 1 + 1 + 1 + 1]? = some (.cells #[.slice (some ⟨b0 + 1, 0, none⟩) 1 1, .slice none 0 0, .slice (some ⟨b0 + 1 + 1 + 1, 0, none⟩) 2 2, .slice none 0 0] 28 (0, 0)) := by rw [hW, hb0]; simp only [alloc_get, alloc_size]; first | rfl | ((repeat rw [if_neg (by omega)]); first | rfl | (rw [if_pos rfl]) | simp)
  have f7 : W.heap[b0 + 1 + 1 + 1 + 1 + 1 + 1 + 1]? = some (.cells #[.int .u8 87, .slice (some ⟨b0 + 1 + 1 + 1 + 1 + 1 + 1, 0, none⟩) 2 2] 53 (0, 0)) := by rw [hW, hb0]; simp only [alloc_get, alloc_size]; first | rfl | ((repeat rw [if_neg (by omega)]); first | rfl | (rw [if_pos rfl]) | simp)
  have hg : w.grownBy W none := by rw [hW]; exact g_alloc (g_alloc (g_alloc (g_alloc (g_alloc (g_alloc (g_alloc (g_alloc (World.grownBy.refl _ _) _) _) _) _) _) _) _) _
  have hsc : ScAt W.heap.size W exSc (.slice (some ⟨b0 + 1 + 1 + 1 + 1 + 1, 0, none⟩) 4 4) (.slice (some ⟨b0 + 1 + 1 + 1 + 1 + 1 + 1 + 1, 0, none⟩) 1 1) := by
    rw [hsz]
    refine ⟨vars_block exSc.vars 4 rfl (by omega) f5 (by omega), _, 1, 1, rfl, rfl, by omega, _, rd_block f7, fun b h => by injection h with h; rw [← h]; show b0 + 1 + 1 + 1 + 1 + 1 + 1 + 1 < _; omega, fun j p hj => ?_⟩
    rcases j with _ | j
    · have hp : p = (87, [one1, two1]) := by
        have : some ((87, [one1, two1]) : UInt8 × List (List (B × B))) = some p := hj
        injection this with this
        exact this.symm
      subst hp
      refine ⟨some ⟨b0 + 1 + 1 + 1 + 1 + 1 + 1, 0, none⟩, 2, 2, rfl, rfl, rfl, by omega, _, rd_block f6, fun b h => by injection h with h; rw [← h]; show b0 + 1 + 1 + 1 + 1 + 1 + 1 < _; omega, fun j vs hj => ?_⟩
      rcases j with _ | _ | j
      · have hp : vs = one1 := by
          have : some one1 = some vs := hj
          injection this with this
          exact this.symm
        subst hp
        exact ⟨_, rfl, rfl, vars_block one1 1 rfl (by omega) f1 (by omega)⟩
      · have hp : vs = two1 := by
          have : some two1 = some vs := hj
          injection this with this
          exact this.symm
        subst hp
        exact ⟨_, rfl, rfl, vars_block two1 2 rfl (by omega) f3 (by omega)⟩
      · simp at hj
    · simp [exSc] at hj
  change bodyPost Tryz.prog Tryz.f19 _ Exit.ret _ _
  have hWe : (_ : World) = W := hW.symm
  refine bodyPost_ret (res_sc hres.out _ rfl (b := b0) (c0 := .slice (some ⟨b0 + 1 + 1 + 1 + 1 + 1, 0, none⟩) 4 4) (c1 := .slice (some ⟨b0 + 1 + 1 + 1 + 1 + 1 + 1 + 1, 0, none⟩) 1 1) ?_) rfl ?_
  · rw [hW] at f0
    exact f0
  · rw [hW] at hg hsc
    exact ⟨hg, _, _, rfl, hsc⟩
end Go.Proofs.YtfhdfhlabkeipaaGreatDoor
