/- Format: the reference's Match means what matchL says. -/
import Derived.Test.YtfhdfhlabkeipaaGreatDoorX4
import Derived.Test.YtfhdfhlabkeipaaGreatDoorC13
import Derived.Laws.MakeOwn
namespace Go.Proofs.YtfhdfhlabkeipaaGreatDoor
open Go.RowKit
set_option linter.unusedSimpArgs false
set_option linter.unusedVariables false

/-- A row of truths. -/
def BRow (g : Nat) (w : World) (l : List Bool) : Prop := w.heap[g]? = some (.cells (l.map Value.bool).toArray 4 (0, 0))
section
variable {g n : Nat} {w w' : World} {l : List Bool}
theorem BRow.lt (h : BRow g w l) : g < w.heap.size := (Array.getElem?_eq_some_iff.1 h).1
theorem BRow.grown (h : BRow g w l) (hg : w.grownBy w' none) : BRow g w' l := (hg.block g h.lt (by simp)).trans h
theorem BRow.cell (h : BRow g w l) {j : Nat} {b : Bool} (hj : l[j]? = some b) : w.cell? ⟨g, j, none⟩ = some (.bool b) := by
  rw [cell_of_heap h]
  simp [hj]
theorem BRow.free (h : BRow g w l) (j : Nat) : w.frozen? ⟨g, j, none⟩ = false := free_of_heap h j
theorem BRow.set (h : BRow g w l) (j : Nat) (b : Bool) : BRow g (w.setCell ⟨g, j, none⟩ (.bool b)) (l.set j b) := by
  unfold BRow
  rw [heap_set h, List.setIfInBounds_toArray, ← List.map_set]
theorem BRow.other {g2 : Nat} (h : BRow g w l) (hne : g ≠ g2) (j : Nat) (v : Value) : BRow g (w.setCell ⟨g2, j, none⟩ v) l := by
  unfold BRow
  rw [heap_set_other hne]
  exact h
end
theorem grow_set {w w1 : World} {g j : Nat} {v : Value} (h : w.grownBy w1 none) (hg : w.heap.size ≤ g) : w.grownBy (w1.setCell ⟨g, j, none⟩ v) none :=
  ⟨h.os, h.tape, h.output, by have := h.size; simpa [World.setCell] using this, fun k hk _ => by
    rw [heap_set_other (by show k ≠ g; omega)]
    exact h.block k hk (by simp)⟩
theorem info4 : (Tryz.prog.info? 4).map (fun i => (i.zero, i.size, i.bytes)) = some (some (.bool false), 1, 1) := by kernel_rfl
theorem made_b (v : Value) (n : Nat) : madeCells #[v] n = (List.replicate n v).toArray := by
  apply Array.ext'
  simp [madeCells, Nat.mod_one]
  refine List.ext_getElem? fun i => ?_
  rw [List.getElem?_map, List.getElem?_replicate]
  by_cases h : i < n
  · rw [List.getElem?_range h, if_pos h]; rfl
  · rw [if_neg h, List.getElem?_eq_none (by simpa using h)]; rfl
theorem make_row (N : Nat) (w : World) (hN : N ≤ 100000) : (Instr.makeSlice 47 (.int .i64 N) (.int .i64 N)).run Tryz.prog w = .ok (.slice (some ⟨w.heap.size, 0, none⟩) N N) (w.alloc (.cells (List.replicate N (Value.bool false)).toArray 4)) := by
  obtain ⟨i0, hi0, hz0, hz1, hz2⟩ := info_parts info4
  have := run_make (P := Tryz.prog) w 47 4 i0 _ Tryz.underlying47 hi0 hz0 .i64 .i64 N N (by omega) (by omega) (by rw [hz2]; omega) (by omega)
  rw [this, hz1]
  have e : (Value.bool false).cells = #[Value.bool false] := rfl
  rw [e, made_b]
  simp
theorem BRow.new (w : World) (N : Nat) : BRow w.heap.size (w.alloc (.cells (List.replicate N (Value.bool false)).toArray 4)) (List.replicate N false) := by
  unfold BRow
  rw [heap_alloc_new]
  simp
/-- Where the x-th part begins, or the pattern's end. -/
def cur (P : B) (x : Nat) : Nat := ((beg P 0)[x]?).getD P.length
theorem cur_zero (P : B) : cur P 0 = 0 := by
  unfold cur
  by_cases h : 0 < P.length
  · rw [beg_cons h]; rfl
  · rw [beg_end (by omega)]
    show P.length = 0
    omega
/-- A row half done: from j on, or below j. -/
def rowU (P s : B) (b j : Nat) : List Bool := (List.range (s.length + 1)).map fun t => if j ≤ t then matchL (P.drop b) (s.drop t) else false
def rowD (P s : B) (b j : Nat) : List Bool := (List.range (s.length + 1)).map fun t => if t < j then matchL (P.drop b) (s.drop t) else false
theorem rowU_new (P s : B) (b j : Nat) (hj : s.length < j) : rowU P s b j = List.replicate (s.length + 1) false := by
  apply List.ext_getElem?
  intro t
  unfold rowU
  rw [List.getElem?_map, List.getElem?_replicate]
  by_cases h : t < s.length + 1
  · rw [List.getElem?_range h, if_pos h]
    simp
    omega
  · rw [if_neg h, List.getElem?_eq_none (by simpa using h)]; rfl
theorem rowU_set (P s : B) (b j : Nat) (hj : j ≤ s.length) : (rowU P s b (j + 1)).set j (matchL (P.drop b) (s.drop j)) = rowU P s b j := by
  apply List.ext_getElem?
  intro t
  unfold rowU
  rw [List.getElem?_set]
  by_cases h : t < s.length + 1
  · rw [List.getElem?_map, List.getElem?_map, List.getElem?_range h]
    simp only [Option.map_some]
    by_cases e : j = t
    · subst e
      rw [if_pos rfl, if_pos (by simp; omega), if_pos (Nat.le_refl _)]
    · rw [if_neg e]
      by_cases h2 : j ≤ t
      · rw [if_pos h2, if_pos (by omega)]
      · rw [if_neg h2, if_neg (by omega)]
  · rw [if_neg (by omega), List.getElem?_eq_none (by simpa using h), List.getElem?_eq_none (by simpa using h)]
theorem rowU_all (P s : B) (b : Nat) : rowU P s b 0 = rowM P s b := by
  unfold rowU rowM
  simp
theorem rowD_new (P s : B) (b : Nat) : rowD P s b 0 = List.replicate (s.length + 1) false := by
  apply List.ext_getElem?
  intro t
  unfold rowD
  rw [List.getElem?_map, List.getElem?_replicate]
  by_cases h : t < s.length + 1
  · rw [List.getElem?_range h, if_pos h]
    simp
  · rw [if_neg h, List.getElem?_eq_none (by simpa using h)]; rfl
theorem rowD_set (P s : B) (b j : Nat) (hj : j ≤ s.length) : (rowD P s b j).set j (matchL (P.drop b) (s.drop j)) = rowD P s b (j + 1) := by
  apply List.ext_getElem?
  intro t
  unfold rowD
  rw [List.getElem?_set]
  by_cases h : t < s.length + 1
  · rw [List.getElem?_map, List.getElem?_map, List.getElem?_range h]
    simp only [Option.map_some]
    by_cases e : j = t
    · subst e
      rw [if_pos rfl, if_pos (by simp; omega), if_pos (by omega)]
    · rw [if_neg e]
      by_cases h2 : t < j
      · rw [if_pos h2, if_pos (by omega)]
      · rw [if_neg h2, if_neg (by omega)]
  · rw [if_neg (by omega), List.getElem?_eq_none (by simpa using h), List.getElem?_eq_none (by simpa using h)]
theorem rowD_all (P s : B) (b : Nat) (hf : matchL (P.drop b) (s.drop s.length) = false) : rowD P s b s.length = rowM P s b := by
  apply List.ext_getElem?
  intro t
  unfold rowD rowM
  by_cases h : t < s.length + 1
  · rw [List.getElem?_map, List.getElem?_map, List.getElem?_range h]
    simp only [Option.map_some]
    by_cases e : t < s.length
    · rw [if_pos e]
    · have : t = s.length := by omega
      rw [if_neg e, this, hf]
  · rw [List.getElem?_eq_none (by simpa using h), List.getElem?_eq_none (by simpa using h)]
theorem row_last (P s : B) (b : Nat) (hb : P.length ≤ b) : (List.replicate (s.length + 1) false).set s.length true = rowM P s b := by
  apply List.ext_getElem?
  intro t
  unfold rowM
  rw [List.getElem?_set]
  by_cases h : t < s.length + 1
  · rw [List.getElem?_map, List.getElem?_range h, List.getElem?_replicate, if_pos h, List.length_replicate]
    simp only [Option.map_some]
    rw [match_end P s hb (by omega)]
    by_cases e : s.length = t
    · rw [if_pos e, if_pos (by omega)]; simp [e]
    · rw [if_neg e]; simp; omega
  · rw [if_neg (by omega), List.getElem?_eq_none (by simpa using h), List.getElem?_eq_none (by simpa using h)]
theorem ni_at {l : List Nat} {k b : Nat} (h : l[k]? = some b) : (ni l)[k]? = some (.int .i64 (b : Int)) := by
  unfold ni
  rw [List.getElem?_map, h]
  rfl

set_option maxHeartbeats 4000000 in
set_option maxRecDepth 100000 in
theorem matchR_any (P s : B) (w : World) (hP : P.length ≤ 5000) (hs : s.length ≤ 5000) :
    Calls Tryz.prog 14 #[.string (st P), .string (st s)] w fun e w' => e = .returned (.bool (matchL P s)) ∧ w.grownBy w' none := by
  have CB : Hid (∀ W, Calls Tryz.prog 23 #[.string (st P)] W fun e w' => ∃ A c, e = .returned (.slice A (beg P 0).length c) ∧ w'.ownsRow W.heap.size 3 1 (.slice A (beg P 0).length c) (beg P 0).length (ni (beg P 0)) ∧ W.grownBy w' none) := Lib.hid fun W => begins_any P W (by omega)
  have CO : Hid (∀ (i : Nat) (c : UInt8) (W : World), i < P.length → Calls Tryz.prog 24 #[.string (st P), .int .i64 i, .int .u8 (c.toNat : Int)] W fun e w' => e = .returned (.bool (partL (P.drop i) c).1) ∧ W.grownBy w' none) := Lib.hid fun i c W h => oneR_any P i c W (by omega) h
  have hL := beg_len P P.length 0 (by omega)
  obtain ⟨S, hS⟩ : ∃ S, S = st P := ⟨_, rfl⟩
  obtain ⟨T, hT⟩ : ∃ T, T = st s := ⟨_, rfl⟩
  obtain ⟨len, hlen⟩ : ∃ len, len = P.length := ⟨_, rfl⟩
  obtain ⟨n, hn⟩ : ∃ n, n = s.length := ⟨_, rfl⟩
  obtain ⟨L, hLd⟩ : ∃ L, L = (beg P 0).length := ⟨_, rfl⟩
  have hZ : S.size = len := by rw [hS, st_size, hlen]
  have hY : T.size = n := by rw [hT, st_size, hn]
  rw [← hS] at CB CO
  rw [← hS, ← hT]
  rw [← hlen] at hP CO
  rw [← hLd] at CB hL
  rw [← hn] at hs
  have hL2 : L ≤ 5000 := by omega
  clear hL
  have hwn : IntKind.i64.wrap ((n : Int) + 1) = ((n + 1 : Nat) : Int) := by rw [IntKind.wrap_i64]; omega
  have hmk : ∀ W, (Instr.makeSlice 47 (.int .i64 ((n : Int) + 1)) (.int .i64 ((n : Int) + 1))).run Tryz.prog W = .ok (.slice (some ⟨W.heap.size, 0, none⟩) (n + 1) (n + 1)) (W.alloc (.cells (List.replicate (n + 1) (Value.bool false)).toArray 4)) := fun W => make_row (n + 1) W (by omega)
  replace hS := Lib.hid hS; replace hT := Lib.hid hT; replace hlen := Lib.hid hlen; replace hn := Lib.hid hn; replace hLd := Lib.hid hLd
  go_enter Tryz.func14, Tryz.ntmps14
  go_wp2_with fail
  obtain ⟨g0, hg0⟩ : ∃ g, g = w.heap.size := ⟨_, rfl⟩
  obtain ⟨W2, hW2⟩ : ∃ W, W = w.alloc (.cells ((Array.replicate (n + 1) (Value.bool false)).setIfInBounds n (.bool true)) 4) := ⟨_, rfl⟩
  rw [← hW2, ← hg0]
  have hR2 : BRow g0 W2 (rowM P s (cur P L)) := by
    have h1 := row_last P s (cur P L) (by unfold cur; rw [List.getElem?_eq_none (by rw [hLd.out]; exact Nat.le_refl _)]; exact Nat.le_refl _)
    rw [← h1, ← hn.out, hW2, hg0]
    unfold BRow
    rw [heap_alloc_new, List.map_set, List.map_replicate, ← List.setIfInBounds_toArray, List.toArray_replicate]
  have G2 : w.grownBy W2 none := by rw [hW2]; exact World.grownBy_alloc _ _ none
  have hg02 : g0 < W2.heap.size := hR2.lt
  replace hW2 := Lib.hid hW2; replace hg0 := Lib.hid hg0; replace hR2 := Lib.hid hR2; replace G2 := Lib.hid G2; replace hg02 := Lib.hid hg02
  refine (CB.out _).mono ?_
  rintro e W3 ⟨A, cA, rfl, hO, G3⟩
  have hR3 := hR2.out.grown G3
  have G03 := G2.out.trans G3
  obtain ⟨A', cA', eA, hRd, hAb, _⟩ := Rd.of_own hO
  injection eA with eA1 _ eA2
  subst eA1
  replace hO := Lib.hid hO; replace hR3 := Lib.hid hR3; replace G3 := Lib.hid G3; replace G03 := Lib.hid G03; replace hRd := Lib.hid hRd
  have hAlt : ∀ bb, ablk A = some bb → bb < W3.heap.size ∨ L = 0 := fun bb h => by
    by_cases h0 : L = 0
    · exact .inr h0
    · left
      obtain ⟨b, hb⟩ : ∃ b, (beg P 0)[0]? = some b := ⟨(beg P 0)[0]'(by rw [← hLd.out]; omega), List.getElem?_eq_getElem _⟩
      obtain ⟨bA, off, e, hlt, _⟩ := hRd.out.at_ (ni_at hb)
      rw [e] at h
      injection h with h
      rw [← h]; exact hlt
  replace hAlt := Lib.hid hAlt
  go_wp2_with fail
  go_loopw [5, 7] (fun rv xv wr => ∃ (g x : Nat) (xi : Int), rv = .slice (some ⟨g, 0, none⟩) (n + 1) (n + 1) ∧ xv = .int .i64 xi ∧ x ≤ L ∧ Hid (xi = (x : Int) - 1 ∧ BRow g wr (rowM P s (cur P x)) ∧ W3.grownBy wr none)) (fun _ xv _ => ((intOf xv) + 1).toNat)
  case atStart => exact ⟨g0, L, (L : Int) - 1, rfl, rfl, Nat.le_refl _, Lib.hid ⟨rfl, hR3.out, World.grownBy.refl _ _⟩⟩
  case round =>
    obtain ⟨g, x, xi, rfl, rfl, hxL, hI⟩ := hrel
    obtain ⟨hxi, hRow, hG⟩ := hI.out
    rcases x with _ | k
    · have hx1 : xi = -1 := by omega
      subst hx1
      clear hxi
      have hc := hRow.cell (j := 0) (rowM_at (Nat.zero_le _))
      rw [cur_zero, List.drop_zero, List.drop_zero] at hc
      obtain ⟨ans, hans⟩ : ∃ ans, ans = matchL P s := ⟨_, rfl⟩
      rw [← hans] at hc
      have Gf := G03.out.trans hG
      replace hI := Lib.hid hI; replace hRow := Lib.hid hRow; replace hG := Lib.hid hG; replace hans := Lib.hid hans; replace Gf := Lib.hid Gf
      go_wp2_with fail
      go_ret
      exact ⟨by rw [hans.out]; rfl, Gf.out⟩
    · have hx1 : xi = (k : Int) := by omega
      subst hx1
      clear hxi
      obtain ⟨b, hb⟩ : ∃ b, (beg P 0)[k]? = some b := ⟨(beg P 0)[k]'(by rw [← hLd.out]; omega), List.getElem?_eq_getElem _⟩
      obtain ⟨_, hbl, hnx⟩ := beg_at P P.length 0 (by omega) k b hb
      rw [← hlen.out] at hbl
      have hcb : cur P k = b := by unfold cur; rw [hb]; rfl
      have hcn : cur P (k + 1) = nxt P b := by unfold cur; rw [hnx]
      rw [hcn] at hRow
      have hRd2 := hRd.out.grown hG (.inl rfl)
      obtain ⟨bA, off, eA, hbA, hcA⟩ := hRd2.at_ (ni_at hb)
      subst eA
      obtain ⟨a, ha⟩ : ∃ a, P[b]? = some a := ⟨P[b]'(by rw [← hlen.out]; exact hbl), List.getElem?_eq_getElem _⟩
      have hga := get_at ha hS.out
      have hbli : (b : Int) < (len : Int) := by omega
      obtain ⟨g', hg'⟩ : ∃ g', g' = wr.heap.size := ⟨_, rfl⟩
      have hgg : g ≠ g' := by have := hRow.lt; omega
      have h3g' : W3.heap.size ≤ g' := by rw [hg']; exact hG.size
      have hw1 : IntKind.i64.wrap ((k : Int) - 1) = (k : Int) - 1 := by rw [IntKind.wrap_i64]; omega
      have hkL : (k : Int) < (L : Int) := by omega
      replace hI := Lib.hid hI; replace hG := Lib.hid hG; replace hRow := Lib.hid hRow; replace hb := Lib.hid hb; replace hnx := Lib.hid hnx; replace hcb := Lib.hid hcb; replace hcn := Lib.hid hcn; replace hRd2 := Lib.hid hRd2; replace ha := Lib.hid ha; replace hg' := Lib.hid hg'; replace hgg := Lib.hid hgg; replace h3g' := Lib.hid h3g'; replace hbA := Lib.hid hbA
      have fin : ∀ (wx : World), BRow g' wx (rowM P s b) → W3.grownBy wx none → ∃ (g x : Nat) (xi : Int), Value.slice (some ⟨g', 0, none⟩) (n + 1) (n + 1) = .slice (some ⟨g, 0, none⟩) (n + 1) (n + 1) ∧ Value.int .i64 ((k : Int) - 1) = .int .i64 xi ∧ x ≤ L ∧ Hid (xi = (x : Int) - 1 ∧ BRow g wx (rowM P s (cur P x)) ∧ W3.grownBy wx none) := fun wx h1 h2 => ⟨g', k, (k : Int) - 1, rfl, rfl, by omega, Lib.hid ⟨rfl, by rw [hcb.out]; exact h1, h2⟩⟩
      replace fin := Lib.hid fin
      by_cases h42 : a = 42
      · have e42 : (a.toNat : Int) = 42 := u8_eq (n := 42) (by omega) h42
        subst h42
        go_wp2_with fail
        obtain ⟨Wn, hWn⟩ : ∃ W, W = wr.alloc (.cells (Array.replicate (n + 1) (Value.bool false)) 4) := ⟨_, rfl⟩
        rw [← hWn, ← hg'.out]
        have hRg : BRow g Wn (rowM P s (nxt P b)) := by rw [hWn]; exact hRow.out.grown (World.grownBy_alloc _ _ none)
        have hGn : W3.grownBy Wn none := by rw [hWn]; exact g_alloc hG.out _
        have hRn : BRow g' Wn (List.replicate (n + 1) false) := by
          have := BRow.new wr (n + 1)
          rw [hWn, hg'.out]
          simpa using this
        replace hWn := Lib.hid hWn; replace hRg := Lib.hid hRg; replace hGn := Lib.hid hGn; replace hRn := Lib.hid hRn
        go_loopw [10, 11] (fun bv jv wx => ∃ (j : Nat) (ji : Int) (tb : Bool), bv = .bool tb ∧ jv = .int .i64 ji ∧ j ≤ n + 1 ∧ Hid (ji = (j : Int) - 1 ∧ tb = (if j ≤ n then matchL (P.drop b) (s.drop j) else false) ∧ BRow g' wx (rowU P s b j) ∧ BRow g wx (rowM P s (nxt P b)) ∧ W3.grownBy wx none)) (fun _ jv _ => ((intOf jv) + 1).toNat)
        case atStart => exact ⟨n + 1, (n : Int), false, rfl, rfl, Nat.le_refl _, Lib.hid ⟨by omega, by rw [if_neg (by omega)], by rw [rowU_new P s b (n + 1) (by rw [← hn.out]; omega), ← hn.out]; exact hRn.out, hRg.out, hGn.out⟩⟩
        case round =>
          obtain ⟨j, ji, tb, rfl, rfl, hjn, hJ⟩ := hrel
          obtain ⟨hji, htb, hU, hR, hGx⟩ := hJ.out
          rcases j with _ | t
          · have hj1 : ji = -1 := by omega
            subst hj1
            rw [rowU_all] at hU
            have hfin := fin.out wr hU hGx
            clear hji htb
            replace hJ := Lib.hid hJ; replace hU := Lib.hid hU; replace hR := Lib.hid hR; replace hGx := Lib.hid hGx; replace hfin := Lib.hid hfin
            go_wp2_with fail
            exact ⟨hfin.out, by simp [intOf]⟩
          · have hj1 : ji = (t : Int) := by omega
            subst hj1
            clear hji
            have htn : t ≤ n := by omega
            have htni : (t : Int) < (n : Int) + 1 := by omega
            have hr := hR.cell (j := t) (rowM_at (by rw [← hn.out]; omega))
            have hu := hU.cell (j := t) (b := ((rowU P s b (t + 1))[t]?).getD false) (by
              have : t < (rowU P s b (t + 1)).length := by unfold rowU; rw [List.length_map, List.length_range, ← hn.out]; omega
              rw [List.getElem?_eq_getElem this]; rfl)
            have hz := hU.free t
            have hnew : matchL (P.drop b) (s.drop t) = (tb || matchL (P.drop (nxt P b)) (s.drop t)) := by
              by_cases htl : t < n
              · rw [match_star ha.out (by rw [← hn.out]; omega), htb, if_pos (by omega)]
              · have : t = n := by omega
                rw [match_star_end ha.out (by rw [← hn.out]; omega), htb, if_neg (by omega), Bool.false_or]
            have hset := hU.set t (matchL (P.drop b) (s.drop t))
            rw [rowU_set P s b t (by rw [← hn.out]; omega)] at hset
            have hR' := hR.other hgg.out t (.bool (matchL (P.drop b) (s.drop t)))
            have hGx' := grow_set (j := t) (v := .bool (matchL (P.drop b) (s.drop t))) hGx h3g'.out
            obtain ⟨r, hrd⟩ : ∃ r, r = matchL (P.drop (nxt P b)) (s.drop t) := ⟨_, rfl⟩
            obtain ⟨q, hq⟩ : ∃ q, q = matchL (P.drop b) (s.drop t) := ⟨_, rfl⟩
            obtain ⟨u0, hu0⟩ : ∃ u0, u0 = ((rowU P s b (t + 1))[t]?).getD false := ⟨_, rfl⟩
            rw [← hu0] at hu
            rw [← hrd] at hr hnew
            rw [← hq] at hnew hset hR' hGx'
            have fin2 : Hid (q = (if t ≤ n then matchL (P.drop b) (s.drop t) else false)) := Lib.hid (by rw [if_pos htn, hq])
            have hw1t : IntKind.i64.wrap ((t : Int) - 1) = (t : Int) - 1 := by rw [IntKind.wrap_i64]; omega
            replace hJ := Lib.hid hJ; replace hU := Lib.hid hU; replace hR := Lib.hid hR; replace hGx := Lib.hid hGx; replace htb := Lib.hid htb; replace hset := Lib.hid hset; replace hR' := Lib.hid hR'; replace hGx' := Lib.hid hGx'; replace hrd := Lib.hid hrd; replace hq := Lib.hid hq; replace hu0 := Lib.hid hu0
            cases tb with
            | true =>
              have hq1 : q = true := by rw [hnew]; rfl
              subst hq1
              clear hnew
              go_wp2_with fail
              exact ⟨⟨t, (t : Int) - 1, true, rfl, by first | rfl | rw [hw1t], by omega, Lib.hid ⟨rfl, fin2.out, hset.out, hR'.out, hGx'.out⟩⟩, by first | (simp [intOf]; done) | (simp [intOf]; omega)⟩
            | false =>
              have hq1 : q = r := by rw [hnew, Bool.false_or]
              subst hq1
              clear hnew
              go_wp2_with fail
              exact ⟨⟨t, (t : Int) - 1, q, rfl, by first | rfl | rw [hw1t], by omega, Lib.hid ⟨rfl, fin2.out, hset.out, hR'.out, hGx'.out⟩⟩, by first | (simp [intOf]; done) | (simp [intOf]; omega)⟩
      · have e42 : ¬ ((a.toNat : Int) = 42) := u8_ne (n := 42) (by omega) h42
        have eb : ((a.toNat : Int) == 42) = false := by simpa using e42
        go_wp2_with fail
        replace eb := Lib.hid eb
        obtain ⟨Wn, hWn⟩ : ∃ W, W = wr.alloc (.cells (Array.replicate (n + 1) (Value.bool false)) 4) := ⟨_, rfl⟩
        rw [← hWn, ← hg'.out]
        have hRg : BRow g Wn (rowM P s (nxt P b)) := by rw [hWn]; exact hRow.out.grown (World.grownBy_alloc _ _ none)
        have hGn : W3.grownBy Wn none := by rw [hWn]; exact g_alloc hG.out _
        have hRn : BRow g' Wn (List.replicate (n + 1) false) := by
          have := BRow.new wr (n + 1)
          rw [hWn, hg'.out]
          simpa using this
        replace hWn := Lib.hid hWn; replace hRg := Lib.hid hRg; replace hGn := Lib.hid hGn; replace hRn := Lib.hid hRn
        go_loopw [12] (fun jv wx => ∃ (j : Nat), jv = .int .i64 (j : Int) ∧ j ≤ n ∧ Hid (BRow g' wx (rowD P s b j) ∧ BRow g wx (rowM P s (nxt P b)) ∧ W3.grownBy wx none)) (fun jv _ => n - (intOf jv).toNat)
        case atStart => exact ⟨0, rfl, Nat.zero_le _, Lib.hid ⟨by rw [rowD_new, ← hn.out]; exact hRn.out, hRg.out, hGn.out⟩⟩
        case round =>
          obtain ⟨j, rfl, hjn, hJ⟩ := hrel
          obtain ⟨hD, hR, hGx⟩ := hJ.out
          by_cases hjl : j < n
          · have hjli : (j : Int) < (n : Int) := by omega
            have hjli1 : (j : Int) < (n : Int) + 1 := by omega
            have hjli2 : (j : Int) + 1 < (n : Int) + 1 := by omega
            obtain ⟨c, hc⟩ : ∃ c, s[j]? = some c := ⟨s[j]'(by rw [← hn.out]; exact hjl), List.getElem?_eq_getElem _⟩
            have hgc := get_at hc hT.out
            have hr := hR.cell (j := j + 1) (rowM_at (by rw [← hn.out]; omega))
            have hnew := match_one (s := s) ha.out h42 hc
            obtain ⟨r, hrd⟩ : ∃ r, r = matchL (P.drop (nxt P b)) (s.drop (j + 1)) := ⟨_, rfl⟩
            obtain ⟨q, hq⟩ : ∃ q, q = matchL (P.drop b) (s.drop j) := ⟨_, rfl⟩
            rw [← hrd] at hr hnew
            rw [← hq] at hnew
            have hwj : IntKind.i64.wrap ((j : Int) + 1) = ((j + 1 : Nat) : Int) := by rw [IntKind.wrap_i64]; omega
            have key : ∀ wy, wr.grownBy wy none → wy.cell? ⟨g', j, none⟩ = some (.bool (((rowD P s b j)[j]?).getD false)) ∧ wy.frozen? ⟨g', j, none⟩ = false ∧ BRow g' (wy.setCell ⟨g', j, none⟩ (.bool q)) (rowD P s b (j + 1)) ∧ BRow g (wy.setCell ⟨g', j, none⟩ (.bool q)) (rowM P s (nxt P b)) ∧ W3.grownBy (wy.setCell ⟨g', j, none⟩ (.bool q)) none := fun wy Gy => by
              have hD2 := hD.grown Gy
              have hR2 := hR.grown Gy
              have hset := hD2.set j q
              rw [hq, rowD_set P s b j (by rw [← hn.out]; omega)] at hset
              refine ⟨hD2.cell ?_, hD2.free j, by rw [hq]; exact hset, hR2.other hgg.out j _, grow_set (hGx.trans Gy) h3g'.out⟩
              have : j < (rowD P s b j).length := by unfold rowD; rw [List.length_map, List.length_range, ← hn.out]; omega
              rw [List.getElem?_eq_getElem this]; rfl
            obtain ⟨u0, hu0⟩ : ∃ u0, u0 = ((rowD P s b j)[j]?).getD false := ⟨_, rfl⟩
            rw [← hu0] at key
            replace key := Lib.hid key; replace hJ := Lib.hid hJ; replace hD := Lib.hid hD; replace hR := Lib.hid hR; replace hGx := Lib.hid hGx; replace hrd := Lib.hid hrd; replace hq := Lib.hid hq; replace hu0 := Lib.hid hu0; replace hc := Lib.hid hc
            cases r with
            | false =>
              have hq1 : q = false := by rw [hnew]; rfl
              subst hq1
              clear hnew
              obtain ⟨k1, k2, k3, k4, k5⟩ := key.out wr (World.grownBy.refl _ _)
              replace k3 := Lib.hid k3; replace k4 := Lib.hid k4; replace k5 := Lib.hid k5
              go_wp2_with fail
              exact ⟨⟨j + 1, by first | rfl | rw [hwj], by omega, Lib.hid ⟨k3.out, k4.out, k5.out⟩⟩, by first | (simp [intOf]; done) | (simp [intOf]; omega)⟩
            | true =>
              have hq1 : q = (partL (P.drop b) c).1 := by rw [hnew, Bool.true_and]
              rw [← hq1] at hnew
              clear hnew
              have CO2 : Hid (∀ W, Calls Tryz.prog 24 #[.string S, .int .i64 b, .int .u8 (c.toNat : Int)] W fun e w' => e = .returned (.bool q) ∧ W.grownBy w' none) := Lib.hid fun W => by rw [hq1]; exact CO.out b c W hbl
              replace hq1 := Lib.hid hq1
              go_wp2_with fail
              refine (CO2.out _).mono ?_
              rintro e wy ⟨rfl, Gy⟩
              obtain ⟨k1, k2, k3, k4, k5⟩ := key.out wy Gy
              replace k3 := Lib.hid k3; replace k4 := Lib.hid k4; replace k5 := Lib.hid k5; replace Gy := Lib.hid Gy
              go_wp2_with fail
              exact ⟨⟨j + 1, by first | rfl | rw [hwj], by omega, Lib.hid ⟨k3.out, k4.out, k5.out⟩⟩, by first | (simp [intOf]; done) | (simp [intOf]; omega)⟩
          · have hjn2 : j = n := by omega
            have hjli : ¬ ((j : Int) < (n : Int)) := by omega
            rw [hjn2, hn.out, rowD_all P s b (match_one_end ha.out h42 (Nat.le_refl _))] at hD
            have hfin := fin.out wr hD hGx
            replace hJ := Lib.hid hJ; replace hD := Lib.hid hD; replace hR := Lib.hid hR; replace hGx := Lib.hid hGx; replace hfin := Lib.hid hfin
            go_wp2_with fail
            exact ⟨hfin.out, by first | (simp [intOf]; done) | (simp [intOf]; omega)⟩
end Go.Proofs.YtfhdfhlabkeipaaGreatDoor
