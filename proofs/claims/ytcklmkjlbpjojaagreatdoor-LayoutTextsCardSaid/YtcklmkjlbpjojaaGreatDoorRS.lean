/- Layout: the reference's Apply: what it leaves. No walk. -/
import Derived.Test.YtcklmkjlbpjojaaGreatDoorRR
namespace Go.Proofs.YtcklmkjlbpjojaaGreatDoor
open Go.RowKit
set_option linter.unusedSimpArgs false
set_option linter.unusedVariables false

theorem leafR_reg {f : Nat → Int} {t s : T} {w : World} (hT : RP w t) (hs : s ∈ t.leaves) : (s.reg f).n.p = f s.g := by
  obtain ⟨_, h, _⟩ := mem_leavesR t w hT s hs
  cases s with | mk n ks => cases h; rw [T.reg_mk]; simp [T.n, T.g]
theorem RP_reg {f : Nat → Int} : ∀ (t : T) (w w' : World), RP w t → t.bl.Nodup →
    (∀ s ∈ t.leaves, ∀ c e z, w.heap[s.g]? = some (.cells c e z) → w'.heap[s.g]? = some (.cells (c.setIfInBounds 0 (.int .i64 (f s.g))) e z)) →
    (∀ b ∈ t.bl, (∀ s ∈ t.leaves, s.g ≠ b) → w'.heap[b]? = w.heap[b]?) → RP w' (t.reg f) := by
  intro t
  induction t using T.ind with
  | h n ks ih =>
    intro w w' hT hN h1 h2
    have hA := hT.at_
    rw [T.bl_mk] at hN h2
    have hgA : ∀ b, n.A = some b → b ≠ n.g := fun b hb e => (List.nodup_cons.1 hN).1 (by subst e; simp [hb])
    rw [T.reg_mk]
    by_cases hk : ks.length = 0
    · have := List.eq_nil_of_length_eq_zero hk
      subst this
      rw [if_pos hk, regL]
      have hlv : (T.mk n []).leaves = [.mk n []] := by rw [T.leaves_mk, leavesL_nil]; rfl
      rw [hlv] at h1 h2
      refine .mk ⟨?_, ?_⟩ (by rw [RPs]; trivial)
      · exact h1 (.mk n []) (by simp) _ _ _ hA.h
      · refine own_same hA.r fun b hb => ?_
        rw [ownBlock_row] at hb
        replace hb : n.A = some b := hb
        exact h2 b (by simp [hb]) (by intro s hs; simp at hs; subst hs; exact fun e => hgA b hb e.symm)
    · rw [if_neg hk]
      have hlv : (T.mk n ks).leaves = leavesL ks := by rw [T.leaves_mk, if_neg hk]; rfl
      rw [hlv] at h1 h2
      have hsb : ∀ s ∈ leavesL ks, s.g ∈ blL ks := fun s hs => by
        obtain ⟨k, hk, hs⟩ := mem_leavesL.1 hs
        obtain ⟨_, _, h⟩ := mem_leavesR k w (RPs_iff.1 hT.kids k hk) s hs
        exact mem_blL.2 ⟨k, hk, h _ s.g_mem⟩
      have hn1 := (List.nodup_cons.1 hN)
      have hn2 := List.nodup_append.1 hn1.2
      refine .mk ⟨?_, ?_⟩ (RPs_iff.2 fun k' hk' => ?_)
      · rw [regL_len, h2 n.g (by simp) (fun s hs e => hn1.1 (by rw [← e]; simp [hsb s hs]))]; exact hA.h
      · rw [regL_len, regL_ptrs]
        refine own_same hA.r fun b hb => ?_
        rw [ownBlock_row] at hb
        exact h2 b (by simp [hb]) (fun s hs e => hn2.2.2 b (by simp [hb]) _ (hsb s hs) e.symm)
      · rw [regL_map] at hk'
        obtain ⟨k, hk, rfl⟩ := List.mem_map.1 hk'
        have hsub : ∀ s ∈ k.leaves, s ∈ leavesL ks := fun s hs => mem_leavesL.2 ⟨k, hk, hs⟩
        have hkT := RPs_iff.1 hT.kids k hk
        obtain ⟨L, R, rfl⟩ := List.append_of_mem hk
        rw [blL_app, blL_cons] at hn2
        have hn3 := List.nodup_append.1 hn2.2.1
        have hn4 := List.nodup_append.1 hn3.2.1
        refine ih k hk w w' hkT hn4.1 (fun s hs => h1 s (hsub s hs)) fun b hb hs => h2 b ?_ ?_
        · simp [blL_app, blL_cons, hb]
        · intro s hs' e
          rw [leavesL_app, leavesL_cons] at hs'
          simp only [List.mem_append] at hs'
          have hx : ∀ l : List T, s ∈ leavesL l → (∀ j ∈ l, RP w j) → s.g ∈ blL l := fun l hs hj => by
            obtain ⟨j, hjl, hs⟩ := mem_leavesL.1 hs
            obtain ⟨_, _, h⟩ := mem_leavesR j w (hj j hjl) s hs
            exact mem_blL.2 ⟨j, hjl, h _ s.g_mem⟩
          rcases hs' with h | h | h
          · have := hx L h (fun j hj => RPs_iff.1 hT.kids j (by simp [hj]))
            rw [e] at this
            exact hn3.2.2 b this b (by simp [hb]) rfl
          · exact hs s h e
          · have := hx R h (fun j hj => RPs_iff.1 hT.kids j (by simp [hj]))
            rw [e] at this
            exact hn4.2.2 b hb b this rfl
/-- What the reference's Apply leaves. -/
def AppPostR (tr : Nat) (t : T) (s : List UInt8) (w : World) (e : Ending) (w' : World) : Prop :=
  ∃ t' : T, e = .returned (.int .i64 (appC s t.leaves.length)) ∧ RTr w' tr t' ∧ Off [tr] w w' ∧
    ((appC s t.leaves.length ≠ 0 ∧ t' = t) ∨
     (appC s t.leaves.length = 0 ∧ ∃ (t0 : T) (f : Nat → Int), AppAt s t0 ∧ t0.leaves.length = t.leaves.length ∧ t' = t0.reg f ∧ t'.leaves.map (fun s => s.n.p) = t.leaves.map (fun s => s.n.p) ∧ ∀ b ∈ t'.bl, w.heap.size ≤ b))
theorem app_noR {tr : Nat} {t : T} {s : List UInt8} {w w' : World} (hT : RTr w tr t) (err : Int) (he : err ≠ 0) (hg : w.grownBy w' none) (hn : appC s t.leaves.length = err) : AppPostR tr t s w (.returned (.int .i64 err)) w' :=
  ⟨t, by rw [hn], hT.grown hg, Off.of_grown hg, .inl ⟨by rw [hn]; exact he, rfl⟩⟩
theorem GivI.doneR {W wr : World} {t0 : T} {pp : List Int} {j : Nat} (h : GivI W t0.leaves pp j wr) (hj : j = t0.leaves.length) (hl : pp.length = t0.leaves.length) (hT : RP W t0) (hn : t0.bl.Nodup) :
    ∃ f, RP wr (t0.reg f) ∧ (t0.reg f).leaves.map (fun s => s.n.p) = pp := by
  have hgn := leaves_gnd hn
  have hf : ∀ (i : Nat) (s : T) (p : Int), t0.leaves[i]? = some s → pp[i]? = some p → pickF (t0.leaves.map T.g) pp s.g = p := fun i s p h1 h2 => pickF_at _ _ i s.g p hgn (by rw [List.getElem?_map, h1]; rfl) h2
  refine ⟨pickF (t0.leaves.map T.g) pp, RP_reg t0 W wr hT hn (fun s hs c e z hc => ?_) (fun b hb hs => ?_), ?_⟩
  · obtain ⟨i, hi⟩ := List.mem_iff_getElem?.1 hs
    have hil := (List.getElem?_eq_some_iff.1 hi).1
    have hp : pp[i]? = some (pp[i]'(by omega)) := List.getElem?_eq_getElem _
    rw [hf i s _ hi hp]
    exact h.a i s _ (by omega) hi hp c e z hc
  · exact h.b b fun i s _ hi => hs s (List.mem_of_getElem? hi)
  · rw [T.reg_leaves, List.map_map]
    refine List.ext_getElem? fun i => ?_
    rw [List.getElem?_map]
    cases hi : t0.leaves[i]? with
    | none =>
      have := List.getElem?_eq_none_iff.1 hi
      rw [List.getElem?_eq_none (by omega)]; rfl
    | some s =>
      have hil := (List.getElem?_eq_some_iff.1 hi).1
      have hp : pp[i]? = some (pp[i]'(by omega)) := List.getElem?_eq_getElem _
      rw [hp]
      show some ((s.reg _).n.p) = _
      rw [leafR_reg hT (List.mem_of_getElem? hi), hf i s _ hi hp]
theorem GivI.drewN {W wr : World} {l0 : List T} {pp : List Int} {j : Nat} (h : GivI W l0 pp j wr) (n : Nat) : GivI W l0 pp j (wr.drewN n) := ⟨h.os, h.tape, h.output, h.size, h.a, h.b⟩
theorem app_yesR {tr : Nat} {t t0 : T} {s : List UInt8} {w W wr : World} {pp : List Int} (hT : RTr w tr t) (ho : Off [] w W) (hA : AppAt s t0) (hl : t0.leaves.length = t.leaves.length)
    (hp : RP W t0) (hn : t0.bl.Nodup) (hb : ∀ b ∈ t0.bl, w.heap.size ≤ b) (hpp : pp = t.leaves.map (fun s => s.n.p)) (hG : GivI W t0.leaves pp t0.leaves.length wr) :
    AppPostR tr t s w (.returned (.int .i64 0)) (wr.setCell ⟨tr, 0, none⟩ (ptr t0.g)) := by
  obtain ⟨f, h1, h2⟩ := hG.doneR rfl (by rw [hpp, List.length_map, hl]) hp hn
  have htr := hT.lt
  have hlv : ∀ s ∈ t0.leaves, w.heap.size ≤ s.g := fun s hs => hb _ ((leaves_sub t0).subset (List.mem_map_of_mem hs))
  have htrW : wr.heap[tr]? = some (.cells #[ptr t.g] 57 (0, 0)) := by
    rw [hG.b tr fun i s _ hs e => by have := hlv s (List.mem_of_getElem? hs); omega, ho.block tr htr (by simp)]; exact hT.h
  have o : Off [tr] wr (wr.setCell ⟨tr, 0, none⟩ (ptr t0.g)) := Off.set wr ⟨tr, 0, none⟩ _
  have hOff : Off [tr] w (wr.setCell ⟨tr, 0, none⟩ (ptr t0.g)) := by
    refine ⟨o.os.trans (hG.os.trans ho.os), o.tape.trans (hG.tape.trans ho.tape), o.output.trans (hG.output.trans ho.output), by have := o.size; have := ho.size; have := hG.size; omega, fun k hk hkS => ?_⟩
    rw [o.block k (by have := ho.size; have := hG.size; omega) hkS, hG.b k fun i s _ hs e => by have := hlv s (List.mem_of_getElem? hs); omega]
    exact ho.block k hk (by simp)
  have hnt : tr ∉ t0.bl := fun h => by have := hb tr h; omega
  have h0 := appC_ok hA hl
  refine ⟨t0.reg f, by rw [h0], ⟨?_, h1.off o (by rw [T.reg_bl]; intro b hb' e; simp at e; subst e; exact hnt hb'), by rw [T.reg_bl]; exact hn, by rw [T.reg_bl]; exact hnt⟩, hOff, .inr ⟨h0, t0, f, hA, hl, rfl, by rw [h2, hpp], fun b hb' => by rw [T.reg_bl] at hb'; exact hb b hb'⟩⟩
  rw [T.reg_g]
  exact heap_set (j := 0) htrW _
theorem app_roundR {tr n0 B1 B2 : Nat} {t t0 : T} {pp : List Int} {w w5 w6 w8 : World} {A1 A2 : Option Addr} {c1 c2 : Nat} (hT : RTr w tr t) (hT5 : RTr w5 tr t) (O1 : w6.ownsRow B1 52 1 (.slice A1 n0 c1) n0 (ptrs t.leaves))
    (O2 : w8.ownsRow B2 52 1 (.slice A2 n0 c2) n0 (ptrs t0.leaves)) (hB1 : w5.heap.size ≤ B1) (hB2 : w5.heap.size ≤ B2) (g58 : w5.grownBy w8 none) (g68 : w6.grownBy w8 none) (hp5 : RP w5 t0) (hd0 : t0.bl.Nodup) (hb0w : ∀ b ∈ t0.bl, w.heap.size ≤ b)
    (hnl : n0 = t.leaves.length) (hn0 : n0 = t0.leaves.length) (hpp : pp = t.leaves.map (fun s => s.n.p)) :
    ∃ b2 f2 b1 f1, A2 = some ⟨b2, f2, none⟩ ∧ A1 = some ⟨b1, f1, none⟩ ∧ ∀ (j : Nat) (wr : World), j < n0 → GivI w8 t0.leaves pp j wr → ∃ (g0 g1 : Nat) (p0 p1 : Int), wr.cell? ⟨b2, f2 + j, none⟩ = some (.pointer (some ⟨g0, 0, none⟩)) ∧ wr.cell? ⟨b1, f1 + j, none⟩ = some (.pointer (some ⟨g1, 0, none⟩)) ∧
      wr.cell? ⟨g1, 0, none⟩ = some (.int .i64 p1) ∧ wr.cell? ⟨g0, 0, none⟩ = some (.int .i64 p0) ∧ wr.frozen? ⟨g0, 0, none⟩ = false ∧ ∀ W, W = wr.drew → GivI w8 t0.leaves pp (j + 1) (W.setCell ⟨g0, 0, none⟩ (.int .i64 p1)) := by
  have hp8 := hp5.grown g58
  have hrow2 : ∃ b2 f2, A2 = some ⟨b2, f2, none⟩ ∧ w5.heap.size ≤ b2 ∧ ∀ j s, t0.leaves[j]? = some s → w8.cell? ⟨b2, f2 + j, none⟩ = some (ptr s.g) := by
    have hne : 0 < t0.leaves.length := List.length_pos_iff.2 (leaves_ne t0)
    obtain ⟨s, hs⟩ : ∃ s, t0.leaves[0]? = some s := ⟨t0.leaves[0], List.getElem?_eq_getElem _⟩
    obtain ⟨b2, f2, rfl, _, _⟩ := (own_Rd O2).at_ (j := 0) (u := ptr s.g) (by simp [ptrs, hs])
    refine ⟨b2, f2, rfl, Nat.le_trans hB2 (O2.lt b2 rfl).1, fun j s' hs' => ?_⟩
    obtain ⟨b', f', e, _, h⟩ := (own_Rd O2).at_ (j := j) (u := ptr s'.g) (by simp [ptrs, hs'])
    cases e; exact h
  have hrow1 : ∃ b1 f1, A1 = some ⟨b1, f1, none⟩ ∧ w5.heap.size ≤ b1 ∧ ∀ j s, t.leaves[j]? = some s → w8.cell? ⟨b1, f1 + j, none⟩ = some (ptr s.g) := by
    have hne : 0 < t.leaves.length := List.length_pos_iff.2 (leaves_ne t)
    obtain ⟨s, hs⟩ : ∃ s, t.leaves[0]? = some s := ⟨t.leaves[0], List.getElem?_eq_getElem _⟩
    obtain ⟨b1, f1, rfl, _, _⟩ := (own_Rd O1).at_ (j := 0) (u := ptr s.g) (by simp [ptrs, hs])
    refine ⟨b1, f1, rfl, Nat.le_trans hB1 (O1.lt b1 rfl).1, fun j s' hs' => ?_⟩
    obtain ⟨b', f', e, _, h⟩ := (own_Rd O1).at_ (j := j) (u := ptr s'.g) (by simp [ptrs, hs'])
    cases e; exact g68.cell h (by simp)
  obtain ⟨b2, f2, rfl, hb2, hc2⟩ := hrow2
  obtain ⟨b1, f1, rfl, hb1, hc1⟩ := hrow1
  have hlo : ∀ s ∈ t0.leaves, w.heap.size ≤ s.g ∧ s.g < w5.heap.size := fun s hs => by
    have hm := (leaves_sub t0).subset (List.mem_map_of_mem hs)
    exact ⟨hb0w _ hm, RP.lt _ hp5 _ hm⟩
  have hgn := leaves_gnd hd0
  refine ⟨b2, f2, b1, f1, rfl, rfl, fun j wr hj hI => ?_⟩
  obtain ⟨s0, hs0⟩ : ∃ s, t0.leaves[j]? = some s := ⟨t0.leaves[j]'(by omega), List.getElem?_eq_getElem _⟩
  obtain ⟨s1, hs1⟩ : ∃ s, t.leaves[j]? = some s := ⟨t.leaves[j]'(by omega), List.getElem?_eq_getElem _⟩
  have hm0 := List.mem_of_getElem? hs0
  have hm1 := List.mem_of_getElem? hs1
  have hT8 : RTr w8 tr t := hT5.grown g58
  have hA0 : RAt w8 s0.n [] := leafR_at hp8 hm0
  have hA1 : RAt w8 s1.n [] := leafR_at hT8.p hm1
  have hsb := (mem_leavesR t w8 hT8.p s1 hm1).2.2
  have h1lt : s1.g < w.heap.size := RP.lt _ hT.p _ (hsb _ s1.g_mem)
  have hhp : wr.heap[s0.g]? = w8.heap[s0.g]? := hI.b s0.g fun i s' hi hs' => gnd_ne hgn hs' hs0 (by omega)
  refine ⟨s0.g, s1.g, s0.n.p, s1.n.p, hI.cell (hc2 j s0 hs0) fun s hs => ?_, hI.cell (hc1 j s1 hs1) fun s hs => ?_, hI.cell hA1.c0 fun s hs => ?_, ?_, ?_, ?_⟩
  · have := hlo s hs; show s.g ≠ b2; omega
  · have := hlo s hs; show s.g ≠ b1; omega
  · have := hlo s hs; show s.g ≠ s1.g; omega
  · rw [World.cell?_of_block hhp]; exact hA0.c0
  · exact free_of_heap (hhp.trans hA0.h) 0
  · rintro W rfl
    have h1 : GivI w8 t0.leaves pp j wr.drew := ⟨hI.os, hI.tape, hI.output, hI.size, hI.a, hI.b⟩
    exact h1.next hgn hs0 (by rw [hpp, List.getElem?_map, hs1]; rfl)
theorem app_lastR {tr n0 : Nat} {t t0 : T} {s : List UInt8} {pp : List Int} {w w8 wr : World} (hT : RTr w tr t) (O08 : Off [] w w8) (hA0 : AppAt s t0) (hp8 : RP w8 t0) (hd0 : t0.bl.Nodup) (hb0w : ∀ b ∈ t0.bl, w.heap.size ≤ b)
    (hnl : n0 = t.leaves.length) (hn0 : n0 = t0.leaves.length) (hpp : pp = t.leaves.map (fun s => s.n.p)) (hI : GivI w8 t0.leaves pp n0 wr) :
    wr.cell? ⟨tr, 0, none⟩ = some (ptr t.g) ∧ wr.frozen? ⟨tr, 0, none⟩ = false ∧ AppPostR tr t s w (.returned (.int .i64 0)) (wr.setCell ⟨tr, 0, none⟩ (ptr t0.g)) := by
  rw [hn0] at hI
  have hfin := app_yesR hT O08 hA0 (by rw [← hn0, ← hnl]) hp8 hd0 hb0w hpp hI
  have htr : wr.heap[tr]? = some (.cells #[ptr t.g] 57 (0, 0)) := by
    rw [hI.b tr fun i s _ hs e => by
      have := hb0w _ ((leaves_sub t0).subset (List.mem_map_of_mem (List.mem_of_getElem? hs)))
      have := hT.lt; omega, O08.block tr hT.lt (by simp)]
    exact hT.h
  exact ⟨by rw [cell_of_heap htr]; rfl, free_of_heap htr 0, hfin⟩
/-- The loop over a text's head. -/
theorem trim_all (l : List UInt8) : Lib.trimS l hexSigns = [] ↔ ∀ c ∈ l, hexSigns.contains c = true := by
  constructor
  · intro h c hc
    have hL : ∀ m : List UInt8, (∀ c ∈ m, hexSigns.contains c = true) ∨ ∃ c ∈ m, hexSigns.contains c = false := fun m => by
      by_cases h : ∀ c ∈ m, hexSigns.contains c = true
      · exact .inl h
      · right
        simp only [Classical.not_forall] at h
        obtain ⟨c, hc, h⟩ := h
        exact ⟨c, hc, by simpa using h⟩
    have hdw : ∀ m : List UInt8, (∃ c ∈ m, hexSigns.contains c = false) → ∃ c ∈ m.dropWhile hexSigns.contains, hexSigns.contains c = false := by
      intro m
      induction m with
      | nil => rintro ⟨c, hc, _⟩; cases hc
      | cons a m ih =>
        rintro ⟨c, hc, hf⟩
        rw [List.dropWhile_cons]
        cases ha : hexSigns.contains a with
        | false => exact ⟨a, by simp, ha⟩
        | true =>
          rw [if_pos rfl]
          rcases List.mem_cons.1 hc with rfl | hc
          · rw [ha] at hf; cases hf
          · exact ih ⟨c, hc, hf⟩
    rcases hL l with h1 | h1
    · exact h1 c hc
    · exfalso
      unfold Lib.trimS Lib.trimRightS at h
      obtain ⟨c2, hc2, hf2⟩ := h1
      obtain ⟨d, hd, hf⟩ := hdw l.reverse ⟨c2, by simpa using hc2, hf2⟩
      obtain ⟨d2, hd2, hf2⟩ := hdw (l.reverse.dropWhile hexSigns.contains).reverse ⟨d, by simpa using hd, hf⟩
      change d2 ∈ Lib.trimLeftS (List.dropWhile (fun x => hexSigns.contains x) l.reverse).reverse hexSigns at hd2
      rw [h] at hd2
      cases hd2
  · intro h
    have h2 : ∀ c ∈ l.reverse, hexSigns.contains c = true := fun c hc => h c (by simpa using hc)
    unfold Lib.trimS Lib.trimRightS
    rw [dw_all h2]
    rfl
set_option maxRecDepth 100000 in
theorem hexSigns_nat : ∀ n : Fin 256, hexSigns.contains (UInt8.ofNat n.val) = true ↔ (48 ≤ n.val ∧ n.val ≤ 57) ∨ (97 ≤ n.val ∧ n.val ≤ 102) := by decide
theorem hexSigns_iff (c : UInt8) : hexSigns.contains c = true ↔ (48 ≤ c.toNat ∧ c.toNat ≤ 57) ∨ (97 ≤ c.toNat ∧ c.toNat ≤ 102) := by
  have h := hexSigns_nat ⟨c.toNat, c.toNat_lt⟩
  simpa using h
end Go.Proofs.YtcklmkjlbpjojaaGreatDoor
