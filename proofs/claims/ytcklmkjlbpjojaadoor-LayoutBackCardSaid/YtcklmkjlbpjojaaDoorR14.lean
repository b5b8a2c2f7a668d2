/- Layout: a block of bytes of the call's own. No walk. Layout: the walk of LayoutBack. -/
import Derived.Test.YtcklmkjlbpjojaaDoorR3b
import Derived.Lib.ConvBytes
import Derived.Test.YtcklmkjlbpjojaaDoorR12
import Derived.Test.YtcklmkjlbpjojaaDoorM13
import Derived.Test.YtcklmkjlbpjojaaDoorH5
import Derived.Test.YtcklmkjlbpjojaaDoorL1
import Derived.Test.YtcklmkjlbpjojaaDoorH2
namespace Go.Proofs.YtcklmkjlbpjojaaDoor
open Go.RowKit
set_option linter.unusedSimpArgs false
set_option linter.unusedVariables false

/-- A block of bytes: its first cells are l. -/
def BB (w : World) (B : Nat) (l : List UInt8) : Prop := ∃ (C : Array Value) (z : Nat × Nat), w.heap[B]? = some (.cells C 5 z) ∧ (∀ (j : Nat) (c : UInt8), l[j]? = some c → C[j]? = some (b8 c)) ∧ l.length ≤ z.1
section
variable {w w' : World} {B : Nat} {l : List UInt8}
theorem BB.lt (h : BB w B l) : B < w.heap.size := by
  obtain ⟨C, z, h1, _⟩ := h
  exact (Array.getElem?_eq_some_iff.1 h1).1
theorem BB.at_ (h : BB w B l) {j : Nat} {c : UInt8} (hj : l[j]? = some c) : w.cell? ⟨B, j, none⟩ = some (b8 c) := by
  obtain ⟨C, z, h1, h2, _⟩ := h
  unfold World.cell?
  rw [h1]
  simpa using h2 j c hj
theorem BB.rdk (h : BB w B l) (k : Nat) : Rd w (some ⟨B, k, none⟩) (bs (l.drop k)) := fun _ => ⟨B, k, rfl, h.lt, fun j u hj => by
  rw [bs, List.getElem?_map, List.getElem?_drop] at hj
  cases hc : l[k + j]? with
  | none => rw [hc] at hj; simp at hj
  | some c =>
    rw [hc] at hj
    simp at hj
    subst hj
    exact h.at_ hc⟩
theorem BB.rd5 (h : BB w B l) : Rd w (some ⟨B, 0, none⟩) (bs (l.take 5)) := fun _ => ⟨B, 0, rfl, h.lt, fun j u hj => by
  rw [bs, List.getElem?_map, List.getElem?_take] at hj
  split at hj
  · cases hc : l[j]? with
    | none => rw [hc] at hj; simp at hj
    | some c =>
      rw [hc] at hj
      simp at hj
      subst hj
      rw [Nat.zero_add]
      exact h.at_ hc
  · simp at hj⟩
theorem BB.free (h : BB w B l) {k : Nat} (hk : k < l.length) : w.frozen? ⟨B, k, none⟩ = false := by
  obtain ⟨C, ⟨lo, hi⟩, h1, _, h3⟩ := h
  unfold World.frozen?
  rw [h1]
  simp at h3 ⊢
  intro h; omega
theorem BB.off {S : List Nat} (h : BB w B l) (o : Off S w w') (hB : B ∉ S) : BB w' B l := by
  have hlt := h.lt
  obtain ⟨C, z, h1, h2⟩ := h
  exact ⟨C, z, (o.block B hlt hB).trans h1, h2⟩
theorem BB.set (h : BB w B l) {k : Nat} (c : UInt8) (hk : k < l.length) : BB (w.setCell ⟨B, k, none⟩ (b8 c)) B (l.set k c) := by
  obtain ⟨C, z, h1, h2, h3⟩ := h
  refine ⟨_, z, heap_set h1 (b8 c), fun j d hj => ?_, by simpa using h3⟩
  rw [List.getElem?_set] at hj
  have hkC : k < C.size := by
    have := h2 k _ (List.getElem?_eq_getElem hk)
    exact (Array.getElem?_eq_some_iff.1 this).1
  rw [Array.getElem?_setIfInBounds]
  by_cases hkj : k = j
  · subst hkj
    rw [if_pos rfl] at hj ⊢
    rw [if_pos hk] at hj
    rw [if_pos hkC]
    injection hj with hj; rw [hj]
  · rw [if_neg hkj] at hj ⊢
    exact h2 j d hj
end
theorem BB.new (W : World) (l : List UInt8) : ∃ cap W', (convert 9 47 (.string (st l))).run Tryd.prog W = .ok (.slice (some ⟨W.heap.size, 0, none⟩) l.length cap) W' ∧ BB W' W.heap.size l ∧ W.grownBy W' none ∧ l.length ≤ cap := by
  have hrun := Lib.run_convert_string_bytes (P := Tryd.prog) W 9 47 5 (st l) Tryd.underlying9 Tryd.underlying47 Tryd.underlying5
  rw [st_size] at hrun
  refine ⟨_, _, hrun, ⟨_, _, Lib.bytesWorld_at_new W 5 (st l), fun j c hj => ?_, ?_⟩, ?_⟩
  · have hj2 := (List.getElem?_eq_some_iff.1 hj).1
    unfold Lib.bytesCells
    rw [Array.getElem?_append_left (by simp [st]; exact hj2)]
    simp [st, hj, b8]
  · unfold Lib.bytesCells
    simp [st]
  · exact ⟨⟨rfl, rfl, rfl, by rw [Lib.bytesWorld_size]; omega, fun k hk _ => Lib.bytesWorld_at_old W 5 (st l) k hk⟩, grownCap_ge _ _ _ _⟩
theorem bxor8 (a b : Nat) (ha : a < 256) (hb : b < 256) : ∃ c : UInt8, bits .xor .u8 (a : Int) (b : Int) = (c.toNat : Int) := by
  have h0 : 0 ≤ bits .xor .u8 (a : Int) (b : Int) ∧ bits .xor .u8 (a : Int) (b : Int) < 256 := by
    unfold bits
    have hw : ∀ z : Int, 0 ≤ IntKind.u8.wrap z ∧ IntKind.u8.wrap z < 256 := fun z => by
      have : IntKind.u8.wrap z = z % 256 := by simp [IntKind.wrap]; rfl
      rw [this]; omega
    exact hw _
  refine ⟨UInt8.ofNat (bits .xor .u8 (a : Int) (b : Int)).toNat, ?_⟩
  have : (UInt8.ofNat (bits .xor .u8 (a : Int) (b : Int)).toNat).toNat = (bits .xor .u8 (a : Int) (b : Int)).toNat := by
    rw [UInt8.toNat_ofNat']; omega
  rw [this]; omega
end Go.Proofs.YtcklmkjlbpjojaaDoor
namespace Go.Proofs.YtcklmkjlbpjojaaDoor
open Go.RowKit
set_option linter.unusedSimpArgs false
set_option linter.unusedVariables false

theorem Tr.below {base tr B : Nat} {w w' : World} {t : T} (h : Tr base w tr t) (hB : Below B w w') (hs : w.heap.size ≤ B) : Tr base w' tr t :=
  ⟨(hB.block tr (Nat.lt_of_lt_of_le h.lt hs)).trans h.h, h.p.below hB fun b hb => Nat.lt_of_lt_of_le (h.p.lt _ _ b hb) hs, h.nd, h.nt, h.lo⟩
theorem below_offs {B : Nat} {w x y : World} {S : List Nat} (h : Below B w x) (o : Off S x y) (hs : ∀ b ∈ S, B ≤ b) (hB : B ≤ w.heap.size) : Below B w y :=
  ⟨o.os.trans h.os, o.tape.trans h.tape, o.output.trans h.output, Nat.le_trans h.size o.size, fun k hk => (o.block k (by have := h.size; omega) fun hm => by have := hs k hm; omega).trans (h.block k hk)⟩
/-- A tree that was read anew from its own text bears that text. -/
theorem again {s : List UInt8} {t t0 t' : T} {f : Nat → Int} {L : List Int} (hA : AppAt s t0) (hO : AppAt s t) (ht' : t' = t0.reg f) (hp : t'.leaves.map (fun s => s.n.p) = t.leaves.map (fun s => s.n.p)) : t'.pt = t.pt := by
  have h0 := hA.same hO
  have h1 : t0.leaves.map (fun s => s.n.p) = t.leaves.map (fun s => s.n.p) := by
    have := congrArg (List.map Prod.fst) (leaves_congr t0 t h0)
    rw [List.map_map, List.map_map] at this
    exact this
  rw [ht', ← h0]
  refine reg_pt t0 ?_
  rw [← ht', hp, h1]
/-- A pane's box, where it was read anew: the place of the one, the pane of the other. -/
theorem box_anew {s : List UInt8} {t u t0 u' : T} {f : Nat → Int} {w : World} {up : Option Nat} (hA : AppAt s t0) (hO : AppAt s t) (hu : u' = t0.reg f) (hp : u'.leaves.map (fun s => s.n.p) = u.leaves.map (fun s => s.n.p)) {j : Nat} {a b c : T}
    (ha : t.leaves[j]? = some a) (hb : u.leaves[j]? = some b) (hc : u'.leaves[j]? = some c) : c.n.p = b.n.p ∧ c.n.x = a.n.x ∧ c.n.y = a.n.y ∧ c.n.a = a.n.a ∧ c.n.b = a.n.b := by
  have h1 := congrArg (fun l => l[j]?) hp
  simp only [List.getElem?_map, hb, hc, Option.map_some, Option.some.injEq] at h1
  have h0 := leaves_congr t0 t (hA.same hO)
  have h2 := congrArg (fun l => l[j]?) h0
  rw [hu, T.reg_leaves, List.getElem?_map] at hc
  cases hd : t0.leaves[j]? with
  | none => rw [hd] at hc; cases hc
  | some d =>
    rw [hd] at hc
    simp only [Option.map_some, Option.some.injEq] at hc
    simp only [List.getElem?_map, ha, hd, Option.map_some, Option.some.injEq, box6, Prod.mk.injEq] at h2
    obtain ⟨_, e2, e3, e4, e5⟩ := h2
    refine ⟨h1, ?_⟩
    rw [← hc]
    cases d with
    | mk n ks =>
      rw [T.reg_mk]
      simp only [T.n] at e2 e3 e4 e5 ⊢
      split <;> exact ⟨e2, e3, e4, e5⟩

theorem box_rows {w7 w' : World} {lo n c : Nat} {A : Option Addr} {ls : List T} {S : List Nat} (O : w7.ownsRow lo 30 5 (.slice A n c) n (boxes ls)) (hn : ls ≠ []) (o : Off S w7 w') (hS : ∀ b ∈ S, b < lo) :
    ∃ b f, A = some ⟨b, f, none⟩ ∧ ∀ (j : Nat) (a : T), ls[j]? = some a → w'.cell? ⟨b, f + j * 5, none⟩ = some (.int .i64 a.n.p) ∧ w'.cell? ⟨b, f + j * 5 + 1, none⟩ = some (.int .i64 a.n.x) ∧ w'.cell? ⟨b, f + j * 5 + 2, none⟩ = some (.int .i64 a.n.y) ∧ w'.cell? ⟨b, f + j * 5 + 3, none⟩ = some (.int .i64 a.n.a) ∧ w'.cell? ⟨b, f + j * 5 + 4, none⟩ = some (.int .i64 a.n.b) := by
  obtain ⟨A5x, c5x, e5x, R5, _⟩ := Rd.of_own O
  injection e5x with e5x _ e5y
  subst e5x; subst e5y
  rw [boxes_boxL] at R5
  have hat : ∀ (j : Nat) (a : T), ls[j]? = some a → (ls.map fun t => (t.n.p, t.n.x, t.n.y, t.n.a, t.n.b))[j]? = some (a.n.p, a.n.x, a.n.y, a.n.a, a.n.b) := fun j a h => by rw [List.getElem?_map, h]; rfl
  obtain ⟨s0, hs0⟩ : ∃ s, ls[0]? = some s := by
    cases ls with
    | nil => exact absurd rfl hn
    | cons a l => exact ⟨a, rfl⟩
  obtain ⟨b, f, rfl, _, _⟩ := R5.at_ (boxL_at (hat 0 s0 hs0) 0 _ rfl)
  have hb := O.lt b rfl
  have hk : w'.heap[b]? = w7.heap[b]? := o.block b hb.2 fun h => by have := hS b h; omega
  refine ⟨b, f, rfl, fun j a ha => ?_⟩
  have hc : ∀ (i : Nat) (u : Value), (box5 (a.n.p, a.n.x, a.n.y, a.n.a, a.n.b))[i]? = some u → w'.cell? ⟨b, f + j * 5 + i, none⟩ = some u := by
    intro i u hu
    obtain ⟨b', off', e, _, h⟩ := R5.at_ (boxL_at (hat j a ha) i u hu)
    cases e
    rw [← Nat.add_assoc] at h
    rw [World.cell?_of_block (show w'.heap[(⟨b, f + j * 5 + i, none⟩ : Addr).block]? = _ from hk)]
    exact h
  exact ⟨hc 0 _ rfl, hc 1 _ rfl, hc 2 _ rfl, hc 3 _ rfl, hc 4 _ rfl⟩

set_option maxHeartbeats 1000000 in
set_option maxRecDepth 100000 in
theorem back_any (a0 b0 a1 z : Int) (A : Option Addr) (len c : Nat) (l : List OpW) (A' : Option Addr) (len' c' : Nat) (l' : List OpW) (w : World) (i1 : I64 a0) (i2 : I64 b0) (i3 : I64 a1) (hz : 0 ≤ z ∧ z ≤ 255)
    (hlen : len = l.length) (hl63 : len ≤ 9223372036854775807) (hO : ∀ o ∈ l, o.ok) (hR : Rd w A (opCells l)) (hlen' : len' = l'.length) (hl63' : len' ≤ 9223372036854775807) (hO' : ∀ o ∈ l', o.ok) (hR' : Rd w A' (opCells l')) (hTab : Tab w) (hD : Deb w) :
    Calls Tryd.prog 6 #[.int .i64 a0, .int .i64 b0, .slice A len c, .slice A' len' c', .int .i64 a1, .int .u8 z] w fun e w' => e = .returned (.bool true) ∧ Below w.heap.size w w' := by
  have CS := Lib.hid (shown_any w hTab hD)
  obtain ⟨wd, hwd⟩ : ∃ wd : Nat, wd = pickN a0 60 := ⟨_, rfl⟩
  obtain ⟨ht, hht⟩ : ∃ ht : Nat, ht = pickN b0 40 := ⟨_, rfl⟩
  have hwd60 : wd < 60 := by rw [hwd]; exact pickN_lt _ (by omega)
  have hht40 : ht < 40 := by rw [hht]; exact pickN_lt _ (by omega)
  have CP1 : Hid (∀ W, Calls Tryd.prog 9 #[.int .i64 a0, .int .i64 60] W fun e w' => e = .returned (.int .i64 (wd : Int)) ∧ w' = W) := Lib.hid fun W => by
    rw [hwd]; exact (pick_any a0 60 W i1.1 i1.2 (by omega) (by omega)).mono fun e w' h => ⟨h.1, h.2.symm⟩
  have CP2 : Hid (∀ W, Calls Tryd.prog 9 #[.int .i64 b0, .int .i64 40] W fun e w' => e = .returned (.int .i64 (ht : Int)) ∧ w' = W) := Lib.hid fun W => by
    rw [hht]; exact (pick_any b0 40 W i2.1 i2.2 (by omega) (by omega)).mono fun e w' h => ⟨h.1, h.2.symm⟩
  have hw1 : IntKind.i64.wrap (1 + (wd : Int)) = 1 + (wd : Int) := by rw [IntKind.wrap_i64]; omega
  have hw2 : IntKind.i64.wrap (1 + (ht : Int)) = 1 + (ht : Int) := by rw [IntKind.wrap_i64]; omega
  replace hwd := Lib.hid hwd; replace hht := Lib.hid hht; replace hO := Lib.hid hO; replace hR := Lib.hid hR; replace hTab := Lib.hid hTab; replace hD := Lib.hid hD; replace hlen := Lib.hid hlen
  replace hO' := Lib.hid hO'; replace hR' := Lib.hid hR'; replace hlen' := Lib.hid hlen'; replace hz := Lib.hid hz; replace hl63 := Lib.hid hl63; replace hl63' := Lib.hid hl63'
  replace i1 := Lib.hid i1; replace i2 := Lib.hid i2; replace i3 := Lib.hid i3
  go_enter Tryd.func6, Tryd.ntmps6
  go_wp2_with fail
  refine CS.out.mono ?_
  rintro e w1 ⟨rfl, B1⟩
  have CM := Lib.hid (made_alt (1 + (wd : Int)) (1 + (ht : Int)) A len c l w1 (by omega) hlen.out hl63.out hO.out (OpsIn.below hR.out B1))
  replace B1 := Lib.hid B1
  clear CS
  go_wp2_with fail
  refine (CP1.out _).mono ?_
  rintro e w2 ⟨rfl, rfl⟩
  go_wp2_with fail
  refine (CP2.out _).mono ?_
  rintro e w3 ⟨rfl, rfl⟩
  clear CP1 CP2
  go_wp2_with fail
  refine CM.out.mono ?_
  rintro e w4 ⟨tr, t, rfl, hT4, hF, B4, hlv, hAlt⟩
  have B04 : Below w.heap.size w w4 := B1.out.trans ⟨B4.os, B4.tape, B4.output, B4.size, fun k hk => B4.block k (by have := B1.out.size; omega)⟩
  obtain ⟨base, hbase⟩ : ∃ base, base = w3.heap.size := ⟨_, rfl⟩
  rw [← hbase] at hT4
  have hwb : w.heap.size ≤ base := by have := B1.out.size; omega
  have CM2 := Lib.hid (made_alt 250 120 A' len' c' l' w4 (by omega) hlen'.out hl63'.out hO'.out (OpsIn.below hR'.out B04))
  replace hT4 := Lib.hid hT4; replace hF := Lib.hid hF; replace B04 := Lib.hid B04; replace hbase := Lib.hid hbase; replace hlv := Lib.hid hlv; replace hAlt := Lib.hid hAlt; replace hwb := Lib.hid hwb
  clear CM B4 B1
  unfold ptr at *
  go_wp2_with fail
  refine CM2.out.mono ?_
  rintro e w5 ⟨ur, u, rfl, hU5, hFu, B5, hlu, _⟩
  have hT5 := hT4.out.below B5 (Nat.le_refl _)
  have htr : base ≤ tr ∧ tr < w4.heap.size := ⟨hT4.out.lo.1, hT4.out.lt⟩
  have hbt : ∀ b ∈ t.bl, b < w4.heap.size := fun b hb => hT4.out.p.lt _ _ b hb
  obtain ⟨base2, hbase2⟩ : ∃ base2, base2 = w4.heap.size := ⟨_, rfl⟩
  rw [← hbase2] at hU5 htr hbt
  have hbb : base ≤ base2 := by omega
  have B05 : Below w.heap.size w w5 := B04.out.trans ⟨B5.os, B5.tape, B5.output, B5.size, fun k hk => B5.block k (by have := B04.out.size; omega)⟩
  have hown := own_app hF.out hAlt.out hlv.out
  have hown6 : 6 ≤ t.print.length := by
    have h1 := hown.l2
    rcases Nat.lt_or_ge 5 t.print.length with h | h
    · exact h
    · exfalso
      have h2 := hown.rd
      have h3 : t.print.drop 5 = [] := List.drop_eq_nil_of_le h
      rw [h3] at h2
      have h4 := congrArg (fun r => r.2.2) h2
      exact absurd h4 (show ¬ (true = false) by decide)
  have hown4 := hown.l1
  obtain ⟨s, hs⟩ : ∃ s, s = t.print := ⟨_, rfl⟩
  rw [← hs] at hown hown6 hown4
  obtain ⟨sP, hsP⟩ : ∃ sP, sP = st s := ⟨_, rfl⟩
  have hPr : Hid (∀ W, Tr base W tr t → Below w.heap.size w W → Calls Tryd.prog 11 #[.pointer (some ⟨tr, 0, none⟩)] W fun e w' => e = .returned (.string sP) ∧ W.grownBy w' none) :=
    Lib.hid fun W hT hB => by
      rw [hsP, hs]
      exact print_any base tr t W hT hF.out.rg (ok_w01 hF.out.ok) (hTab.out.below hB) (hD.out.below hB) (hF.out.body (by have := hlv.out; omega))
  obtain ⟨sU, hsU⟩ : ∃ sU, sU = st u.print := ⟨_, rfl⟩
  have hPu : Hid (∀ W, Tr base2 W ur u → Below w.heap.size w W → Calls Tryd.prog 11 #[.pointer (some ⟨ur, 0, none⟩)] W fun e w' => e = .returned (.string sU) ∧ W.grownBy w' none) :=
    Lib.hid fun W hT hB => by
      rw [hsU]
      exact print_any base2 ur u W hT hFu.rg (ok_w01 hFu.ok) (hTab.out.below hB) (hD.out.below hB) (hFu.body (by omega))
  have hur : base2 ≤ ur := hU5.lo.1
  have CPr := Lib.hid (hPr.out w5 hT5 B05)
  replace hT5 := Lib.hid hT5; replace hU5 := Lib.hid hU5; replace hFu := Lib.hid hFu; replace B05 := Lib.hid B05; replace htr := Lib.hid htr; replace hbt := Lib.hid hbt; replace hbase2 := Lib.hid hbase2; replace hbb := Lib.hid hbb; replace hown := Lib.hid hown; replace hown6 := Lib.hid hown6; replace hown4 := Lib.hid hown4; replace hs := Lib.hid hs; replace hsP := Lib.hid hsP; replace hsU := Lib.hid hsU; replace hlu := Lib.hid hlu; replace hur := Lib.hid hur
  clear CM2 B5
  unfold ptr at *
  go_wp2_with fail
  refine CPr.out.mono ?_
  rintro e w6 ⟨rfl, G6⟩
  have hT6 := hT5.out.grown G6
  obtain ⟨nl, hnl⟩ : ∃ nl, nl = t.leaves.length := ⟨_, rfl⟩
  have CB := boxes_any base tr t w6 hT6 (by have := hlv.out; omega)
  rw [← hnl] at CB
  replace CB := Lib.hid CB
  replace hnl := Lib.hid hnl; replace G6 := Lib.hid G6; replace hT6 := Lib.hid hT6
  clear CPr
  unfold ptr at *
  go_wp2_with fail
  refine CB.out.mono ?_
  rintro e w7 ⟨A7, c7, rfl, O7, G7⟩
  have hT7 := hT6.out.grown G7
  have hU7 := (hU5.out.grown G6.out).grown G7
  have B07 : Below w.heap.size w w7 := below_offs B05.out (Off.of_grown (S := []) (G6.out.trans G7)) (by simp) (Nat.le_refl _)
  have CA := apply_any base tr t s w7 hT7 (by have := hT7.lt; have := hT7.lo.1; omega) (hD.out.below B07) (by have := hlv.out; omega) (by have := hown4.out; omega)
  rw [← hsP.out] at CA
  replace CA := Lib.hid CA
  replace O7 := Lib.hid O7; replace G7 := Lib.hid G7; replace hT7 := Lib.hid hT7; replace hU7 := Lib.hid hU7; replace B07 := Lib.hid B07
  clear CB
  unfold ptr at *
  go_wp2_with fail
  refine CA.out.mono ?_
  rintro e w8 ⟨err, t', rfl, hT8, O8, hcase⟩
  rcases hcase with ⟨_, _, hno⟩ | ⟨rfl, t0, f, hA0, hl0, ht', hps, hb8⟩
  · exact absurd rfl (hno t hown.out)
  have hpt : t'.pt = t.pt := again (L := []) hA0 hown.out ht' hps
  have O78 : Off [tr, ur] w7 w8 := O8.sub (by simp)
  have hU8 : Tr base2 w8 ur u := hU7.out.off O8 (by simp; have := htr.out; have := hur.out; omega) (fun b hb => by have := hU7.out.lo.2 b hb; have := htr.out; simp; omega)
  have hwtr : ∀ b ∈ [tr, ur], w.heap.size ≤ b := by have := htr.out; have := hur.out; have := hwb.out; simp; omega
  have B08 := below_offs B07.out O78 hwtr (Nat.le_refl _)
  have CP2 := print_any base tr t' w8 hT8 (rg_congr hpt.symm hF.out.rg) (w01_congr hpt.symm (ok_w01 hF.out.ok)) (hTab.out.below B08) (hD.out.below B08) (by rw [body_congr t' t hpt]; exact hF.out.body (by have := hlv.out; omega))
  rw [print_congr hpt, ← hs.out, ← hsP.out] at CP2
  replace CP2 := Lib.hid CP2
  replace hT8 := Lib.hid hT8; replace O8 := Lib.hid O8; replace hA0 := Lib.hid hA0; replace hl0 := Lib.hid hl0; replace ht' := Lib.hid ht'; replace hps := Lib.hid hps; replace hb8 := Lib.hid hb8; replace hpt := Lib.hid hpt; replace O78 := Lib.hid O78; replace hU8 := Lib.hid hU8; replace hwtr := Lib.hid hwtr; replace B08 := Lib.hid B08
  clear CA
  unfold ptr at *
  go_wp2_with fail
  refine CP2.out.mono ?_
  rintro e w9 ⟨rfl, G9⟩
  have hU9 := hU8.out.grown G9
  have O79 : Off [tr, ur] w7 w9 := O78.out.trans (Off.of_grown (S := []) G9) (by simp)
  obtain ⟨n, hn⟩ : ∃ n, n = s.length := ⟨_, rfl⟩
  obtain ⟨cap, w10, hcv, hB10, G10, hcap⟩ := BB.new w9 s
  rw [← hsP.out, ← hn] at hcv
  rw [← hn] at hcap
  obtain ⟨B, hB⟩ : ∃ B, B = w9.heap.size := ⟨_, rfl⟩
  rw [← hB] at hcv hB10
  have hn6 : 6 ≤ n := by rw [hn]; exact hown6.out
  have hn4 : n ≤ 4096 := by rw [hn]; exact hown4.out
  have hBw7 : w7.heap.size ≤ B := by rw [hB]; exact O79.size
  have O710 : Off [tr, ur] w7 w10 := O79.trans (Off.of_grown (S := []) G10) (by simp)
  have hU10 := hU9.grown G10
  obtain ⟨k1, hk1⟩ : ∃ k, k = pickN a1 n := ⟨_, rfl⟩
  have hk1l : k1 < n := by rw [hk1]; exact pickN_lt _ (by omega)
  have CP3 : Hid (∀ W, Calls Tryd.prog 9 #[.int .i64 a1, .int .i64 n] W fun e w' => e = .returned (.int .i64 (k1 : Int)) ∧ w' = W) := Lib.hid fun W => by
    rw [hk1]; exact (pick_any a1 n W i3.out.1 i3.out.2 (by omega) (by omega)).mono fun e w' h => ⟨h.1, h.2.symm⟩
  obtain ⟨c0, hc0⟩ : ∃ c, s[k1]? = some c := ⟨s[k1]'(by omega), List.getElem?_eq_getElem _⟩
  have b0' : w10.cell? ⟨B, k1, none⟩ = some (.int .u8 (c0.toNat : Int)) := hB10.at_ hc0
  have b1' : w10.frozen? ⟨B, k1, none⟩ = false := hB10.free (by omega)
  obtain ⟨cx, hcx⟩ : ∃ c : UInt8, bits .xor .u8 (c0.toNat : Int) z = (c.toNat : Int) := by
    obtain ⟨y, hy⟩ : ∃ y : Nat, z = (y : Int) := ⟨z.toNat, by have := hz.out; omega⟩
    rw [hy]
    exact bxor8 _ _ (by have := c0.toNat_lt; omega) (by have := hz.out; omega)
  obtain ⟨bb, hbb2⟩ : ∃ bb, bb = s.set k1 cx := ⟨_, rfl⟩
  have hbl : bb.length = n := by rw [hbb2, List.length_set, hn]
  obtain ⟨w11, hw11⟩ : ∃ W, W = w10.setCell ⟨B, k1, none⟩ (.int .u8 (cx.toNat : Int)) := ⟨_, rfl⟩
  have hB11 : BB w11 B bb := by rw [hw11, hbb2]; exact hB10.set cx (by omega)
  have o11 : Off [B] w10 w11 := by rw [hw11]; exact Off.set w10 ⟨B, k1, none⟩ _
  have O711 : Off [tr, ur] w7 w11 := O710.trans o11 (fun b hb => .inr (by simp at hb; rw [hb]; exact hBw7))
  have hBlt : B < w10.heap.size := hB10.lt
  have hU11 : Tr base2 w11 ur u := hU10.off o11 (by simp; have := hU9.lt; omega) (fun b hb => by have := hU9.p.lt _ _ b hb; simp; omega)
  have B011 := below_offs B07.out O711 hwtr.out (Nat.le_refl _)
  have CPu := Lib.hid (hPu.out w11 hU11 B011)
  have k10 : (0 : Int) ≤ k1 := by omega
  have k1n : (k1 : Int) < n := by omega
  replace hw11 := Lib.hid hw11; replace hB11 := Lib.hid hB11; replace O711 := Lib.hid O711; replace hU11 := Lib.hid hU11; replace B011 := Lib.hid B011; replace hbb2 := Lib.hid hbb2; replace hbl := Lib.hid hbl; replace hn := Lib.hid hn; replace hB := Lib.hid hB; replace hk1 := Lib.hid hk1; replace hc0 := Lib.hid hc0; replace hBw7 := Lib.hid hBw7; replace hBlt := Lib.hid hBlt
  clear CP2 o11 hU10 O710 hB10 G10 O79 hU9 G9
  unfold ptr at *
  go_wp2_with fail
  refine (CP3.out _).mono ?_
  rintro e w10' ⟨rfl, rfl⟩
  clear hcv CP3
  go_wp2_with fail
  rw [← hw11.out]
  refine CPu.out.mono ?_
  rintro e w12 ⟨rfl, G12⟩
  clear CPu
  obtain ⟨sB, hsB⟩ : ∃ S, S = st bb := ⟨_, rfl⟩
  have hcs : Hid (∀ W, BB W B bb → (convert 47 9 (.slice (some ⟨B, 0, none⟩) n cap)).run Tryd.prog W = .ok (.string sB) W) := Lib.hid fun W h => by
    rw [hsB]
    exact conv_str (P := Tryd.prog) W 47 9 5 Tryd.underlying47 Tryd.underlying5 Tryd.underlying9 (some ⟨B, 0, none⟩) n cap bb hbl.out.symm (by simpa using h.rdk 0)
  have hB12 : BB w12 B bb := hB11.out.off (Off.of_grown (S := []) G12) (by simp)
  have hU12 := hU11.out.grown G12
  have O712 : Off [tr, ur] w7 w12 := O711.out.trans (Off.of_grown (S := []) G12) (by simp)
  have B012 := below_offs B07.out O712 hwtr.out (Nat.le_refl _)
  have hcs12 := hcs.out w12 hB12
  have CA2 := apply_any base2 ur u bb w12 hU12 (by have := hU12.lt; have := hU12.lo.1; omega) (hD.out.below B012) (by have := hlu.out; omega) (by have := hbl.out; omega)
  rw [← hsB] at CA2
  replace CA2 := Lib.hid CA2; replace hsB := Lib.hid hsB; replace hB12 := Lib.hid hB12; replace hU12 := Lib.hid hU12; replace O712 := Lib.hid O712; replace B012 := Lib.hid B012
  unfold ptr at CA2
  go_wp2_with fail
  refine CA2.out.mono ?_
  rintro e w13 ⟨err2, u1, rfl, hU13, O13, hcase2⟩
  have O713 : Off [tr, ur] w7 w13 := O712.out.trans O13 (by simp)
  have B013 := below_offs B07.out O713 hwtr.out (Nat.le_refl _)
  have hBne : B ∉ [ur] := by
    have := hU12.out.lt
    simp
    have h1 := hBw7.out
    have h2 := hU7.out.lt
    omega
  have hB13 : BB w13 B bb := hB12.out.off O13 hBne
  have hcs13 := hcs.out w13 hB13
  have hlu1 : u1.leaves.length = u.leaves.length := by
    rcases hcase2 with ⟨_, h, _⟩ | ⟨_, _, _, _, _, _, h, _⟩
    · rw [h]
    · have := congrArg List.length h; simpa using this
  replace hcase2 := Lib.hid hcase2; replace hU13 := Lib.hid hU13; replace O13 := Lib.hid O13; replace O713 := Lib.hid O713; replace B013 := Lib.hid B013; replace hB13 := Lib.hid hB13; replace hlu1 := Lib.hid hlu1
  clear CA2 hcs12
  obtain ⟨sB5, hsB5⟩ : ∃ S, S = st (bb.drop 5) := ⟨_, rfl⟩
  obtain ⟨sB0, hsB0⟩ : ∃ S, S = st (bb.take 5) := ⟨_, rfl⟩
  obtain ⟨sP5, hsP5⟩ : ∃ S, S = st (s.drop 5) := ⟨_, rfl⟩
  obtain ⟨sP0, hsP0⟩ : ∃ S, S = st (s.take 5) := ⟨_, rfl⟩
  have hPz : sP.size = n := by rw [hsP.out, st_size, hn.out]
  have hX5 : sP.extract 5 n = sP5 := by rw [hsP.out, hsP5]; exact st_drop s 5 n hn.out
  have hX0 : sP.extract 0 5 = sP0 := by rw [hsP.out, hsP0]; exact st_take s 5 (by have := hn.out; omega)
  have hBV : ∀ V : Gn w13, BB V.V B bb := fun V => hB13.out.off (Off.of_grown (S := []) V.h) (by simp)
  have zc : ∀ V : Gn w13, (convert 47 9 (.slice (some ⟨B, 0, none⟩) n cap)).run Tryd.prog V.V = .ok (.string sB) V.V := fun V => hcs.out V.V (hBV V)
  have zc5 : ∀ V : Gn w13, (convert 47 9 (.slice (some ⟨B, 5, none⟩) (n - 5) (cap - 5))).run Tryd.prog V.V = .ok (.string sB5) V.V := fun V => by
    rw [hsB5]
    exact conv_str (P := Tryd.prog) V.V 47 9 5 Tryd.underlying47 Tryd.underlying5 Tryd.underlying9 (some ⟨B, 5, none⟩) (n - 5) (cap - 5) (bb.drop 5) (by rw [List.length_drop, hbl.out]) ((hBV V).rdk 5)
  have zc0 : ∀ V : Gn w13, (convert 47 9 (.slice (some ⟨B, 0, none⟩) 5 cap)).run Tryd.prog V.V = .ok (.string sB0) V.V := fun V => by
    rw [hsB0]
    exact conv_str (P := Tryd.prog) V.V 47 9 5 Tryd.underlying47 Tryd.underlying5 Tryd.underlying9 (some ⟨B, 0, none⟩) 5 cap (bb.take 5) (by rw [List.length_take, hbl.out]; omega) (hBV V).rd5
  obtain ⟨m1, hm1⟩ : ∃ m, m = sumB (bb.drop 5) := ⟨_, rfl⟩
  obtain ⟨m2, hm2⟩ : ∃ m, m = sumB (s.drop 5) := ⟨_, rfl⟩
  have CS : Hid (∀ (V : Gn w13) (x : ByteArray) (m : Nat), (x = sB5 ∧ m = m1) ∨ (x = sP5 ∧ m = m2) → Calls Tryd.prog 23 #[.string x] V.V fun e w' => e = .returned (.int .i64 (m : Int)) ∧ ∃ U : Gn w13, w' = U.V) := Lib.hid fun V x m h => by
    rcases h with ⟨rfl, rfl⟩ | ⟨rfl, rfl⟩
    · rw [hsB5, hm1]; exact (sum_any (bb.drop 5) V.V (by rw [List.length_drop, hbl.out]; omega)).mono fun e w' h => ⟨h.1, V, h.2.symm⟩
    · rw [hsP5, hm2]; exact (sum_any (s.drop 5) V.V (by rw [List.length_drop]; have := hn.out; omega)).mono fun e w' h => ⟨h.1, V, h.2.symm⟩
  have hQ : Hid (err2 = 0 → m1 ≠ m2 → (sB0.toList == sP0.toList) = false) := Lib.hid fun he hm => by
    rw [hsB0, hsP0, st_tl, st_tl]
    rcases hcase2.out with ⟨h, _⟩ | ⟨_, t1, _, hA1, _⟩
    · exact absurd he h
    · refine beq_eq_false_iff_ne.2 fun e => hm ?_
      have h4 : bb.take 4 = s.take 4 := by
        have := congrArg (List.take 4) e
        rwa [List.take_take, List.take_take] at this
      rw [hm1, hm2]
      refine fourB_inj (sumB_lt _) (sumB_lt _) ?_
      rw [← hA1.su, ← hown.out.su, h4]
  have hEq : Hid ((sB.toList == sP.toList) = decide (bb = s)) := Lib.hid (by rw [hsB.out, hsP.out, st_tl, st_tl]; exact (Bool.eq_iff_iff.2 (by simp)))
  have hc5 : ¬ (cap = 5 + 0) ∨ True := .inr trivial
  replace hsB5 := Lib.hid hsB5; replace hsB0 := Lib.hid hsB0; replace hsP5 := Lib.hid hsP5; replace hsP0 := Lib.hid hsP0; replace hBV := Lib.hid hBV; replace hm1 := Lib.hid hm1; replace hm2 := Lib.hid hm2
  clear hcs13 hc5
  have hn5 : (5 : Int) ≤ (n : Int) := by omega
  have hcap5 : 5 ≤ cap := by omega
  go_upto_if 15 with fail
  go_cut [110] (fun v wx => v = .bool false ∧ Hid (w13.grownBy wx none))
  case first =>
    by_cases hE : bb = s
    · have hE1 : (sB.toList == sP.toList) = true := by rw [hEq.out]; exact decide_eq_true hE
      replace hE := Lib.hid hE
      refine wp_region_gr (by kernel_rfl) (by kernel_rfl) ?_
      repeat (go_big_quiet_step ((go_at_call 23; exact CS.out _ _ _ (by first | exact .inl ⟨rfl, rfl⟩ | exact .inr ⟨rfl, rfl⟩))))
      refine wpQuiet_nil ?_
      intro _ hw'
      obtain ⟨GX, hw''⟩ := hw'
      subst hw''
      have GG := GX.h
      generalize GX.V = wg at GG ⊢
      go_wp2_with fail
      go_meet
      exact ⟨rfl, Lib.hid GG⟩
    · have hE1 : (sB.toList == sP.toList) = false := by rw [hEq.out]; exact decide_eq_false hE
      replace hE := Lib.hid hE
      by_cases he0 : err2 = 0
      · by_cases hmm : m1 = m2
        · have hmm1 : ((m1 : Int) != (m2 : Int)) = false := by rw [hmm]; simp
          have he1 : (err2 == 0) = true := by rw [he0]; rfl
          replace hmm := Lib.hid hmm; replace he0 := Lib.hid he0
          refine wp_region_gr (by kernel_rfl) (by kernel_rfl) ?_
          repeat (go_big_quiet_step ((go_at_call 23; exact CS.out _ _ _ (by first | exact .inl ⟨rfl, rfl⟩ | exact .inr ⟨rfl, rfl⟩))))
          refine wpQuiet_nil ?_
          intro _ hw'
          obtain ⟨GX, hw''⟩ := hw'
          subst hw''
          have GG := GX.h
          generalize GX.V = wg at GG ⊢
          go_wp2_with fail
          go_meet
          exact ⟨rfl, Lib.hid GG⟩
        · have hmm1 : ((m1 : Int) != (m2 : Int)) = true := by simp; omega
          have he1 : (err2 == 0) = true := by rw [he0]; rfl
          have hQ1 := hQ.out he0 hmm
          replace hmm := Lib.hid hmm; replace he0 := Lib.hid he0
          refine wp_region_gr (by kernel_rfl) (by kernel_rfl) ?_
          repeat (go_big_quiet_step ((go_at_call 23; exact CS.out _ _ _ (by first | exact .inl ⟨rfl, rfl⟩ | exact .inr ⟨rfl, rfl⟩))))
          refine wpQuiet_nil ?_
          intro _ hw'
          obtain ⟨GX, hw''⟩ := hw'
          subst hw''
          have GG := GX.h
          generalize GX.V = wg at GG ⊢
          go_wp2_with fail
          go_meet
          exact ⟨rfl, Lib.hid GG⟩
      · have he1 : (err2 == 0) = false := by simpa using he0
        replace he0 := Lib.hid he0
        refine wp_region_gr (by kernel_rfl) (by kernel_rfl) ?_
        repeat (go_big_quiet_step ((go_at_call 23; exact CS.out _ _ _ (by first | exact .inl ⟨rfl, rfl⟩ | exact .inr ⟨rfl, rfl⟩))))
        refine wpQuiet_nil ?_
        intro _ hw'
        obtain ⟨GX, hw''⟩ := hw'
        subst hw''
        have GG := GX.h
        generalize GX.V = wg at GG ⊢
        go_wp2_with fail
        go_meet
        exact ⟨rfl, Lib.hid GG⟩
  case rest =>
    obtain ⟨rfl, hG⟩ := hcut
    have hU14 := hU13.out.grown hG.out
    have O714 : Off [tr, ur] w7 wc := O713.out.trans (Off.of_grown (S := []) hG.out) (by simp)
    replace hU14 := Lib.hid hU14; replace O714 := Lib.hid O714
    clear zc zc5 zc0 CS hQ
    have B014 := below_offs B07.out O714.out hwtr.out (Nat.le_refl _)
    have hQ2 : Hid (err2 ≠ 0 → Calls Tryd.prog 11 #[.pointer (some ⟨ur, 0, none⟩)] wc fun e w' => e = .returned (.string sU) ∧ wc.grownBy w' none) := Lib.hid fun he => by
      rcases hcase2.out with ⟨_, h, _⟩ | ⟨h, _⟩
      · exact hPu.out wc (by rw [← h]; exact hU14.out) B014
      · exact absurd h he
    replace B014 := Lib.hid B014
    go_upto_region 19 with fail
    go_cut [118] (fun v wx => v = .bool false ∧ Hid (wc.grownBy wx none))
    case first =>
      by_cases he0 : err2 = 0
      · have he1 : (err2 != 0) = false := by rw [he0]; rfl
        replace he0 := Lib.hid he0
        go_wp2_with fail
        go_meet
        exact ⟨rfl, Lib.hid (World.grownBy.refl _ _)⟩
      · have he1 : (err2 != 0) = true := by simpa using he0
        have CQ := Lib.hid (hQ2.out he0)
        replace he0 := Lib.hid he0
        go_wp2_with fail
        refine CQ.out.mono ?_
        rintro e wd ⟨rfl, GD⟩
        go_wp2_with fail
        go_meet
        exact ⟨rfl, Lib.hid GD⟩
    case rest =>
      obtain ⟨rfl, hG2⟩ := hcut
      obtain ⟨w15, hw15⟩ : ∃ W, W = wc := ⟨_, rfl⟩
      subst hw15
      have hU15 := hU14.out.grown hG2.out
      have O715 : Off [tr, ur] w7 w15 := O714.out.trans (Off.of_grown (S := []) hG2.out) (by simp)
      obtain ⟨ml, hml⟩ : ∃ n, n = u1.leaves.length := ⟨_, rfl⟩
      have hml3 : ml ≤ 31 := by rw [hml, hlu1.out]; exact hlu.out
      have CB2 := boxes_any base2 ur u1 w15 hU15 (by omega)
      rw [← hml] at CB2
      replace CB2 := Lib.hid CB2; replace hU15 := Lib.hid hU15; replace O715 := Lib.hid O715; replace hml := Lib.hid hml
      clear hQ2
      unfold ptr at CB2
      go_wp2_with fail
      refine CB2.out.mono ?_
      rintro e w16 ⟨A16, c16, rfl, O16, G16⟩
      have hU16 := hU15.out.grown G16
      have O716 : Off [tr, ur] w7 w16 := O715.out.trans (Off.of_grown (S := []) G16) (by simp)
      have B016 := below_offs B07.out O716 hwtr.out (Nat.le_refl _)
      have CA3 := apply_any base2 ur u1 s w16 hU16 (by have := hU16.lt; have := hU16.lo.1; omega) (hD.out.below B016) (by have := hml.out; omega) (by have := hown4.out; omega)
      rw [← hsP.out] at CA3
      replace CA3 := Lib.hid CA3; replace hU16 := Lib.hid hU16; replace O716 := Lib.hid O716; replace B016 := Lib.hid B016; replace O16 := Lib.hid O16; replace G16 := Lib.hid G16
      clear CB2
      unfold ptr at CA3
      go_wp2_with fail
      refine CA3.out.mono ?_
      rintro e w17 ⟨err3, u2, rfl, hU17, O17, hcase3⟩
      have O717 : Off [tr, ur] w7 w17 := O716.out.trans O17 (by simp)
      have B017 := below_offs B07.out O717 hwtr.out (Nat.le_refl _)
      replace hU17 := Lib.hid hU17; replace O17 := Lib.hid O17; replace O717 := Lib.hid O717; replace B017 := Lib.hid B017
      clear CA3
      rcases hcase3 with ⟨herr3, _, hno3⟩ | ⟨rfl, t1, f1, hA1, hl1, hu2, hps2, _⟩
      · have he3 : (err3 != 0) = true := by simpa using herr3
        have hne := hno3 t hown.out
        rw [← hnl.out, ← hml.out] at hne
        have hne2 : ((ml : Int) != (nl : Int)) = true := by simp; omega
        replace hne := Lib.hid hne; replace herr3 := Lib.hid herr3
        clear hno3
        go_wp2_with fail
        go_ret
        exact ⟨by simp, B017.out⟩
      have hmn : ml = nl := by
        rw [hml.out, ← hl1, hnl.out]
        exact leaves_len_congr (hA1.same hown.out)
      subst hmn
      have hl2 : u2.leaves.length = ml := by
        have := congrArg List.length hps2
        rw [hml.out]; simpa using this
      have CB3 := boxes_any base2 ur u2 w17 hU17.out (by omega)
      rw [hl2] at CB3
      replace CB3 := Lib.hid CB3; replace hA1 := Lib.hid hA1; replace hl1 := Lib.hid hl1; replace hu2 := Lib.hid hu2; replace hps2 := Lib.hid hps2; replace hl2 := Lib.hid hl2
      unfold ptr at CB3
      go_wp2_with fail
      refine CB3.out.mono ?_
      rintro e w18 ⟨A18, c18, rfl, O18, G18⟩
      have O718 : Off [tr, ur] w7 w18 := O717.out.trans (Off.of_grown (S := []) G18) (by simp)
      have B018 := below_offs B07.out O718 hwtr.out (Nat.le_refl _)
      have O1618 : Off [ur] w16 w18 := O17.out.trans (Off.of_grown (S := []) G18) (by simp)
      obtain ⟨bL, fL, rfl, hL⟩ := box_rows O7.out (leaves_ne t) O718 (by simp; have := hT6.out.lt; have := G6.out.size; have := hU5.out.lt; omega)
      obtain ⟨bM, fM, rfl, hM⟩ := box_rows O16.out (leaves_ne u1) O1618 (by simp; exact hU15.out.lt)
      obtain ⟨bN, fN, rfl, hN⟩ := box_rows O18 (leaves_ne u2) (Off.refl [] w18) (by simp)
      have hfact : Hid (∀ j, j < ml → ∃ p q x y a b : Int, ∀ wr, w18.grownBy wr none →
          (wr.cell? ⟨bL, fL + j * 5, none⟩ = some (.int .i64 p) ∧ wr.cell? ⟨bL, fL + j * 5 + 1, none⟩ = some (.int .i64 x) ∧ wr.cell? ⟨bL, fL + j * 5 + 2, none⟩ = some (.int .i64 y) ∧ wr.cell? ⟨bL, fL + j * 5 + 3, none⟩ = some (.int .i64 a) ∧ wr.cell? ⟨bL, fL + j * 5 + 4, none⟩ = some (.int .i64 b)) ∧
          wr.cell? ⟨bM, fM + j * 5, none⟩ = some (.int .i64 q) ∧
          (wr.cell? ⟨bN, fN + j * 5, none⟩ = some (.int .i64 q) ∧ wr.cell? ⟨bN, fN + j * 5 + 1, none⟩ = some (.int .i64 x) ∧ wr.cell? ⟨bN, fN + j * 5 + 2, none⟩ = some (.int .i64 y) ∧ wr.cell? ⟨bN, fN + j * 5 + 3, none⟩ = some (.int .i64 a) ∧ wr.cell? ⟨bN, fN + j * 5 + 4, none⟩ = some (.int .i64 b))) := by
        refine Lib.hid fun j hj => ?_
        obtain ⟨x1, hx1⟩ : ∃ s, t.leaves[j]? = some s := ⟨t.leaves[j]'(by have := hnl.out; omega), List.getElem?_eq_getElem _⟩
        obtain ⟨x2, hx2⟩ : ∃ s, u1.leaves[j]? = some s := ⟨u1.leaves[j]'(by have := hml.out; omega), List.getElem?_eq_getElem _⟩
        obtain ⟨x3, hx3⟩ : ∃ s, u2.leaves[j]? = some s := ⟨u2.leaves[j]'(by have := hl2.out; omega), List.getElem?_eq_getElem _⟩
        obtain ⟨e1, e2, e3, e4, e5⟩ := box_anew (w := w18) (up := none) hA1.out hown.out hu2.out hps2.out hx1 hx2 hx3
        refine ⟨x1.n.p, x2.n.p, x1.n.x, x1.n.y, x1.n.a, x1.n.b, fun wr g => ?_⟩
        have c1 := hL j x1 hx1
        have c2 := hM j x2 hx2
        have c3 := hN j x3 hx3
        rw [e1, e2, e3, e4, e5] at c3
        exact ⟨⟨g.cell c1.1 (by simp), g.cell c1.2.1 (by simp), g.cell c1.2.2.1 (by simp), g.cell c1.2.2.2.1 (by simp), g.cell c1.2.2.2.2 (by simp)⟩, g.cell c2.1 (by simp), ⟨g.cell c3.1 (by simp), g.cell c3.2.1 (by simp), g.cell c3.2.2.1 (by simp), g.cell c3.2.2.2.1 (by simp), g.cell c3.2.2.2.2 (by simp)⟩⟩
      replace O718 := Lib.hid O718; replace B018 := Lib.hid B018; replace O1618 := Lib.hid O1618; replace O18 := Lib.hid O18; replace G18 := Lib.hid G18
      clear hL hM hN CB3
      go_wp2_with fail
      go_loopw [24] (fun iv wr => ∃ j : Nat, j ≤ ml ∧ iv = .int .i64 j ∧ Hid (w18.grownBy wr none)) (fun iv _ => ml - (intOf iv).toNat)
      case atStart => exact ⟨0, Nat.zero_le _, rfl, Lib.hid (World.grownBy.refl _ _)⟩
      case round =>
        obtain ⟨j, hj, rfl, hI⟩ := hrel
        by_cases hlt : j < ml
        · obtain ⟨p, q, x, y, a, b, hc⟩ := hfact.out j hlt
          obtain ⟨⟨l0, l1, l2, l3, l4⟩, _, _⟩ := hc wr hI.out
          replace hc := Lib.hid hc
          go_upto_region 31 with fail
          obtain ⟨W1, hW1⟩ : ∃ W, W = wr.alloc (.cells #[.int .i64 p, .int .i64 x, .int .i64 y, .int .i64 a, .int .i64 b] 30) := ⟨_, rfl⟩
          rw [← hW1]
          obtain ⟨bw, hbw⟩ : ∃ n, n = wr.heap.size := ⟨_, rfl⟩
          rw [← hbw]
          have hbwl : w18.heap.size ≤ bw := by rw [hbw]; exact hI.out.size
          have g1 : w18.grownBy W1 none := hI.out.trans (by rw [hW1]; exact World.grownBy_alloc _ _ _)
          have hH1 : W1.heap[bw]? = some (.cells #[.int .i64 p, .int .i64 x, .int .i64 y, .int .i64 a, .int .i64 b] 30 (0, 0)) := by rw [hW1, hbw]; exact heap_alloc_new wr _
          obtain ⟨_, q0, _⟩ := hc.out W1 g1
          have k0 : W1.cell? ⟨bw, 0, none⟩ = some (.int .i64 p) := by rw [cell_of_heap hH1]; rfl
          have k1' : W1.frozen? ⟨bw, 0, none⟩ = false := free_of_heap hH1 0
          have hH2 := heap_set (j := 0) hH1 (.int .i64 q)
          have o2 : Off [bw] W1 (W1.setCell ⟨bw, 0, none⟩ (.int .i64 q)) := Off.set W1 ⟨bw, 0, none⟩ _
          have g2 : w18.grownBy (W1.setCell ⟨bw, 0, none⟩ (.int .i64 q)) none := ((Off.of_grown (S := []) g1).trans o2 (fun b hb => .inr (by simp at hb; rw [hb]; exact hbwl))).grown (by simp)
          replace hW1 := Lib.hid hW1; replace hbw := Lib.hid hbw; replace hbwl := Lib.hid hbwl; replace g1 := Lib.hid g1; replace hH1 := Lib.hid hH1; replace hH2 := Lib.hid hH2; replace g2 := Lib.hid g2
          clear l0 l1 l2 l3 l4 o2
          go_upto_region 32 with fail
          obtain ⟨W2, hW2⟩ : ∃ W, W = W1.setCell ⟨bw, 0, none⟩ (.int .i64 q) := ⟨_, rfl⟩
          rw [← hW2]
          have hH2' := hH2.out
          have g2' := g2.out
          rw [← hW2] at hH2' g2'
          obtain ⟨_, _, ⟨m0, m1', m2', m3, m4⟩⟩ := hc.out W2 g2'
          have v0 : W2.cell? ⟨bw, 0, none⟩ = some (.int .i64 q) := by rw [cell_of_heap hH2']; rfl
          have v1 : W2.cell? ⟨bw, 1, none⟩ = some (.int .i64 x) := by rw [cell_of_heap hH2']; rfl
          have v2 : W2.cell? ⟨bw, 2, none⟩ = some (.int .i64 y) := by rw [cell_of_heap hH2']; rfl
          have v3 : W2.cell? ⟨bw, 3, none⟩ = some (.int .i64 a) := by rw [cell_of_heap hH2']; rfl
          have v4 : W2.cell? ⟨bw, 4, none⟩ = some (.int .i64 b) := by rw [cell_of_heap hH2']; rfl
          replace hH2' := Lib.hid hH2'; replace g2' := Lib.hid g2'; replace hW2 := Lib.hid hW2
          clear q0 k0 k1' hH2 g2
          go_quiet (fail)
          go_wp2_with fail
          exact ⟨⟨j + 1, by omega, by go_num, Lib.hid (g_drewN g2'.out _)⟩, by simp [intOf]; omega⟩
        · have hje : j = ml := by omega
          subst hje
          go_wp2_with fail
          go_ret
          exact ⟨by simp, below_offs B07.out (O718.out.trans (Off.of_grown (S := []) hI.out) (by simp)) hwtr.out (Nat.le_refl _)⟩
end Go.Proofs.YtcklmkjlbpjojaaDoor
