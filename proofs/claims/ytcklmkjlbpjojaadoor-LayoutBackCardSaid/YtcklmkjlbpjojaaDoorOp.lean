/- Arguments opened: slices of strings, of bytes, of ints, as lists; what the reach says of them. No program in sight. -/
import Derived.Test.YtcklmkjlbpjojaaDoorBase
import Derived.ProofKit
import Derived.OpenShut
import Derived.ChangeOld
import Derived.SliceStrings
import Derived.SizedLaws
import Derived.Lib.SmallJoins
import Derived.Deep.Slices
import Derived.Deep.Fields
import Derived.ChangeSame
namespace Go.Proofs.YtcklmkjlbpjojaaDoor
open Go.RowKit Go.ChangeShapes Go.WideShapes Go.Joins Go.Deep
set_option linter.unusedSimpArgs false
set_option linter.unusedVariables false

theorem rd_add {w : World} {a : Addr} {xs : List Value} (h : ∀ i u, xs[i]? = some u → w.cell? (a.add i) = some u) : Rd w (some a) xs := fun hx => by
  obtain ⟨x, l, rfl⟩ := List.exists_cons_of_ne_nil hx
  have h0 := h 0 x rfl
  have e0 : a.add 0 = a := by simp [Addr.add]
  rw [e0] at h0
  have hb := World.block_lt_of_cell? w a h0
  obtain ⟨b, off, sp⟩ := a
  have hsp : sp = none := by
    rcases sp with _ | s
    · rfl
    · unfold World.cell? at h0
      split at h0 <;> simp at h0
  subst hsp
  refine ⟨b, off, rfl, hb, fun j u hj => ?_⟩
  have := h j u hj
  rwa [Addr.add_lit] at this

section
variable {H : Type} {enc : TypeId × Value → H} {P : Program} {w : World} {base : Nat} {spare : Nat → Bool} {held : Bool}
def Wt (P : Program) (t : TypeId) (d : DataW H) : Prop := ∀ n ∈ d.weights P t, n ≤ 140737488351232
theorem wt_each {ts : List TypeId} {ds : List (DataW H)} (h : (DataW.weightsEach P ts ds).all (· ≤ reachBytes) = true) {j : Nat} {t : TypeId} {d : DataW H} (ht : ts[j]? = some t) (hd : ds[j]? = some d) : Wt P t d := by
  intro n hn
  have := List.all_eq_true.1 h n (DataW.weights_mem_each ht hd n hn)
  exact of_decide_eq_true this
theorem wt_part {t : TypeId} {fs : Array Field} {ps : List (DataW H)} (hs : P.underlying t = some (.struct fs)) (h : Wt P t (.agg ps)) {j : Nat} {f : Field} {d : DataW H} (hf : fs[j]? = some f) (hd : ps[j]? = some d) : Wt P f.type d := by
  intro n hn
  refine h n ?_
  simp only [DataW.weights, hs]
  exact DataW.weights_mem_each (j := j) (by simp [hf]) hd n hn
theorem weights_mem_all {e : TypeId} : ∀ {ds : List (DataW H)} {d : DataW H}, d ∈ ds → ∀ n ∈ d.weights P e, n ∈ DataW.weightsAll P e ds
  | d0 :: ds, d, hd, n, hn => by
    simp only [DataW.weightsAll, List.mem_append]
    rcases List.mem_cons.1 hd with rfl | hd
    · exact .inl hn
    · exact .inr (weights_mem_all hd n hn)
theorem wt_slice {t e : TypeId} {es sp : List (DataW H)} (hs : P.underlying t = some (.slice e)) (h : Wt P t (.slice es sp)) : (es.length + sp.length) * P.bytesOf e ≤ 140737488351232 ∧ ∀ d ∈ es, Wt P e d := by
  refine ⟨h _ (by simp [DataW.weights, hs]), fun d hd n hn => h n ?_⟩
  simp only [DataW.weights, hs, List.mem_cons, List.mem_append]
  exact .inr (.inl (weights_mem_all hd n hn))

theorem strings_in {t e : TypeId} {fuel : Nat} {A : Option Addr} {n c : Nat} {x : DataW H × List MemPlace} (ht : P.underlying t = some (.slice e)) (he : P.underlying e = some .string) (hc : P.cellsOf e = 1) (hb : P.bytesOf e = 16)
    (h : DataW.trod enc P w base spare held fuel t [.slice A n c] = some x) (hw : Wt P t x.1) :
    ∃ ws : List ByteArray, n = ws.length ∧ Rd w A (ws.map .string) ∧ (∀ s ∈ ws, s.size ≤ 140737488351232) ∧ ws.length * 16 ≤ 140737488351232 := by
  rcases open_strings ht he hc h with ⟨hcs, rfl⟩ | ⟨a, len, cap, ss, hcs, _, hl, hm, hz, rfl, hcell, _⟩
  · simp only [List.cons.injEq, and_true, Value.slice.injEq] at hcs
    obtain ⟨rfl, rfl, rfl⟩ := hcs
    exact ⟨[], rfl, Rd.nil _ _, by simp, by simp⟩
  · simp only [List.cons.injEq, and_true, Value.slice.injEq] at hcs
    obtain ⟨rfl, rfl, rfl⟩ := hcs
    have hlen : n ≤ ss.length := by rw [hz]; split <;> omega
    obtain ⟨w1, w2⟩ := wt_slice ht hw
    rw [hb] at w1
    simp only [strs, List.length_map, List.length_take, List.length_drop] at w1
    have hn : (ss.take n).length = n := by rw [List.length_take]; omega
    refine ⟨ss.take n, hn.symm, rd_add fun i u hu => ?_, fun s hs => ?_, by omega⟩
    · have hi : i < n := by
        have := (List.getElem?_eq_some_iff.1 hu).1
        simp at this; omega
      rw [hcell i (by omega)]
      rw [List.getElem?_map, List.getElem?_take, if_pos hi] at hu
      rw [List.getD_eq_getElem?_getD]
      have hi2 : i < ss.length := by omega
      rw [List.getElem?_eq_getElem hi2] at hu ⊢
      simpa using hu
    · have := w2 (.lit (.string s.data.toList)) (List.mem_map.2 ⟨s, hs, rfl⟩) s.data.toList.length (by rw [DataW.weights]; exact List.mem_singleton.2 rfl)
      have e : s.data.toList.length = s.size := Array.length_toList
      rw [← e]; exact this
theorem ints_in {t e : TypeId} {k : IntKind} {fuel : Nat} {A : Option Addr} {n c : Nat} {x : DataW H × List MemPlace} (ht : P.underlying t = some (.slice e)) (he : P.underlying e = some (.int k)) (hc : P.cellsOf e = 1)
    (h : DataW.trod enc P w base spare held fuel t [.slice A n c] = some x) (hw : Wt P t x.1) :
    ∃ zs : List Int, n = zs.length ∧ Rd w A (zs.map (.int k)) ∧ (∀ z ∈ zs, (Lit.int k z).wf = true) ∧ zs.length * P.bytesOf e ≤ 140737488351232 ∧ n ≤ c := by
  rcases open_ints ht he hc h with ⟨hcs, rfl⟩ | ⟨a, len, cap, ss, hcs, _, hl, hm, hz, rfl, hcell, hwf⟩
  · simp only [List.cons.injEq, and_true, Value.slice.injEq] at hcs
    obtain ⟨rfl, rfl, rfl⟩ := hcs
    exact ⟨[], rfl, Rd.nil _ _, by simp, by simp, Nat.le_refl _⟩
  · simp only [List.cons.injEq, and_true, Value.slice.injEq] at hcs
    obtain ⟨rfl, rfl, rfl⟩ := hcs
    have hlen : n ≤ ss.length := by rw [hz]; split <;> omega
    obtain ⟨w1, w2⟩ := wt_slice ht hw
    simp only [lits, List.length_map, List.length_take, List.length_drop] at w1
    have hn : (ss.take n).length = n := by rw [List.length_take]; omega
    refine ⟨ss.take n, hn.symm, rd_add fun i u hu => ?_, fun s hs => hwf s (List.mem_of_mem_take hs), ?_, hl⟩
    · have hi : i < n := by
        have := (List.getElem?_eq_some_iff.1 hu).1
        simp at this; omega
      rw [hcell i (by omega)]
      rw [List.getElem?_map, List.getElem?_take, if_pos hi] at hu
      rw [List.getD_eq_getElem?_getD]
      have hi2 : i < ss.length := by omega
      rw [List.getElem?_eq_getElem hi2] at hu ⊢
      simpa using hu
    · rw [hn]
      refine Nat.le_trans (Nat.mul_le_mul_right _ ?_) w1
      omega
theorem bytes_in {t e : TypeId} {fuel : Nat} {A : Option Addr} {n c : Nat} {x : DataW H × List MemPlace} (ht : P.underlying t = some (.slice e)) (he : P.underlying e = some (.int .u8)) (hc : P.cellsOf e = 1) (hb : P.bytesOf e = 1)
    (h : DataW.trod enc P w base spare held fuel t [.slice A n c] = some x) (hw : Wt P t x.1) :
    ∃ l : List UInt8, n = l.length ∧ Rd w A (bs l) ∧ l.length ≤ 140737488351232 ∧ n ≤ c := by
  obtain ⟨zs, h1, h2, h3, h4, h5⟩ := ints_in ht he hc h hw
  rw [hb, Nat.mul_one] at h4
  refine ⟨zs.map fun z => UInt8.ofNat z.toNat, by simpa using h1, ?_, by simpa using h4, h5⟩
  have e1 : bs (zs.map fun z => UInt8.ofNat z.toNat) = zs.map (.int .u8) := by
    simp only [bs, List.map_map]
    refine List.map_congr_left fun z hz => ?_
    have := h3 z hz
    simp [Lit.wf, IntKind.min, IntKind.max, IntKind.signed, IntKind.bits] at this
    simp only [Function.comp, b8, UInt8.toNat_ofNat']
    congr 1
    omega
  rw [e1]; exact h2
theorem open_agg5 {r : Reach} {b0 : Nat} {t : TypeId} {f0 f1 f2 f3 f4 : Field} {v : Value} {d : DataW H} {p : List MemPlace} (hs : P.underlying t = some (.struct #[f0, f1, f2, f3, f4])) (hone : oneCellFields P #[f0, f1, f2, f3, f4] = true) (hC : P.cellsOf t = 5)
    (hv : Value.okWide P w r b0 t v) (h : DataW.Trod enc P w base spare held t v d p) :
    ∃ (v0 v1 v2 v3 v4 : Value) (y0 y1 y2 y3 y4 : DataW H × List MemPlace) (n : Nat), v = .agg #[v0, v1, v2, v3, v4] ∧ d = .agg [y0.1, y1.1, y2.1, y3.1, y4.1] ∧ p = y0.2 ++ (y1.2 ++ (y2.2 ++ (y3.2 ++ y4.2))) ∧
      DataW.trod enc P w base spare held n f0.type [v0] = some y0 ∧ DataW.trod enc P w base spare held n f1.type [v1] = some y1 ∧ DataW.trod enc P w base spare held n f2.type [v2] = some y2 ∧ DataW.trod enc P w base spare held n f3.type [v3] = some y3 ∧ DataW.trod enc P w base spare held n f4.type [v4] = some y4 := by
  obtain ⟨cs, rfl, hsz⟩ := okWide_struct hs hv
  obtain ⟨l⟩ := cs
  match l, hsz.trans hC with
  | [c0, c1, c2, c3, c4], _ =>
    obtain ⟨fuel, hf⟩ := h
    obtain ⟨xs, n, _, hx, _, hlen, hg⟩ := DataW.trod_struct hs hf
    obtain ⟨o0, k0⟩ := hone_of hone 0 f0 rfl
    obtain ⟨o1, k1⟩ := hone_of hone 1 f1 rfl
    obtain ⟨o2, k2⟩ := hone_of hone 2 f2 rfl
    obtain ⟨o3, k3⟩ := hone_of hone 3 f3 rfl
    obtain ⟨o4, k4⟩ := hone_of hone 4 f4 rfl
    match xs, hlen with
    | [y0, y1, y2, y3, y4], _ =>
      simp only [Prod.mk.injEq] at hx
      exact ⟨c0, c1, c2, c3, c4, y0, y1, y2, y3, y4, n, rfl, by simpa using hx.1, by simpa using hx.2, by simpa [Value.cells, o0, k0] using hg 0 f0 rfl, by simpa [Value.cells, o1, k1] using hg 1 f1 rfl, by simpa [Value.cells, o2, k2] using hg 2 f2 rfl, by simpa [Value.cells, o3, k3] using hg 3 f3 rfl, by simpa [Value.cells, o4, k4] using hg 4 f4 rfl⟩
theorem open_slice_fields {t e : TypeId} {fs : Array Field} {fuel : Nat} {cs : List Value} {x : DataW H × List MemPlace} (ht : P.underlying t = some (.slice e)) (he : P.underlying e = some (.struct fs))
    (hone : oneCellFields P fs = true) (hC : P.cellsOf e = fs.size) (h : DataW.trod enc P w base spare held fuel t cs = some x) :
    (cs = [.slice none 0 0] ∧ x = (.nil, [])) ∨
    ∃ (a : Addr) (len cap m : Nat) (D : Nat → DataW H) (Pl : Nat → List MemPlace), cs = [.slice (some a) len cap] ∧ base ≤ a.block ∧ len ≤ cap ∧ cap ≤ maxLen ∧ m = (if spare a.block then cap else len) ∧
      x = (.slice ((List.range len).map D) ((List.range (m - len)).map fun j => D (len + j)), MemPlace.row a (m * fs.size) ++ (List.range m).flatMap Pl) ∧
      ∀ i, i < m → ∃ (ys : List (DataW H × List MemPlace)) (n : Nat), D i = .agg (ys.map (·.1)) ∧ Pl i = ys.flatMap (·.2) ∧ ys.length = fs.size ∧
        ∀ (j : Nat) (f : Field), fs[j]? = some f → ∃ (v : Value) (y : DataW H × List MemPlace), w.cell? (a.add (i * fs.size + j)) = some v ∧ ys[j]? = some y ∧ DataW.trod enc P w base spare held n f.type [v] = some y := by
  rcases open_slice ht h with h0 | ⟨a, len, cap, m, n, D, Pl, hcs, hb, hl, hm, hmm, hx, hi⟩
  · exact .inl h0
  · refine .inr ⟨a, len, cap, m, D, Pl, hcs, hb, hl, hm, hmm, by rw [hC] at hx; exact hx, fun i him => ?_⟩
    obtain ⟨cs', hc, ht'⟩ := hi i him
    rw [hC] at hc
    obtain ⟨ys, n', hn', hy, hlen, hyl, hf⟩ := DataW.trod_struct he ht'
    obtain ⟨_, hcl, hat⟩ := World.cells?_some hc
    simp only [Prod.mk.injEq] at hy
    refine ⟨ys, n', hy.1, hy.2, hyl, fun j f hj => ?_⟩
    obtain ⟨ho, hk⟩ := hone_of hone j f hj
    have hjl : j < fs.size := (Array.getElem?_eq_some_iff.1 hj).1
    have hcell := hat j hjl
    have hv : cs'[j]? = some (cs'[j]'(by omega)) := List.getElem?_eq_getElem (by omega)
    have h1 := hf j f hj
    rw [ho, hk] at h1
    have hone' : (cs'.drop j).take 1 = [cs'[j]'(by omega)] := by
      rw [List.drop_eq_getElem_cons (by omega)]
      rfl
    rw [hone'] at h1
    have hys : ys[j]? = some (ys[j]'(by omega)) := List.getElem?_eq_getElem (by omega)
    refine ⟨_, _, ?_, hys, h1.trans hys⟩
    rw [← Go.Deep.add_add, hcell, hv]
theorem slice_form {t e : TypeId} {fuel : Nat} {v : Value} {x : DataW H × List MemPlace} (ht : P.underlying t = some (.slice e)) (h : DataW.trod enc P w base spare held fuel t [v] = some x) : ∃ A n c, v = .slice A n c := by
  rcases DataW.trod_slice ht h with ⟨hcs, _⟩ | ⟨a, len, cap, _, _, _, _, hcs, _⟩
  · simp only [List.cons.injEq, and_true] at hcs; exact ⟨_, _, _, hcs⟩
  · simp only [List.cons.injEq, and_true] at hcs; exact ⟨_, _, _, hcs⟩
theorem int_form {t : TypeId} {k : IntKind} {fuel : Nat} {v : Value} {x : DataW H × List MemPlace} (ht : P.underlying t = some (.int k)) (h : DataW.trod enc P w base spare held fuel t [v] = some x) : ∃ m, v = .int k m ∧ (Lit.int k m).wf = true := by
  obtain ⟨m, hcs, _, hw⟩ := DataW.trod_int ht h
  simp only [List.cons.injEq, and_true] at hcs
  exact ⟨m, hcs, hw⟩
theorem Rd.trod_base {A : Option Addr} {xs : List Value} (h : Rd w A xs) : Rd w A xs := h
end
end Go.Proofs.YtcklmkjlbpjojaaDoor
