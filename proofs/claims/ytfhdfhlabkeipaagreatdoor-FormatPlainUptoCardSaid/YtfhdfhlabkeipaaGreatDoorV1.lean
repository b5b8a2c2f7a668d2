/- Format: what is read of the tables of Go's library. Format: what the listed variables give; the wrap with 'laid' and the world's shape. -/
import Derived.Test.YtfhdfhlabkeipaaGreatDoorRd
import Derived.Test.YtfhdfhlabkeipaaGreatDoorRows
import Derived.Test.YtfhdfhlabkeipaaGreatDoorProg
import Derived.WalkKit
import Derived.ProofKit
import Derived.SizedLaws
import Derived.LaidLaws
import Derived.LaidHandle
import Derived.LaidMore
import Derived.Lay
import Derived.Stop.Joined
import Derived.Lib.LaidTab
import Derived.Lib.LaidU8
import Derived.Handed
import Derived.Shelf.Vars
import Derived.Below
namespace Go.Proofs.YtfhdfhlabkeipaaGreatDoor
open Go.RowKit

/-- What the reckoning of the examples reads of variables. -/
structure Wd (w : World) : Prop where
  opt : w.cell? ⟨6, 0, none⟩ = some (.bool true)
  mb : w.cell? ⟨9, 0, none⟩ = some (.int .u64 52)
  p10 : ∃ B o c, w.cell? ⟨12, 0, none⟩ = some (.slice (some ⟨B, o, none⟩) 23 c) ∧ w.cell? ⟨B, o + 1, none⟩ = some (.float .f64 4621819117588971520)
/-- What FormatFloat reads of variables besides. -/
structure Wd2 (w : World) : Prop where
  d : Wd w
  p1 : w.cell? ⟨7, 1, none⟩ = some (.int .u64 10)
  p2 : w.cell? ⟨7, 2, none⟩ = some (.int .u64 100)
  p3 : w.cell? ⟨7, 3, none⟩ = some (.int .u64 1000)
  t2h : w.cell? ⟨13, 700, none⟩ = some (.int .u64 14411518807585587200)
  t2l : w.cell? ⟨13, 701, none⟩ = some (.int .u64 0)
  t3h : w.cell? ⟨13, 702, none⟩ = some (.int .u64 18014398509481984000)
  t3l : w.cell? ⟨13, 703, none⟩ = some (.int .u64 0)
theorem Wd.grown {w w' : World} (h : Wd w) (g : w.grownBy w' none) : Wd w' := by
  obtain ⟨B, o, c, h1, h2⟩ := h.p10
  exact ⟨g.cell h.opt (by simp), g.cell h.mb (by simp), B, o, c, g.cell h1 (by simp), g.cell h2 (by simp)⟩
theorem Wd2.grown {w w' : World} (h : Wd2 w) (g : w.grownBy w' none) : Wd2 w' :=
  ⟨h.d.grown g, g.cell h.p1 (by simp), g.cell h.p2 (by simp), g.cell h.p3 (by simp), g.cell h.t2h (by simp), g.cell h.t2l (by simp), g.cell h.t3h (by simp), g.cell h.t3l (by simp)⟩
/-- The tables, and internal/bytealg.MaxLen, as long as what lies below base stands. -/
def TB (base : Nat) (w : World) : Prop := ∀ w', Below base w w' → Wd2 w' ∧ ∃ m, w'.cell? ⟨2, 0, none⟩ = some (.int .i64 m)
theorem TB.below {base : Nat} {w w' : World} (h : TB base w) (hb : Below base w w') : TB base w' := fun w2 h2 => h w2 (hb.trans h2)
theorem TB.d {base : Nat} {w : World} (h : TB base w) : Wd2 w := (h w (Below.refl _ _)).1
theorem TB.m {base : Nat} {w : World} (h : TB base w) : ∃ m, w.cell? ⟨2, 0, none⟩ = some (.int .i64 m) := (h w (Below.refl _ _)).2
theorem TB.of {w : World} (h : Wd2 w) {m : Int} (hm : w.cell? ⟨2, 0, none⟩ = some (.int .i64 m)) : TB w.heap.size w := fun w' hb => ⟨h.grown (below_g hb), m, (below_g hb).cell hm (by simp)⟩
end Go.Proofs.YtfhdfhlabkeipaaGreatDoor
namespace Go.Proofs.YtfhdfhlabkeipaaGreatDoor
open Go.RowKit
set_option linter.unusedVariables false
set_option linter.unusedSimpArgs false

theorem Below.of_grown {w w' : World} (h : w.grownBy w' none) : Below w.heap.size w w' := ⟨h.os, h.tape, h.output, h.size, fun k hk => h.block k hk (by simp)⟩
def I64 (z : Int) : Prop := -9223372036854775808 ≤ z ∧ z ≤ 9223372036854775807
def tabsF : List (String × DataW Unit) := [("math/bits.deBruijn32tab", Rows.laid_math_bits_deBruijn32tab), ("math/bits.deBruijn64tab", Rows.laid_math_bits_deBruijn64tab), ("internal/strconv.float32info", Rows.laid_internal_strconv_float32info), ("internal/strconv.float64info", Rows.laid_internal_strconv_float64info), ("internal/strconv.optimize", Rows.laid_internal_strconv_optimize), ("internal/strconv.powtab", Rows.laid_internal_strconv_powtab), ("internal/strconv.float64pow10", Rows.laid_internal_strconv_float64pow10), ("internal/strconv.float32pow10", Rows.laid_internal_strconv_float32pow10), ("internal/strconv.uint64pow10", Rows.laid_internal_strconv_uint64pow10), ("unicode/utf8.acceptRanges", Rows.laid_unicode_utf8_acceptRanges), ("strconv.ErrRange", Rows.laid_strconv_ErrRange), ("strconv.ErrSyntax", Rows.laid_strconv_ErrSyntax), ("internal/strconv.leftcheats", Rows.laid_internal_strconv_leftcheats), ("internal/strconv.pow10Tab", Rows.laid_internal_strconv_pow10Tab), ("unicode/utf8.first", Rows.laid_unicode_utf8_first)]
section
variable {H : Type} {enc : TypeId × Value → H} {P : Program} {w : World} {base : Nat} {sp : Nat → Bool} {held : Bool} {fuel : Nat} {t : TypeId} {cs : List Value} {x : DataW H × List MemPlace}
theorem trod_float' {k : FloatKind} (ht : P.underlying t = some (.float k)) (h : DataW.trod enc P w base sp held fuel t cs = some x) : ∃ b, cs = [.float k b] ∧ x = (.lit (.float k b), []) := by
  cases fuel with
  | zero => simp [DataW.trod] at h
  | succ n =>
    unfold DataW.trod at h
    rw [ht] at h
    split at h <;> simp_all
end
theorem head_cell {W : World} {P : Program} {n : String} {d : DataW Unit} {g t : Nat} (h : Lib.VarReads P W n d) (hg : P.globalNamed n = some g) (hty : (P.globals[g]?).map (·.type) = some t) :
    ∃ cs fuel p, (∀ i, W.cell? ⟨g, i, none⟩ = cs[i]?) ∧ DataW.trod (fun _ => ()) P W 0 (fun _ => true) false fuel t cs = some (d, p) := by
  obtain ⟨g', t', cs, fuel, p, hg', hty', hvar, hd⟩ := h
  obtain rfl := Option.some.inj (hg.symm.trans hg')
  obtain rfl := Option.some.inj (hty.symm.trans hty')
  exact ⟨cs.toList, fuel, p, fun i => by rw [World.var?_cell hg hvar i, Array.getElem?_toList], hd⟩
set_option maxRecDepth 100000 in
theorem opt_of {W : World} (h : Lib.VarReads Tryz.prog W "internal/strconv.optimize" Rows.laid_internal_strconv_optimize) : W.cell? ⟨6, 0, none⟩ = some (.bool true) := by
  obtain ⟨cs, fuel, p, hc, hd⟩ := head_cell (g := 6) (t := 4) h (by kernel_rfl) (by kernel_rfl)
  obtain ⟨b, rfl, hx⟩ := DataW.trod_bool Tryz.underlying4 hd
  have e := congrArg Prod.fst hx
  simp only [Rows.laid_internal_strconv_optimize, DataW.lit.injEq, Lit.bool.injEq] at e
  rw [hc 0, ← e]; rfl
set_option maxRecDepth 100000 in
theorem info_of {W : World} (h : Lib.VarReads Tryz.prog W "internal/strconv.float64info" Rows.laid_internal_strconv_float64info) : W.cell? ⟨9, 0, none⟩ = some (.int .u64 52) := by
  obtain ⟨cs, fuel, p, hc, hd⟩ := head_cell (g := 9) (t := 242) h (by kernel_rfl) (by kernel_rfl)
  obtain ⟨xs, n, rfl, hx, hl, hxl, hall⟩ := DataW.trod_struct Tryz.underlying242 hd
  have hx0 := congrArg Prod.fst hx
  simp only [Rows.laid_internal_strconv_float64info, DataW.agg.injEq] at hx0
  obtain ⟨x0, x1, x2, rfl⟩ : ∃ x0 x1 x2, xs = [x0, x1, x2] := by
    have hl3 : xs.length = 3 := hxl
    match xs, hl3 with
    | [a, b, c], _ => exact ⟨a, b, c, rfl⟩
  have h0 : DataW.trod (fun _ => ()) Tryz.prog W 0 (fun _ => true) false n 84 ((cs.drop 0).take (Tryz.prog.cellsOf 84)) = some x0 := hall 0 _ rfl
  rw [show Tryz.prog.cellsOf 84 = 1 by kernel_rfl] at h0
  obtain ⟨m, hm, hv, _⟩ := DataW.trod_int Tryz.underlying84 h0
  subst hv
  simp only [List.map_cons, List.map_nil, List.cons.injEq, DataW.lit.injEq, Lit.int.injEq, true_and] at hx0
  obtain ⟨rfl, _⟩ := hx0
  rw [hc 0]
  simp only [List.drop_zero] at hm
  have := congrArg (·[0]?) hm
  simpa using this
set_option maxRecDepth 100000 in
theorem u64_of {W : World} (h : Lib.VarReads Tryz.prog W "internal/strconv.uint64pow10" Rows.laid_internal_strconv_uint64pow10) : W.cell? ⟨7, 1, none⟩ = some (.int .u64 10) ∧ W.cell? ⟨7, 2, none⟩ = some (.int .u64 100) ∧ W.cell? ⟨7, 3, none⟩ = some (.int .u64 1000) := by
  obtain ⟨cs, fuel, p, hc, hd⟩ := head_cell (g := 7) (t := 230) h (by kernel_rfl) (by kernel_rfl)
  have el : ∀ i, i < 4 → cs[i]? = some (.int .u64 (([1, 10, 100, 1000] : List Int).getD i 0)) := by
    intro i hi
    obtain ⟨f, d, q, h1, h2⟩ := Lib.array_elem Tryz.underlying230 hd i (by omega)
    rw [show Tryz.prog.cellsOf 154 = 1 by kernel_rfl, Nat.mul_one] at h2
    obtain ⟨m, hm, hv, _⟩ := DataW.trod_int Tryz.underlying154 h2
    cases hv
    have hmm : m = ([1, 10, 100, 1000] : List Int).getD i 0 := by
      rcases (by omega : i = 0 ∨ i = 1 ∨ i = 2 ∨ i = 3) with rfl | rfl | rfl | rfl <;> (injection h1 with h1; injection h1 with h1; injection h1 with _ h1; exact h1.symm)
    have := congrArg (·[0]?) hm
    simp [List.getElem?_take] at this
    rw [this, hmm]
  exact ⟨by rw [hc 1, el 1 (by omega)]; rfl, by rw [hc 2, el 2 (by omega)]; rfl, by rw [hc 3, el 3 (by omega)]; rfl⟩
set_option maxRecDepth 100000 in
theorem pow_of {W : World} (h : Lib.VarReads Tryz.prog W "internal/strconv.pow10Tab" Rows.laid_internal_strconv_pow10Tab) (i : Nat) (hi : i < 696) (a b : Nat) (hab : Go.Pinned.pow10Rows[i]? = some (a, b)) :
    W.cell? ⟨13, 2 * i, none⟩ = some (.int .u64 a) ∧ W.cell? ⟨13, 2 * i + 1, none⟩ = some (.int .u64 b) := by
  obtain ⟨cs, fuel, p, hc, hd⟩ := head_cell (g := 13) (t := 275) h (by kernel_rfl) (by kernel_rfl)
  have hd' : DataW.trod (fun _ => ()) Tryz.prog W 0 (fun _ => true) false fuel 275 cs = some (.agg (Go.Pinned.pow10Rows.map fun x => .agg [.lit (.int .u64 x.1), .lit (.int .u64 x.2)]), p) := hd
  obtain ⟨f, d, q, h1, h2⟩ := Lib.array_elem Tryz.underlying275 hd' i hi
  rw [List.getElem?_map, hab] at h1
  injection h1 with h1
  subst h1
  rw [show Tryz.prog.cellsOf 274 = 2 by kernel_rfl] at h2
  have h3 := Lib.ints_of_struct (k := .u64) (zs := [(a : Int), (b : Int)]) Tryz.underlying274 (by
    intro j f hf
    match j, hf with
    | 0, hf => cases hf; exact ⟨Tryz.underlying154, rfl, by kernel_rfl⟩
    | 1, hf => cases hf; exact ⟨Tryz.underlying154, rfl, by kernel_rfl⟩
    | n + 2, hf => cases hf) (by kernel_rfl) h2
  have e0 := congrArg (·[0]?) h3
  have e1 := congrArg (·[1]?) h3
  simp [List.getElem?_take] at e0 e1
  rw [hc, hc, Nat.mul_comm 2 i]
  exact ⟨e0, e1⟩
set_option maxRecDepth 100000 in
theorem f10_of {W : World} (h : Lib.VarReads Tryz.prog W "internal/strconv.float64pow10" Rows.laid_internal_strconv_float64pow10) :
    ∃ B o c, W.cell? ⟨12, 0, none⟩ = some (.slice (some ⟨B, o, none⟩) 23 c) ∧ W.cell? ⟨B, o + 1, none⟩ = some (.float .f64 4621819117588971520) := by
  obtain ⟨cs, fuel, p, hc, hd⟩ := head_cell (g := 12) (t := 271) h (by kernel_rfl) (by kernel_rfl)
  rcases DataW.trod_slice Tryz.underlying271 hd with ⟨_, hx⟩ | ⟨a, len, cap, el, rs, m, rfl, hcs, hx, _, hlc, _, hel, helem, hsp, _⟩
  · cases hx
  have e0 := congrArg Prod.fst hx
  simp only [Rows.laid_internal_strconv_float64pow10, DataW.slice.injEq] at e0
  obtain ⟨eE, eR⟩ := e0
  have hlen : len = 23 := by
    have := congrArg List.length eE
    simp at this
    omega
  have hcell : ∀ i, i < 2 → W.cell? (a.add i) = some (.float .f64 (([4607182418800017408, 4621819117588971520] : List Nat).getD i 0)) := by
    intro i hi
    have h1 := helem i (by omega)
    rw [show Tryz.prog.cellsOf 115 = 1 by kernel_rfl] at h1
    obtain ⟨b, hb⟩ : ∃ b, el[i]? = some b := ⟨el[i]'(by omega), List.getElem?_eq_getElem (by omega)⟩
    rw [hb] at h1
    obtain ⟨ce, hce, hte⟩ := Option.bind_eq_some_iff.1 h1
    obtain ⟨z, hz, hbz⟩ := trod_float' Tryz.underlying115 hte
    have hb1 : b.1 = .lit (.float .f64 (([4607182418800017408, 4621819117588971520] : List Nat).getD i 0)) := by
      have := congrArg (·[i]?) eE
      rcases (by omega : i = 0 ∨ i = 1) with rfl | rfl
      · simp [hb] at this; exact this.symm
      · simp [hb] at this; exact this.symm
    rw [hbz] at hb1
    simp only [DataW.lit.injEq, Lit.float.injEq, true_and] at hb1
    obtain ⟨_, _, hcc⟩ := World.cells?_some hce
    have h5 := hcc 0 (by omega)
    rw [hz, hb1] at h5
    simp only [Nat.mul_one] at h5
    have e1 : (a.add i).add 0 = a.add i := by simp [Addr.add]
    rw [e1] at h5
    exact h5
  obtain ⟨R, o, sR⟩ := a
  obtain rfl : sR = none := by
    have h00 := hcell 0 (by decide)
    have : (Addr.add ⟨R, o, sR⟩ 0) = ⟨R, o, sR⟩ := by simp [Addr.add]
    rw [this] at h00
    exact Go.Proofs.cell_spot h00
  have h1 := hcell 1 (by decide)
  rw [Addr.add_lit] at h1
  refine ⟨R, o, cap, ?_, h1⟩
  rw [hc 0, hcs, hlen]; rfl
set_option maxRecDepth 100000 in
theorem row350 : Go.Pinned.pow10Rows[350]? = some (14411518807585587200, 0) ∧ Go.Pinned.pow10Rows[351]? = some (18014398509481984000, 0) := by constructor <;> kernel_rfl
set_option maxRecDepth 100000 in
theorem of_laid {W : World} (h : laidMetH Tryz.prog tabsF W) : Wd2 W := by
  have h0 : laidMet Tryz.prog tabsF W := by
    rw [MakeChecks.laidMetH_plain _ _ _ (by kernel_rfl)] at h
    exact h
  unfold tabsF at h0
  have u := u64_of (Lib.laidMet.reads h0 (by simp))
  have p := pow_of (Lib.laidMet.reads h0 (by simp))
  have p0 := p 350 (by decide) _ _ row350.1
  have p1 := p 351 (by decide) _ _ row350.2
  exact ⟨⟨opt_of (Lib.laidMet.reads h0 (by simp)), info_of (Lib.laidMet.reads h0 (by simp)), f10_of (Lib.laidMet.reads h0 (by simp))⟩, u.1, u.2.1, u.2.2, p0.1, p0.2, p1.1, p1.2⟩
theorem max_of {W : World} (h : W.ShapedOpen Tryz.prog) : ∃ m, W.cell? ⟨2, 0, none⟩ = some (.int .i64 m) :=
  Go.Proofs.cell_of_shapedOpen_int (zero := #[.int .i64 0]) (t := 3) h (of_decide_eq_true (by kernel_rfl)) (by kernel_rfl) rfl (by kernel_rfl) (by kernel_rfl) Tryz.underlying3
theorem tb_of {W : World} (h : laidMetH Tryz.prog tabsF W) (hs : W.ShapedOpen Tryz.prog) : TB W.heap.size W := by
  obtain ⟨m, hm⟩ := max_of hs
  exact TB.of (of_laid h) hm
section
variable {H : Type} {enc : TypeId × Value → H}
theorem handed_and_shaped {a : Assume} {C : Checked} {os : Os} {f : FuncId} {fn : Func} {s : ChangeSpec} {conds : List PathCond} {apart fresh handsOn again : Bool} {X : World → Array Value → Prop}
    (hX : ∀ (w w' : World) (args : Array Value), w.heap = w'.heap → X w args → X w' args)
    (own : ownKnob C.prog.godebug = none) (started : os.Started) (noInit : C.prog.inits.idxOf? f = none) (hfn : C.prog.funcs[f]? = some fn)
    (witness : ∃ (w : World) (tape : Tape) (i : Input), w.os = os ∧ (w.forCall tape i).Shaped C.prog ∧ i.vars = [] ∧ Input.okWide C.prog (w.forCall tape i) .any w.heap.size f i ∧
      ((s.pre enc C.prog fn conds apart (w.forCall tape i).memory i.args ∧ X (w.forCall tape i).memory i.args) ∧ sizedMet enc C.prog fn (OpenSpec.ofChange s) apart (w.forCall tape i).memory i.args) ∧ a.holds C.prog (lone (Frame.enter C.prog f i.args .normal) [] (w.forCall tape i)))
    (contract : ∀ (W : World) (base : Nat) (args : Array Value) (ds gs : List (DataW H)) (before : List MemPlace),
      (∀ (j : Nat) t v, fn.params[j]? = some t → args[j]? = some v → Value.okWide C.prog W .any base t v) →
      DataW.Whole enc C.prog fn.params.toList s.vars apart W args.toList ds gs before →
      conds.all (PathCond.test C.prog ⟨fn.params.toList, ds, s.plain.varTypes C.prog, gs⟩) = true →
      (DataW.weightsEach C.prog (fn.params.toList ++ s.plain.varTypes C.prog) (ds ++ gs)).all (· ≤ reachBytes) = true → X W args →
      W.ShapedOpen C.prog →
      a.holds C.prog (lone (Frame.enter C.prog f args .normal) [] W) →
      Calls C.prog f args W fun e W' => ∃ v, e = .returned v ∧ s.post enc C.prog fn apart fresh handsOn again W args v W') :
    ReturnsInHanded a C os f .any (fun w args => (s.pre enc C.prog fn conds apart w args ∧ X w args) ∧ sizedMet enc C.prog fn (OpenSpec.ofChange s) apart w args) (s.post enc C.prog fn apart fresh handsOn again) := by
  refine returnsInHanded_of_calls own started noInit witness ?_
  intro w tape i _ hsh _ hok hpre hholds
  obtain ⟨_, _, _, fn', hfn', _, _, _, _, hval⟩ := hok
  have e : fn' = fn := Option.some.inj (hfn'.symm.trans hfn)
  subst e
  obtain ⟨⟨⟨ds, gs, before, hw, hc⟩, hx⟩, hz⟩ := hpre
  have hw' := DataW.Whole.of_heap (w' := w.forCall tape i) (by rfl) hw
  refine (contract (w.forCall tape i) w.heap.size i.args ds gs before hval hw' hc (hz.weights hw) (hX _ _ _ (by rfl) hx) hsh hholds).mono fun e W' ⟨v, he, hp⟩ => ?_
  subst he
  exact ChangeSpec.post_blind hp
end
end Go.Proofs.YtfhdfhlabkeipaaGreatDoor
