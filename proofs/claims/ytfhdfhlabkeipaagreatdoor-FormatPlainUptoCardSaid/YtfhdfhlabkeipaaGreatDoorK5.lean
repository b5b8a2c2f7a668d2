/- Format: fmtEFG, ftoa64, FormatFloat, Print, Reckon at the example. Turned from Calc by tools/mkFK.py. -/
import Derived.Test.YtfhdfhlabkeipaaGreatDoorK4
import Derived.Deep.RegionHeld3
namespace Go.Proofs.YtfhdfhlabkeipaaGreatDoor.K
open Go.RowKit
set_option linter.unusedSimpArgs false
set_option linter.unusedVariables false

theorem info_parts {i? : Option TypeInfo} {z : Value} {s b : Nat} (h : i?.map (fun i => (i.zero, i.size, i.bytes)) = some (some z, s, b)) : ∃ i, i? = some i ∧ i.zero = some z ∧ i.size = s ∧ i.bytes = b := by
  cases i? with
  | none => cases h
  | some i =>
    simp only [Option.map_some, Option.some.injEq, Prod.mk.injEq] at h
    exact ⟨i, rfl, h.1, h.2.1, h.2.2⟩
theorem info5 : (Tryz.prog.info? 5).map (fun i => (i.zero, i.size, i.bytes)) = some (some (.int .u8 0), 1, 1) := by kernel_rfl
@[go_sem] theorem mx0 : (min 2 1 : Int) = 1 := by decide
@[go_sem] theorem mx1 : (min 2 0 : Int) = 0 := by decide
@[go_sem] theorem mx2 : (min 2 2 : Int) = 2 := by decide
@[go_sem] theorem mx3 : (max 0 (-1) : Int) = 0 := by decide
@[go_sem] theorem mx4 : (max 0 0 : Int) = 0 := by decide
@[go_sem] theorem mx5 : (max 0 1 : Int) = 1 := by decide
@[go_sem] theorem mx6 : (max 0 2 : Int) = 2 := by decide
@[go_sem] theorem mx7 : (min 1 0 : Int) = 0 := by decide
@[go_sem] theorem mx8 : (min 1 1 : Int) = 1 := by decide
@[go_sem] theorem mx9 : (min 1 2 : Int) = 1 := by decide
@[go_sem] theorem mx10 : (min 0 1 : Int) = 0 := by decide
@[go_sem] theorem mx11 : (min 0 0 : Int) = 0 := by decide
@[go_sem] theorem mx12 : (min 0 2 : Int) = 0 := by decide
@[go_sem] theorem mx13 : (max 1 0 : Int) = 1 := by decide
@[go_sem] theorem mx14 : (max 2 0 : Int) = 2 := by decide
section
variable {ops : Array Oper} {rest : List Oper} {o : Oper} {a : Act} {Q : Exit → Act → World → Prop} {w : World}
/-- append of one byte at []byte. -/
theorem ap90 (hgd : o.guard = none) (s x : Operand) (ho : o.op = .call { callee := .builtin .append, args := #[s, x], argTypes := #[35, 35] })
    (base : Nat) (v : Value) (n : Nat) (l : List UInt8) (hs : a.eval s = v) (hown : w.ownsRow base 5 1 v n (bs l))
    (A : Option Addr) (u : UInt8) (hx : a.eval x = .slice A 1 1) (hr : Rd w A (bs [u])) (hb : n ≤ 1000) (hbase : base ≤ w.heap.size)
    (h : ∀ A' c' w', w'.ownsRow base 5 1 (.slice A' (n + 1) c') (n + 1) (bs (l ++ [u])) → w.grownBy w' v.ownBlock → (ablk A' = v.ownBlock ∨ ablk A' = some w.heap.size) → wpList Tryz.prog ops Q rest (a.put o.dst (.slice A' (n + 1) c')) w') : wpList Tryz.prog ops Q (o :: rest) a w := by
  obtain ⟨i0, hi0, hz0, hz1, hz2⟩ := info_parts info5
  exact wpList_append_rd w hgd s x 35 ho base 5 i0 _ 1 1 Tryz.underlying35 hi0 hz0 hz1 hz2 rfl (by omega) v n (bs l) hs hown A 1 1 (bs [u]) hx rfl hr (bs_one [u]) (by unfold maxLen; omega) (by omega) hbase fun A' c' w' h1 h2 h3 => h A' c' w' (by rw [bs_append]; exact h1) h2 h3
end
theorem Rd.newL (w : World) (xs : List Value) (e : TypeId) : Rd (w.alloc (.cells xs.toArray e)) (some ⟨w.heap.size, 0, none⟩) xs := fun _ => ⟨_, _, rfl, by simp, fun j u hj => by
  unfold World.cell?; rw [heap_alloc_new, Nat.zero_add]; simpa using hj⟩
theorem BF.grown {w w' : World} {b : Nat} {e : TypeId} {l : List UInt8} (h : BF w b e l) {r : Option Nat} (g : w.grownBy w' r) (hr : some b ≠ r) : BF w' b e l := (g.block b (Array.getElem?_eq_some_iff.1 h).1 hr).trans h
/-- What an append leaves: the row, the buffer, what lay below. -/
structure FI (w0 w : World) (base b : Nat) (e : TypeId) (buf l : List UInt8) (v : Value) : Prop where
  o : w.ownsRow base 5 1 v l.length (bs l)
  bf : BF w b e buf
  bel : Below base w0 w
  sz : base ≤ w.heap.size
  nb : v.ownBlock ≠ some b
theorem own_ablk (A : Option Addr) (n c : Nat) : (Value.slice A n c).ownBlock = ablk A := by
  cases A <;> rfl
theorem FI.app {w0 w w' : World} {base b : Nat} {e : TypeId} {buf l : List UInt8} {v : Value} {u : UInt8} {A' : Option Addr} {c' : Nat} (h : FI w0 w base b e buf l v) (o : Obj) (ho : w'.ownsRow base 5 1 (.slice A' (l.length + 1) c') (l.length + 1) (bs (l ++ [u]))) (g : (w.alloc o).grownBy w' v.ownBlock) (ha : ablk A' = v.ownBlock ∨ ablk A' = some (w.alloc o).heap.size) : FI w0 w' base b e buf (l ++ [u]) (.slice A' (l.length + 1) c') := by
  have hge : ∀ g, v.ownBlock = some g → base ≤ g := fun g hg => (h.o.lt g hg).1
  have ga := World.grownBy_alloc w o v.ownBlock
  have gg := ga.trans g
  have hbl : b < w.heap.size := (Array.getElem?_eq_some_iff.1 h.bf).1
  refine ⟨by rw [List.length_append]; exact ho, h.bf.grown gg (fun e => h.nb e.symm), ?_, Nat.le_trans h.sz gg.size, ?_⟩
  · exact ⟨gg.os.trans h.bel.os, gg.tape.trans h.bel.tape, gg.output.trans h.bel.output, Nat.le_trans h.bel.size gg.size, fun k hk => (gg.block k (Nat.lt_of_lt_of_le hk h.sz) (fun e => by have := hge k e.symm; omega)).trans (h.bel.block k hk)⟩
  · rw [own_ablk]
    rcases ha with e1 | e1
    · rw [e1]; exact h.nb
    · rw [e1]
      intro e2
      injection e2 with e2
      have hs : (w.alloc o).heap.size = w.heap.size + 1 := by simp
      omega
set_option maxHeartbeats 2000000 in
set_option maxRecDepth 100000 in
theorem fmt_350 (base b c : Nat) (e : TypeId) (A : Option Addr) (w : World) (hI : FI w w base b e b350 [] (.slice A 0 c)) : Calls Tryz.prog 177 #[.slice A 0 c, .bool false, .slice (some ⟨b, 0, none⟩) 24 24, .int .i64 1, .int .i64 2, .int .i64 2, .int .u8 102, .bool false] w fun e' w' => ∃ A' c', e' = .returned (.slice A' 4 c') ∧ FI w w' base b e b350 [51, 46, 53, 48] (.slice A' 4 c') := by
  have x0 := hI.bf.cell (j := 0) (v := 51) rfl
  have x1 := hI.bf.cell (j := 1) (v := 53) rfl
  have I0 := Lib.hid hI
  replace hI := Lib.hid hI
  go_enter Tryz.func177, Tryz.ntmps177
  go_wp2_with fail
  refine wp_loop_in (loopWp_round ?_)
  go_wp2_with (at_builtin; refine ap90 rfl (.tmp 195) (.tmp 197) rfl base (.slice A 0 c) 0 [] rfl (own_keep I0.out.o (World.grownBy_alloc w (.cells #[.int .u8 51] 5) none)) (some ⟨w.heap.size, 0, none⟩) 51 rfl (Rd.newL w [.int .u8 51] 5) (by omega) (by have := I0.out.sz; simp; omega) ?_; intro A1 c1 w1 o1 g1 n1; have I1 := Lib.hid (I0.out.app _ o1 g1 n1); have x0 := I1.out.bf.cell (j := 0) (v := 51) rfl; have x1 := I1.out.bf.cell (j := 1) (v := 53) rfl; clear o1 g1 n1)
  refine loopWp_round ?_
  go_wp2_with fail
  refine wp_loop_in (loopWp_round ?_)
  go_wp2_with (at_builtin; refine ap90 rfl (.tmp 214) (.tmp 215) rfl base (.slice A1 1 c1) 1 [51] rfl (own_keep I1.out.o (World.grownBy_alloc w1 (.cells #[.int .u8 46] 5) none)) (some ⟨w1.heap.size, 0, none⟩) 46 rfl (Rd.newL w1 [.int .u8 46] 5) (by omega) (by have := I1.out.sz; simp; omega) ?_; intro A2 c2 w2 o2 g2 n2; have I2 := Lib.hid (I1.out.app _ o2 g2 n2); have x0 := I2.out.bf.cell (j := 0) (v := 51) rfl; have x1 := I2.out.bf.cell (j := 1) (v := 53) rfl; clear o2 g2 n2)
  refine wp_loop_in (loopWp_round ?_)
  go_wp2_with fail
  refine wp_loop_in (loopWp_round ?_)
  go_wp2_with (at_builtin; refine ap90 rfl (.tmp 250) (.tmp 257) rfl base (.slice A2 2 c2) 2 [51, 46] rfl (own_keep I2.out.o (World.grownBy_alloc w2 (.cells #[.int .u8 53] 5) none)) (some ⟨w2.heap.size, 0, none⟩) 53 rfl (Rd.newL w2 [.int .u8 53] 5) (by omega) (by have := I2.out.sz; simp; omega) ?_; intro A3 c3 w3 o3 g3 n3; have I3 := Lib.hid (I2.out.app _ o3 g3 n3); have x0 := I3.out.bf.cell (j := 0) (v := 51) rfl; have x1 := I3.out.bf.cell (j := 1) (v := 53) rfl; clear o3 g3 n3)
  refine loopWp_round ?_
  go_wp2_with fail
  refine wp_loop_in (loopWp_round ?_)
  go_wp2_with (at_builtin; refine ap90 rfl (.tmp 263) (.tmp 264) rfl base (.slice A3 3 c3) 3 [51, 46, 53] rfl (own_keep I3.out.o (World.grownBy_alloc w3 (.cells #[.int .u8 48] 5) none)) (some ⟨w3.heap.size, 0, none⟩) 48 rfl (Rd.newL w3 [.int .u8 48] 5) (by omega) (by have := I3.out.sz; simp; omega) ?_; intro A4 c4 w4 o4 g4 n4; have I4 := Lib.hid (I3.out.app _ o4 g4 n4); have x0 := I4.out.bf.cell (j := 0) (v := 51) rfl; have x1 := I4.out.bf.cell (j := 1) (v := 53) rfl; clear o4 g4 n4)
  refine loopWp_round ?_
  go_wp2_with fail
  go_ret
  exact ⟨_, _, rfl, I4.out⟩
@[go_sem] theorem bits2_run (b : Nat) (W : World) : (callFunc 174 #[.float .f64 b]).run Tryz.prog W = .ok (.value (.int .u64 b)) W := by
  rw [run_callFunc_extern Tryz.func174 (by kernel_rfl) (by kernel_rfl) (by kernel_rfl) (e := Extern.MathFloatBits.float64bits) (by kernel_rfl)]
  rfl
theorem g_below0 {w w' : World} {base : Nat} (g : w.grownBy w' none) (hb : base ≤ w.heap.size) : Below base w w' := ⟨g.os, g.tape, g.output, g.size, fun k hk => g.block k (by omega) (by simp)⟩
@[go_sem] theorem wr1 : wrap64 1 = 1 := by unfold wrap64; decide
@[go_sem] theorem wr2 : wrap64 2 = 2 := by unfold wrap64; decide
@[go_sem] theorem wr3 : wrap64 3 = 3 := by unfold wrap64; decide
@[go_sem] theorem wrm3 : wrap64 (-3) = -3 := by unfold wrap64; decide
@[go_sem] theorem bt1 : bits BinOp.and IntKind.i64 1024 (2048 - 1) = 1024 := by decide
@[go_sem] theorem bt1' : bits BinOp.and IntKind.i64 1024 2047 = 1024 := by decide
@[go_sem] theorem bt2 : bits BinOp.and IntKind.i64 1020 (2048 - 1) = 1020 := by decide
@[go_sem] theorem bt2' : bits BinOp.and IntKind.i64 1020 2047 = 1020 := by decide
@[go_sem] theorem bt3 : bits BinOp.and IntKind.u64 4615063718147915776 4503599627370495 = 3377699720527872 := by decide
@[go_sem] theorem bt3' : bits BinOp.and IntKind.u64 4615063718147915776 (4503599627370496 - 1) = 3377699720527872 := by decide
@[go_sem] theorem bt4 : bits BinOp.or IntKind.u64 3377699720527872 4503599627370496 = 7881299347898368 := by decide
@[go_sem] theorem bt5 : bits BinOp.and IntKind.u64 4593671619917905920 4503599627370495 = 0 := by decide
@[go_sem] theorem bt5' : bits BinOp.and IntKind.u64 4593671619917905920 (4503599627370496 - 1) = 0 := by decide
@[go_sem] theorem bt6 : bits BinOp.or IntKind.u64 0 4503599627370496 = 4503599627370496 := by decide
set_option maxHeartbeats 2000000 in
set_option maxRecDepth 100000 in
theorem ftoa_35 (base c : Nat) (A : Option Addr) (w : World) (hW : Wd2 w) (hO : w.ownsRow base 5 1 (.slice A 0 c) 0 []) (hb : base ≤ w.heap.size) : Calls Tryz.prog 159 #[.slice A 0 c, .float .f64 4615063718147915776, .int .u8 102, .int .i64 2] w fun e' w' => ∃ A' c', e' = .returned (.slice A' 4 c') ∧ w'.ownsRow base 5 1 (.slice A' 4 c') 4 (bs [51, 46, 53, 48]) ∧ Below base w w' := by
  have o0 := hW.d.opt
  replace hW := Lib.hid hW; replace hO := Lib.hid hO; replace hb := Lib.hid hb
  go_enter Tryz.func159, Tryz.ntmps159
  go_wp2_with fail
  go_region_held3 (fun w' => w.grownBy w' none) (first | exact g_drew (World.grownBy.refl w none) | exact World.grownBy.refl w none | fail) (fail)
  go_wp2_with fail
  refine (log10_2 _).mono ?_
  rintro e w1 ⟨rfl, hw1⟩
  subst hw1
  go_wp2_with fail
  refine (len_a _).mono ?_
  rintro e w1 ⟨rfl, hw1⟩
  subst hw1
  go_wp2_with fail
  have B1 : BF (w.alloc (.cells #[.int .u8 0, .int .u8 0, .int .u8 0, .int .u8 0, .int .u8 0, .int .u8 0, .int .u8 0, .int .u8 0, .int .u8 0, .int .u8 0, .int .u8 0, .int .u8 0, .int .u8 0, .int .u8 0, .int .u8 0, .int .u8 0, .int .u8 0, .int .u8 0, .int .u8 0, .int .u8 0, .int .u8 0, .int .u8 0, .int .u8 0, .int .u8 0] 200)).drew w.heap.size 200 z24 := by
    unfold BF
    show (w.heap.push _)[w.heap.size]? = _
    simp
    rfl
  have g1 : w.grownBy (w.alloc (.cells #[.int .u8 0, .int .u8 0, .int .u8 0, .int .u8 0, .int .u8 0, .int .u8 0, .int .u8 0, .int .u8 0, .int .u8 0, .int .u8 0, .int .u8 0, .int .u8 0, .int .u8 0, .int .u8 0, .int .u8 0, .int .u8 0, .int .u8 0, .int .u8 0, .int .u8 0, .int .u8 0, .int .u8 0, .int .u8 0, .int .u8 0, .int .u8 0] 200)).drew none := g_drew (World.grownBy_alloc _ _ _)
  obtain ⟨b, hbe⟩ : ∃ n, n = w.heap.size := ⟨_, rfl⟩
  rw [← hbe] at B1
  rw [← hbe]
  have hr : ∀ g, some b = some g → w.heap.size ≤ g := fun g h => by injection h with h; omega
  refine (fixed_1 _ (hW.out.grown g1)).mono ?_
  rintro e w2 ⟨rfl, g2⟩
  have G2 : w.grownBy w2 none := g1.trans g2
  have B2 := B1.grown g2 (by simp)
  have hS2 := (Array.getElem?_eq_some_iff.1 B2).1
  replace hbe := Lib.hid hbe; replace hr := Lib.hid hr; replace G2 := Lib.hid G2; replace B2 := Lib.hid B2
  clear B1 g1 g2 hS2
  go_upto_region 74 with fail
  go_region_held3 (fun w' => w.grownBy w' none) (first | exact G2.out | exact g_drew G2.out | assumption | fail)
    ((first
      | (go_at_call 161; refine (numd_350 _ (hW.out.grown (by first | exact G2.out | exact g_drew G2.out))).mono ?_; rintro e w3 ⟨rfl, hw3⟩; subst hw3)
      | (go_at_call 180; refine (setd_350 b 200 _ (by first | exact B2.out | (have hq := B2.out; unfold BF at hq ⊢; exact hq))).mono ?_; rintro e w4 ⟨rfl, B4, g4⟩; have G4 := g_rows (by first | exact G2.out | exact g_drew G2.out) hr.out g4; replace B4 := Lib.hid B4; clear g4)
      | fail))
  have hI : FI w4 w4 base b 200 b350 [] (.slice A 0 c) := ⟨own_keep hO.out ‹w.grownBy w4 none›, B4.out, Below.refl _ _, Nat.le_trans hb.out (‹w.grownBy w4 none›).size, fun e => by have := (hO.out.lt b e).2; have := hbe.out; omega⟩
  have CF := fmt_350 base b c 200 A w4 hI
  replace CF := Lib.hid CF
  clear hI
  go_wp2_with fail
  refine CF.out.mono ?_
  rintro e w5 ⟨A', c', rfl, I5⟩
  replace I5 := Lib.hid I5
  go_wp2_with fail
  go_ret
  exact ⟨_, _, rfl, I5.out.o, (g_below0 ‹w.grownBy w4 none› hb.out).trans I5.out.bel⟩
@[go_sem] theorem mx24 : (max 6 24 : Int) = 24 := by decide
@[go_sem] theorem mx220 : (min 2 20 : Int) = 2 := by decide
set_option maxHeartbeats 1000000 in
set_option maxRecDepth 100000 in
theorem format_35 (w : World) (hW : Wd2 w) : Calls Tryz.prog 143 #[.float .f64 4615063718147915776, .int .u8 102, .int .i64 2, .int .i64 64] w fun e' w' => e' = .returned (.string ⟨#[51, 46, 53, 48]⟩) ∧ w.grownBy w' none := by
  obtain ⟨i0, hi0, hz0, hz1, hz2⟩ := info_parts info5
  replace hW := Lib.hid hW
  go_enter Tryz.func143, Tryz.ntmps143
  go_wp2_with (at_make; refine wpList_make_own w rfl _ _ 35 rfl w.heap.size 5 i0 _ 1 Tryz.underlying35 hi0 hz0 hz1 .i64 .i64 24 24 rfl rfl rfl (by rw [hz2]; omega) (by unfold maxLen; omega) (Nat.le_refl _) ?_; intro w1 o1 g1; have CF := Lib.hid (ftoa_35 w.heap.size 24 _ w1 (hW.out.grown g1) o1 g1.size); replace o1 := Lib.hid o1)
  refine CF.out.mono ?_
  rintro e w2 ⟨A, c, rfl, o2, b2⟩
  obtain ⟨A', c', hA, R2, _, _, _⟩ := Rd.of_own o2
  injection hA with hA _ hc
  subst hA; subst hc
  have hcv := conv_str (P := Tryz.prog) w2 35 9 5 Tryz.underlying35 Tryz.underlying5 Tryz.underlying9 A 4 c [51, 46, 53, 48] rfl R2
  have G2 := below_g ((g_below g1).trans b2)
  replace G2 := Lib.hid G2
  clear g1 b2 o2 R2
  go_wp2_with fail
  go_ret
  exact ⟨rfl, G2.out⟩
set_option maxHeartbeats 1000000 in
theorem formatF_35 (w : World) (hW : Wd2 w) : Calls Tryz.prog 118 #[.float .f64 4615063718147915776, .int .u8 102, .int .i64 2, .int .i64 64] w fun e' w' => e' = .returned (.string ⟨#[51, 46, 53, 48]⟩) ∧ w.grownBy w' none := by
  have CF := Lib.hid (format_35 w hW)
  clear hW
  go_enter Tryz.func118, Tryz.ntmps118
  go_wp2_with fail
  refine CF.out.mono ?_
  rintro e w2 ⟨rfl, g2⟩
  replace g2 := Lib.hid g2
  go_wp2_with fail
  go_ret
  exact ⟨rfl, g2.out⟩
set_option maxHeartbeats 1000000 in
theorem print_35 (w : World) (hW : Wd2 w) : Calls Tryz.prog 88 #[.float .f64 4615063718147915776, .int .i64 2] w fun e' w' => e' = .returned (.string ⟨#[51, 46, 53, 48]⟩) ∧ w.grownBy w' none := by
  have CF := Lib.hid (formatF_35 w hW)
  clear hW
  go_enter Tryz.func88, Tryz.ntmps88
  go_wp2_with fail
  refine (nn_3p5 _).mono ?_
  rintro e w1 ⟨rfl, h1⟩
  subst h1
  go_wp2_with fail
  refine (inf_p3p5 _).mono ?_
  rintro e w1 ⟨rfl, h1⟩
  subst h1
  go_wp2_with fail
  refine (inf_m3p5 _).mono ?_
  rintro e w1 ⟨rfl, h1⟩
  subst h1
  go_wp2_with fail
  refine CF.out.mono ?_
  rintro e w2 ⟨rfl, g2⟩
  replace g2 := Lib.hid g2
  go_wp2_with fail
  go_ret
  exact ⟨rfl, g2.out⟩
set_option maxHeartbeats 2000000 in
set_option maxRecDepth 100000 in
theorem reckon_a (w : World) (hW : Wd2 w) : Calls Tryz.prog 74 #[.string ⟨#[47]⟩, .string ⟨#[55]⟩, .string ⟨#[50]⟩, .bool true, .int .i64 2] w fun e' w' => e' = .returned (.tuple #[.string ⟨#[51, 46, 53, 48]⟩, .int .i64 0]) ∧ w.grownBy w' none := by
  replace hW := Lib.hid hW
  go_enter Tryz.func74, Tryz.ntmps74
  go_wp2_with fail
  refine (cmp_div _).mono ?_
  rintro e w1 ⟨rfl, h1⟩
  subst h1
  go_wp2_with fail
  refine (rec_one _).mono ?_
  rintro e w2 ⟨rfl, h2⟩
  subst h2
  go_wp2_with fail
  refine (parse_7 _ hW.out.d).mono ?_
  rintro e w3 ⟨rfl, h3⟩
  subst h3
  go_wp2_with fail
  refine (parse_2 _ hW.out.d).mono ?_
  rintro e w4 ⟨rfl, h4⟩
  subst h4
  go_wp2_with fail
  refine (rec_72 _).mono ?_
  rintro e w5 ⟨rfl, h5⟩
  subst h5
  go_wp2_with fail
  refine (print_35 _ hW.out).mono ?_
  rintro e w6 ⟨rfl, g6⟩
  replace g6 := Lib.hid g6
  go_wp2_with fail
  go_ret2
  exact ⟨rfl, g6.out⟩
end Go.Proofs.YtfhdfhlabkeipaaGreatDoor.K
