/- Calc: fmtEFG at the examples. -/
import Derived.Test.YtmoofecphpknfaaGreatDoorC9
import Derived.Test.YtmoofecphpknfaaGreatDoorRd
namespace Go.Proofs.YtmoofecphpknfaaGreatDoor
open Go.RowKit
set_option linter.unusedSimpArgs false
set_option linter.unusedVariables false

theorem info_parts {i? : Option TypeInfo} {z : Value} {s b : Nat} (h : i?.map (fun i => (i.zero, i.size, i.bytes)) = some (some z, s, b)) : ∃ i, i? = some i ∧ i.zero = some z ∧ i.size = s ∧ i.bytes = b := by
  cases i? with
  | none => cases h
  | some i =>
    simp only [Option.map_some, Option.some.injEq, Prod.mk.injEq] at h
    exact ⟨i, rfl, h.1, h.2.1, h.2.2⟩
@[go_sem] theorem mx0 : (min 2 1 : Int) = 1 := by decide
@[go_sem] theorem mx1 : (min 2 0 : Int) = 0 := by decide
@[go_sem] theorem mx2 : (min 2 2 : Int) = 2 := by decide
@[go_sem] theorem mx3 : (max 0 (-1) : Int) = 0 := by decide
@[go_sem] theorem mx4 : (max 0 0 : Int) = 0 := by decide
@[go_sem] theorem mx5 : (max 0 1 : Int) = 1 := by decide
@[go_sem] theorem mx6 : (max 0 2 : Int) = 2 := by decide
@[go_sem] theorem mx7 : (min 1 0 : Int) = 0 := by decide
@[go_sem] theorem mx8 : (min 1 1 : Int) = 1 := by decide
@[go_sem] theorem mx9 : (min 1 2 : Int) = 1 := by decide
@[go_sem] theorem mx10 : (min 0 1 : Int) = 0 := by decide
@[go_sem] theorem mx11 : (min 0 0 : Int) = 0 := by decide
@[go_sem] theorem mx12 : (min 0 2 : Int) = 0 := by decide
@[go_sem] theorem mx13 : (max 1 0 : Int) = 1 := by decide
@[go_sem] theorem mx14 : (max 2 0 : Int) = 2 := by decide
theorem info5 : (Tryz.prog.info? 5).map (fun i => (i.zero, i.size, i.bytes)) = some (some (.int .u8 0), 1, 1) := by kernel_rfl
section
variable {ops : Array Oper} {rest : List Oper} {o : Oper} {a : Act} {Q : Exit → Act → World → Prop} {w : World}
/-- append of one byte at []byte. -/
theorem ap90 (hgd : o.guard = none) (s x : Operand) (ho : o.op = .call { callee := .builtin .append, args := #[s, x], argTypes := #[90, 90] })
    (base : Nat) (v : Value) (n : Nat) (l : List UInt8) (hs : a.eval s = v) (hown : w.ownsRow base 5 1 v n (bs l))
    (A : Option Addr) (u : UInt8) (hx : a.eval x = .slice A 1 1) (hr : Rd w A (bs [u])) (hb : n ≤ 1000) (hbase : base ≤ w.heap.size)
    (h : ∀ A' c' w', w'.ownsRow base 5 1 (.slice A' (n + 1) c') (n + 1) (bs (l ++ [u])) → w.grownBy w' v.ownBlock → (ablk A' = v.ownBlock ∨ ablk A' = some w.heap.size) → wpList Tryz.prog ops Q rest (a.put o.dst (.slice A' (n + 1) c')) w') : wpList Tryz.prog ops Q (o :: rest) a w := by
  obtain ⟨i0, hi0, hz0, hz1, hz2⟩ := info_parts info5
  exact wpList_append_rd w hgd s x 90 ho base 5 i0 _ 1 1 Tryz.underlying90 hi0 hz0 hz1 hz2 rfl (by omega) v n (bs l) hs hown A 1 1 (bs [u]) hx rfl hr (bs_one [u]) (by unfold maxLen; omega) (by omega) hbase fun A' c' w' h1 h2 h3 => h A' c' w' (by rw [bs_append]; exact h1) h2 h3
end
theorem Rd.newL (w : World) (xs : List Value) (e : TypeId) : Rd (w.alloc (.cells xs.toArray e)) (some ⟨w.heap.size, 0, none⟩) xs := fun _ => ⟨_, _, rfl, by simp, fun j u hj => by
  unfold World.cell?; rw [heap_alloc_new, Nat.zero_add]; simpa using hj⟩
theorem BF.grown {w w' : World} {b : Nat} {e : TypeId} {l : List UInt8} (h : BF w b e l) {r : Option Nat} (g : w.grownBy w' r) (hr : some b ≠ r) : BF w' b e l := (g.block b (Array.getElem?_eq_some_iff.1 h).1 hr).trans h
/-- What an append leaves: the row, the buffer, what lay below. -/
structure FI (w0 w : World) (base b : Nat) (e : TypeId) (buf l : List UInt8) (v : Value) : Prop where
  o : w.ownsRow base 5 1 v l.length (bs l)
  bf : BF w b e buf
  bel : Below base w0 w
  sz : base ≤ w.heap.size
  nb : v.ownBlock ≠ some b
theorem own_ablk (A : Option Addr) (n c : Nat) : (Value.slice A n c).ownBlock = ablk A := by
  cases A <;> rfl
theorem FI.app {w0 w w' : World} {base b : Nat} {e : TypeId} {buf l : List UInt8} {v : Value} {u : UInt8} {A' : Option Addr} {c' : Nat} (h : FI w0 w base b e buf l v) (o : Obj) (ho : w'.ownsRow base 5 1 (.slice A' (l.length + 1) c') (l.length + 1) (bs (l ++ [u]))) (g : (w.alloc o).grownBy w' v.ownBlock) (ha : ablk A' = v.ownBlock ∨ ablk A' = some (w.alloc o).heap.size) : FI w0 w' base b e buf (l ++ [u]) (.slice A' (l.length + 1) c') := by
  have hge : ∀ g, v.ownBlock = some g → base ≤ g := fun g hg => (h.o.lt g hg).1
  have ga := World.grownBy_alloc w o v.ownBlock
  have gg := ga.trans g
  have hbl : b < w.heap.size := (Array.getElem?_eq_some_iff.1 h.bf).1
  refine ⟨by rw [List.length_append]; exact ho, h.bf.grown gg (fun e => h.nb e.symm), ?_, Nat.le_trans h.sz gg.size, ?_⟩
  · exact ⟨gg.os.trans h.bel.os, gg.tape.trans h.bel.tape, gg.output.trans h.bel.output, Nat.le_trans h.bel.size gg.size, fun k hk => (gg.block k (Nat.lt_of_lt_of_le hk h.sz) (fun e => by have := hge k e.symm; omega)).trans (h.bel.block k hk)⟩
  · rw [own_ablk]
    rcases ha with e1 | e1
    · rw [e1]; exact h.nb
    · rw [e1]
      intro e2
      injection e2 with e2
      have hs : (w.alloc o).heap.size = w.heap.size + 1 := by simp
      omega
set_option maxHeartbeats 2000000 in
set_option maxRecDepth 100000 in
theorem fmt_350 (base b c : Nat) (e : TypeId) (A : Option Addr) (w : World) (hI : FI w w base b e b350 [] (.slice A 0 c)) : Calls Tryz.prog 97 #[.slice A 0 c, .bool false, .slice (some ⟨b, 0, none⟩) 24 24, .int .i64 1, .int .i64 2, .int .i64 2, .int .u8 102, .bool false] w fun e' w' => ∃ A' c', e' = .returned (.slice A' 4 c') ∧ FI w w' base b e b350 [51, 46, 53, 48] (.slice A' 4 c') := by
  have x0 := hI.bf.cell (j := 0) (v := 51) rfl
  have x1 := hI.bf.cell (j := 1) (v := 53) rfl
  have I0 := Lib.hid hI
  replace hI := Lib.hid hI
  go_enter Tryz.func97, Tryz.ntmps97
  go_wp2_with fail
  refine wp_loop_in (loopWp_round ?_)
  go_wp2_with (at_builtin; refine ap90 rfl (.tmp 195) (.tmp 197) rfl base (.slice A 0 c) 0 [] rfl (own_keep I0.out.o (World.grownBy_alloc w (.cells #[.int .u8 51] 5) none)) (some ⟨w.heap.size, 0, none⟩) 51 rfl (Rd.newL w [.int .u8 51] 5) (by omega) (by have := I0.out.sz; simp; omega) ?_; intro A1 c1 w1 o1 g1 n1; have I1 := Lib.hid (I0.out.app _ o1 g1 n1); have x0 := I1.out.bf.cell (j := 0) (v := 51) rfl; have x1 := I1.out.bf.cell (j := 1) (v := 53) rfl; clear o1 g1 n1)
  refine loopWp_round ?_
  go_wp2_with fail
  refine wp_loop_in (loopWp_round ?_)
  go_wp2_with (at_builtin; refine ap90 rfl (.tmp 214) (.tmp 215) rfl base (.slice A1 1 c1) 1 [51] rfl (own_keep I1.out.o (World.grownBy_alloc w1 (.cells #[.int .u8 46] 5) none)) (some ⟨w1.heap.size, 0, none⟩) 46 rfl (Rd.newL w1 [.int .u8 46] 5) (by omega) (by have := I1.out.sz; simp; omega) ?_; intro A2 c2 w2 o2 g2 n2; have I2 := Lib.hid (I1.out.app _ o2 g2 n2); have x0 := I2.out.bf.cell (j := 0) (v := 51) rfl; have x1 := I2.out.bf.cell (j := 1) (v := 53) rfl; clear o2 g2 n2)
  refine wp_loop_in (loopWp_round ?_)
  go_wp2_with fail
  refine wp_loop_in (loopWp_round ?_)
  go_wp2_with (at_builtin; refine ap90 rfl (.tmp 250) (.tmp 257) rfl base (.slice A2 2 c2) 2 [51, 46] rfl (own_keep I2.out.o (World.grownBy_alloc w2 (.cells #[.int .u8 53] 5) none)) (some ⟨w2.heap.size, 0, none⟩) 53 rfl (Rd.newL w2 [.int .u8 53] 5) (by omega) (by have := I2.out.sz; simp; omega) ?_; intro A3 c3 w3 o3 g3 n3; have I3 := Lib.hid (I2.out.app _ o3 g3 n3); have x0 := I3.out.bf.cell (j := 0) (v := 51) rfl; have x1 := I3.out.bf.cell (j := 1) (v := 53) rfl; clear o3 g3 n3)
  refine loopWp_round ?_
  go_wp2_with fail
  refine wp_loop_in (loopWp_round ?_)
  go_wp2_with (at_builtin; refine ap90 rfl (.tmp 263) (.tmp 264) rfl base (.slice A3 3 c3) 3 [51, 46, 53] rfl (own_keep I3.out.o (World.grownBy_alloc w3 (.cells #[.int .u8 48] 5) none)) (some ⟨w3.heap.size, 0, none⟩) 48 rfl (Rd.newL w3 [.int .u8 48] 5) (by omega) (by have := I3.out.sz; simp; omega) ?_; intro A4 c4 w4 o4 g4 n4; have I4 := Lib.hid (I3.out.app _ o4 g4 n4); have x0 := I4.out.bf.cell (j := 0) (v := 51) rfl; have x1 := I4.out.bf.cell (j := 1) (v := 53) rfl; clear o4 g4 n4)
  refine loopWp_round ?_
  go_wp2_with fail
  go_ret
  exact ⟨_, _, rfl, I4.out⟩
set_option maxHeartbeats 2000000 in
set_option maxRecDepth 100000 in
theorem fmt_12 (base b c : Nat) (e : TypeId) (A : Option Addr) (w : World) (hI : FI w w base b e b12 [] (.slice A 0 c)) : Calls Tryz.prog 97 #[.slice A 0 c, .bool false, .slice (some ⟨b, 0, none⟩) 24 24, .int .i64 0, .int .i64 2, .int .i64 2, .int .u8 102, .bool false] w fun e' w' => ∃ A' c', e' = .returned (.slice A' 4 c') ∧ FI w w' base b e b12 [48, 46, 49, 50] (.slice A' 4 c') := by
  have x0 := hI.bf.cell (j := 0) (v := 49) rfl
  have x1 := hI.bf.cell (j := 1) (v := 50) rfl
  have I0 := Lib.hid hI
  replace hI := Lib.hid hI
  go_enter Tryz.func97, Tryz.ntmps97
  go_wp2_with (first | (at_builtin; refine ap90 rfl (.tmp 209) (.tmp 210) rfl base (.slice A 0 c) 0 [] rfl (own_keep I0.out.o (World.grownBy_alloc w (.cells #[.int .u8 48] 5) none)) (some ⟨w.heap.size, 0, none⟩) 48 rfl (Rd.newL w [.int .u8 48] 5) (by omega) (by have := I0.out.sz; simp; omega) ?_; intro A1 c1 w1 o1 g1 n1; have I1 := Lib.hid (I0.out.app _ o1 g1 n1); have x0 := I1.out.bf.cell (j := 0) (v := 49) rfl; have x1 := I1.out.bf.cell (j := 1) (v := 50) rfl; clear o1 g1 n1) | (at_builtin; refine ap90 rfl (.tmp 214) (.tmp 215) rfl base (.slice A1 1 c1) 1 [48] rfl (own_keep I1.out.o (World.grownBy_alloc w1 (.cells #[.int .u8 46] 5) none)) (some ⟨w1.heap.size, 0, none⟩) 46 rfl (Rd.newL w1 [.int .u8 46] 5) (by omega) (by have := I1.out.sz; simp; omega) ?_; intro A2 c2 w2 o2 g2 n2; have I2 := Lib.hid (I1.out.app _ o2 g2 n2); have x0 := I2.out.bf.cell (j := 0) (v := 49) rfl; have x1 := I2.out.bf.cell (j := 1) (v := 50) rfl; clear o2 g2 n2))
  refine wp_loop_in (loopWp_round ?_)
  go_wp2_with fail
  refine wp_loop_in (loopWp_round ?_)
  go_wp2_with (at_builtin; refine ap90 rfl (.tmp 250) (.tmp 257) rfl base (.slice A2 2 c2) 2 [48, 46] rfl (own_keep I2.out.o (World.grownBy_alloc w2 (.cells #[.int .u8 49] 5) none)) (some ⟨w2.heap.size, 0, none⟩) 49 rfl (Rd.newL w2 [.int .u8 49] 5) (by omega) (by have := I2.out.sz; simp; omega) ?_; intro A3 c3 w3 o3 g3 n3; have I3 := Lib.hid (I2.out.app _ o3 g3 n3); have x0 := I3.out.bf.cell (j := 0) (v := 49) rfl; have x1 := I3.out.bf.cell (j := 1) (v := 50) rfl; clear o3 g3 n3)
  refine loopWp_round ?_
  go_wp2_with (at_builtin; refine ap90 rfl (.tmp 250) (.tmp 257) rfl base (.slice A3 3 c3) 3 [48, 46, 49] rfl (own_keep I3.out.o (World.grownBy_alloc w3 (.cells #[.int .u8 50] 5) none)) (some ⟨w3.heap.size, 0, none⟩) 50 rfl (Rd.newL w3 [.int .u8 50] 5) (by omega) (by have := I3.out.sz; simp; omega) ?_; intro A4 c4 w4 o4 g4 n4; have I4 := Lib.hid (I3.out.app _ o4 g4 n4); have x0 := I4.out.bf.cell (j := 0) (v := 49) rfl; have x1 := I4.out.bf.cell (j := 1) (v := 50) rfl; clear o4 g4 n4)
  refine loopWp_round ?_
  go_wp2_with fail
  refine wp_loop_in (loopWp_round ?_)
  go_wp2_with fail
  go_ret
  exact ⟨_, _, rfl, I4.out⟩
end Go.Proofs.YtmoofecphpknfaaGreatDoor
