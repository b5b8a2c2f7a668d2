/- Format: modifiers: one of any kind; two. -/
import Derived.Test.YtfhdfhlabkeipaaGreatDoorM3
namespace Go.Proofs.YtfhdfhlabkeipaaGreatDoor
open Go.RowKit
set_option linter.unusedSimpArgs false
set_option linter.unusedVariables false

section
variable {ops : Array Oper} {rest : List Oper} {o : Oper} {a : Act} {Q : Exit → Act → World → Prop} {w : World}
/-- append of one modifier, of any kind. -/
theorem ap105g {K : Act → World → Prop} {E : Prop} (hgd : o.guard = none) (s x : Operand) (ho : o.op = .call { callee := .builtin .append, args := #[s, x], argTypes := #[105, 105] })
    (base : Nat) (v : Value) (n : Nat) (xs : List Value) (hs : a.eval s = v) (hown : w.ownsRow base 109 5 v n xs) (g : Nat) (x0 x1 x2 x3 x4 : Value) (h1c : ∀ q ∈ [x0, x1, x2, x3, x4], q.oneCell' = true) (hx : a.eval x = .slice (some ⟨g, 0, none⟩) 1 1) (hg : w.heap[g]? = some (.cells #[x0, x1, x2, x3, x4] 109 (0, 0)))
    (hb : n ≤ 1000000) (hbase : base ≤ w.heap.size)
    (h : ∀ A' c' w', w'.ownsRow base 109 5 (.slice A' (n + 1) c') (n + 1) (xs ++ [x0, x1, x2, x3, x4]) → w.grownBy w' v.ownBlock → K (a.put o.dst (.slice A' (n + 1) c')) w') : if Region.wanted o (yielded ops a.tmps) = true then Oper.wp Tryz.prog o a w K Q else E := by
  have hw : Region.wanted o (yielded ops a.tmps) = true := by simp [Region.wanted, hgd]
  rw [if_pos hw]
  obtain ⟨i0, hi0, hz0, hz1, hz2⟩ := info_parts info109b
  exact wp_append_rd w s x 105 ho base 109 i0 _ 5 56 Tryz.underlying105 hi0 hz0 hz1 hz2 rfl (by omega) v n xs hs hown (some ⟨g, 0, none⟩) 1 1 [x0, x1, x2, x3, x4] hx rfl (rd_block hg) h1c (by unfold maxLen; omega) (by omega) hbase fun A' c' w' h1 h2 _ => h A' c' w' h1 h2
end

theorem cell_on2 {w w' : World} {o : Obj} {v : Value} {p : Addr} {row : Option Nat} (q : (w.drew.alloc o).grownBy w' row) (h : w.cell? p = some v) (hne : some p.block ≠ row) : w'.cell? p = some v := q.cell ((g_alloc (g_drew (World.grownBy.refl w none)) o).cell h (by simp)) hne
def modL5 (c : UInt8) (n : Int) (a b : ByteArray) : List Value := [.int .u8 (c.toNat : Int), .int .i64 n, .bool false, .string a, .string b]
theorem modL5_one (c : UInt8) (n : Int) (a b : ByteArray) : ∀ q ∈ modL5 c n a b, q.oneCell' = true := by
  intro q hq
  simp [modL5] at hq
  rcases hq with rfl | rfl | rfl | rfl | rfl <;> rfl
set_option maxRecDepth 100000 in
set_option maxHeartbeats 2000000 in
theorem modifiers_gen (T : B) (c : UInt8) (z : Int) (a b : ByteArray) (r : B) (w : World) (hr : r.length ≤ 90000)
    (CF : ∀ W, w.grownBy W none → Calls Tryz.prog 91 #[.string (st T)] W fun e w' => e = .returned (.tuple #[.agg #[.int .u8 (c.toNat : Int), .int .i64 z, .bool false, .string a, .string b], .string (st (58 :: r)), .bool true]) ∧ W.grownBy w' none) :
    Calls Tryz.prog 75 #[.string (st T)] w (MdP (modL5 c z a b) 1 r w) := by
  obtain ⟨S, hS⟩ : ∃ S, S = st T := ⟨_, rfl⟩
  obtain ⟨S1, hS1⟩ : ∃ S, S = st (58 :: r) := ⟨_, rfl⟩
  obtain ⟨S2, hS2⟩ : ∃ S, S = st r := ⟨_, rfl⟩
  obtain ⟨len, hlen⟩ : ∃ len, len = r.length + 1 := ⟨_, rfl⟩
  have hZ : S1.size = len := by rw [hS1, st_size, hlen]; rfl
  have hg := get_at (P := 58 :: r) (j := 0) (c := 58) rfl hS1
  have hne : S1.toList.isEmpty = false := by rw [hS1, empty_iff]; simp
  have hx : S1.extract 1 len = S2 := by rw [hS1, st_drop _ _ _ (by rw [hlen]; rfl), hS2]; rfl
  have hl1 : (1 : Int) ≤ (len : Int) := by omega
  have hl0 : (0 : Int) < (len : Int) := by omega
  rw [← hS, ← hS1] at CF
  rw [← hS]
  have CM1 := Lib.hid must_ok
  replace CF := Lib.hid CF; replace hS := Lib.hid hS; replace hS1 := Lib.hid hS1; replace hS2 := Lib.hid hS2; replace hlen := Lib.hid hlen
  go_enter Tryz.func75, Tryz.ntmps75
  go_wp2_with fail
  refine wp_loop_in (loopWp_round ?_)
  go_wp2_with fail
  refine (CF.out _ (World.grownBy.refl _ _)).mono ?_
  rintro e w1 ⟨rfl, G1⟩
  replace G1 := Lib.hid G1
  go_wp2_with fail
  refine (CM1.out 4 _).mono ?_
  rintro e w2 ⟨rfl, rfl⟩
  go_upto_region 4 with fail
  obtain ⟨W5, hW5⟩ : ∃ W5, W5 = w1.alloc (.cells #[.int .u8 (c.toNat : Int), .int .i64 z, .bool false, .string a, .string b] 109) := ⟨_, rfl⟩
  obtain ⟨b5, hb5⟩ : ∃ b5, b5 = w1.heap.size := ⟨_, rfl⟩
  rw [← hW5, ← hb5]
  have hh : W5.heap[b5]? = some (.cells #[.int .u8 (c.toNat : Int), .int .i64 z, .bool false, .string a, .string b] 109 (0, 0)) := by rw [hW5, hb5]; exact heap_alloc_new _ _
  have d0 : W5.cell? ⟨b5, 0, none⟩ = some (.int .u8 (c.toNat : Int)) := by rw [cell_of_heap hh]; rfl
  have d1 : W5.cell? ⟨b5, 1, none⟩ = some (.int .i64 z) := by rw [cell_of_heap hh]; rfl
  have d2 : W5.cell? ⟨b5, 2, none⟩ = some (.bool false) := by rw [cell_of_heap hh]; rfl
  have d3 : W5.cell? ⟨b5, 3, none⟩ = some (.string a) := by rw [cell_of_heap hh]; rfl
  have d4 : W5.cell? ⟨b5, 4, none⟩ = some (.string b) := by rw [cell_of_heap hh]; rfl
  have hG5 : w.grownBy W5 none := by rw [hW5]; exact g_alloc G1.out _
  replace hW5 := Lib.hid hW5; replace hb5 := Lib.hid hb5; replace hh := Lib.hid hh; replace hG5 := Lib.hid hG5
  go_region_held3 (fun w' => w'.cell? ⟨b5, 0, none⟩ = some (.int .u8 (c.toNat : Int)) ∧ w'.cell? ⟨b5, 1, none⟩ = some (.int .i64 z) ∧ w'.cell? ⟨b5, 2, none⟩ = some (.bool false) ∧ w'.cell? ⟨b5, 3, none⟩ = some (.string a) ∧ w'.cell? ⟨b5, 4, none⟩ = some (.string b)) (first | go_keep | (exact ⟨(cell_on q2 d0), (cell_on q2 d1), (cell_on q2 d2), (cell_on q2 d3), (cell_on q2 d4)⟩))
    ((refine ap105g (by rfl) _ _ (by rfl) w.heap.size (.slice none 0 0) 0 [] (by rfl) (World.ownsRow_nil _ _ _ _) W5.heap.size (.int .u8 (c.toNat : Int)) (.int .i64 z) (.bool false) (.string a) (.string b) (modL5_one c z a b) (by rfl) (heap_alloc_new _ _) (by omega) (by exact Nat.le_trans hG5.out.size (g_alloc (g_drew (World.grownBy.refl W5 none)) _).size) ?_; intro A' c' w' q1 q2))
  all_goals
    have hG6 : w.grownBy w' none := g_own (a' := W5) (n := 0) (xs := []) (g_alloc (g_drew hG5.out) _) (World.ownsRow_nil W5 w.heap.size 109 5) (Nat.le_refl _) q2
    replace hG6 := Lib.hid hG6; replace q1 := Lib.hid q1; replace q2 := Lib.hid q2
    go_wp2_with fail
    go_ret2
    exact ⟨A', c', by rw [hS2.out]; rfl, q1.out, hG6.out⟩

set_option maxRecDepth 100000 in
set_option maxHeartbeats 4000000 in
theorem modifiers_two (T T2 : B) (c1 c2 : UInt8) (z1 z2 : Int) (a1 b1 a2 b2 : ByteArray) (r : B) (w : World) (hr : r.length ≤ 90000) (hT2 : T2.length ≤ 90000)
    (CF : ∀ W, w.grownBy W none → Calls Tryz.prog 91 #[.string (st T)] W fun e w' => e = .returned (.tuple #[.agg #[.int .u8 (c1.toNat : Int), .int .i64 z1, .bool false, .string a1, .string b1], .string (st (59 :: T2)), .bool true]) ∧ W.grownBy w' none)
    (CF2 : ∀ W, w.grownBy W none → Calls Tryz.prog 91 #[.string (st T2)] W fun e w' => e = .returned (.tuple #[.agg #[.int .u8 (c2.toNat : Int), .int .i64 z2, .bool false, .string a2, .string b2], .string (st (58 :: r)), .bool true]) ∧ W.grownBy w' none) :
    Calls Tryz.prog 75 #[.string (st T)] w (MdP (modL5 c1 z1 a1 b1 ++ modL5 c2 z2 a2 b2) 2 r w) := by
  obtain ⟨S, hS⟩ : ∃ S, S = st T := ⟨_, rfl⟩
  obtain ⟨S1, hS1⟩ : ∃ S, S = st (58 :: r) := ⟨_, rfl⟩
  obtain ⟨S2, hS2⟩ : ∃ S, S = st r := ⟨_, rfl⟩
  obtain ⟨S3, hS3⟩ : ∃ S, S = st (59 :: T2) := ⟨_, rfl⟩
  obtain ⟨S4, hS4⟩ : ∃ S, S = st T2 := ⟨_, rfl⟩
  obtain ⟨len, hlen⟩ : ∃ len, len = r.length + 1 := ⟨_, rfl⟩
  obtain ⟨len2, hlen2⟩ : ∃ len, len = T2.length + 1 := ⟨_, rfl⟩
  have hZ : S1.size = len := by rw [hS1, st_size, hlen]; rfl
  have hg := get_at (P := 58 :: r) (j := 0) (c := 58) rfl hS1
  have hne : S1.toList.isEmpty = false := by rw [hS1, empty_iff]; simp
  have hx : S1.extract 1 len = S2 := by rw [hS1, st_drop _ _ _ (by rw [hlen]; rfl), hS2]; rfl
  have hl1 : (1 : Int) ≤ (len : Int) := by omega
  have hl0 : (0 : Int) < (len : Int) := by omega
  have hZ3 : S3.size = len2 := by rw [hS3, st_size, hlen2]; rfl
  have hg3 := get_at (P := 59 :: T2) (j := 0) (c := 59) rfl hS3
  have hne3 : S3.toList.isEmpty = false := by rw [hS3, empty_iff]; simp
  have hx3 : S3.extract 1 len2 = S4 := by rw [hS3, st_drop _ _ _ (by rw [hlen2]; rfl), hS4]; rfl
  have hl13 : (1 : Int) ≤ (len2 : Int) := by omega
  have hl03 : (0 : Int) < (len2 : Int) := by omega
  rw [← hS, ← hS3] at CF
  rw [← hS4, ← hS1] at CF2
  rw [← hS]
  have CM1 := Lib.hid must_ok
  replace CF := Lib.hid CF; replace CF2 := Lib.hid CF2; replace hS := Lib.hid hS; replace hS1 := Lib.hid hS1; replace hS2 := Lib.hid hS2; replace hS3 := Lib.hid hS3; replace hS4 := Lib.hid hS4; replace hlen := Lib.hid hlen; replace hlen2 := Lib.hid hlen2
  go_enter Tryz.func75, Tryz.ntmps75
  go_wp2_with fail
  refine wp_loop_in (loopWp_round ?_)
  go_wp2_with fail
  refine (CF.out _ (World.grownBy.refl _ _)).mono ?_
  rintro e w1 ⟨rfl, G1⟩
  replace G1 := Lib.hid G1
  go_wp2_with fail
  refine (CM1.out 4 _).mono ?_
  rintro e w2 ⟨rfl, rfl⟩
  go_upto_region 4 with fail
  obtain ⟨W5, hW5⟩ : ∃ W5, W5 = w1.alloc (.cells #[.int .u8 (c1.toNat : Int), .int .i64 z1, .bool false, .string a1, .string b1] 109) := ⟨_, rfl⟩
  obtain ⟨b5, hb5⟩ : ∃ b5, b5 = w1.heap.size := ⟨_, rfl⟩
  rw [← hW5, ← hb5]
  have hh : W5.heap[b5]? = some (.cells #[.int .u8 (c1.toNat : Int), .int .i64 z1, .bool false, .string a1, .string b1] 109 (0, 0)) := by rw [hW5, hb5]; exact heap_alloc_new _ _
  have d0 : W5.cell? ⟨b5, 0, none⟩ = some (.int .u8 (c1.toNat : Int)) := by rw [cell_of_heap hh]; rfl
  have d1 : W5.cell? ⟨b5, 1, none⟩ = some (.int .i64 z1) := by rw [cell_of_heap hh]; rfl
  have d2 : W5.cell? ⟨b5, 2, none⟩ = some (.bool false) := by rw [cell_of_heap hh]; rfl
  have d3 : W5.cell? ⟨b5, 3, none⟩ = some (.string a1) := by rw [cell_of_heap hh]; rfl
  have d4 : W5.cell? ⟨b5, 4, none⟩ = some (.string b1) := by rw [cell_of_heap hh]; rfl
  have hG5 : w.grownBy W5 none := by rw [hW5]; exact g_alloc G1.out _
  replace hW5 := Lib.hid hW5; replace hb5 := Lib.hid hb5; replace hh := Lib.hid hh; replace hG5 := Lib.hid hG5
  go_region_held3 (fun w' => w'.cell? ⟨b5, 0, none⟩ = some (.int .u8 (c1.toNat : Int)) ∧ w'.cell? ⟨b5, 1, none⟩ = some (.int .i64 z1) ∧ w'.cell? ⟨b5, 2, none⟩ = some (.bool false) ∧ w'.cell? ⟨b5, 3, none⟩ = some (.string a1) ∧ w'.cell? ⟨b5, 4, none⟩ = some (.string b1)) (first | go_keep | (exact ⟨(cell_on q2 d0), (cell_on q2 d1), (cell_on q2 d2), (cell_on q2 d3), (cell_on q2 d4)⟩))
    ((refine ap105g (by rfl) _ _ (by rfl) w.heap.size (.slice none 0 0) 0 [] (by rfl) (World.ownsRow_nil _ _ _ _) W5.heap.size (.int .u8 (c1.toNat : Int)) (.int .i64 z1) (.bool false) (.string a1) (.string b1) (modL5_one c1 z1 a1 b1) (by rfl) (heap_alloc_new _ _) (by omega) (by exact Nat.le_trans hG5.out.size (g_alloc (g_drew (World.grownBy.refl W5 none)) _).size) ?_; intro A' c' w' q1 q2))
  all_goals
    have hG6 : w.grownBy w' none := g_own (a' := W5) (n := 0) (xs := []) (g_alloc (g_drew hG5.out) _) (World.ownsRow_nil W5 w.heap.size 109 5) (Nat.le_refl _) q2
    replace hG6 := Lib.hid hG6; replace q1 := Lib.hid q1; replace q2 := Lib.hid q2
    go_wp2_with fail
    refine loopWp_round ?_
    go_wp2_with fail
    refine (CF2.out _ hG6.out).mono ?_
    rintro e w3 ⟨rfl, G3⟩
    have q3 := own_keep q1.out G3
    have hG7 := hG6.out.trans G3
    replace G3 := Lib.hid G3; replace q3 := Lib.hid q3; replace hG7 := Lib.hid hG7
    go_wp2_with fail
    refine (CM1.out 4 _).mono ?_
    rintro e w4 ⟨rfl, rfl⟩
    go_upto_region 4 with fail
    obtain ⟨gA, rfl⟩ := own_some q3.out (by omega)
    have hgA := (own_lt q3.out rfl).2
    obtain ⟨W6, hW6⟩ : ∃ W, W = w3.alloc (.cells #[.int .u8 (c2.toNat : Int), .int .i64 z2, .bool false, .string a2, .string b2] 109) := ⟨_, rfl⟩
    obtain ⟨b6, hb6⟩ : ∃ b, b = w3.heap.size := ⟨_, rfl⟩
    rw [← hW6, ← hb6]
    have hh6 : W6.heap[b6]? = some (.cells #[.int .u8 (c2.toNat : Int), .int .i64 z2, .bool false, .string a2, .string b2] 109 (0, 0)) := by rw [hW6, hb6]; exact heap_alloc_new _ _
    have e0 : W6.cell? ⟨b6, 0, none⟩ = some (.int .u8 (c2.toNat : Int)) := by rw [cell_of_heap hh6]; rfl
    have e1 : W6.cell? ⟨b6, 1, none⟩ = some (.int .i64 z2) := by rw [cell_of_heap hh6]; rfl
    have e2 : W6.cell? ⟨b6, 2, none⟩ = some (.bool false) := by rw [cell_of_heap hh6]; rfl
    have e3 : W6.cell? ⟨b6, 3, none⟩ = some (.string a2) := by rw [cell_of_heap hh6]; rfl
    have e4 : W6.cell? ⟨b6, 4, none⟩ = some (.string b2) := by rw [cell_of_heap hh6]; rfl
    have hG8 : w.grownBy W6 none := by rw [hW6]; exact g_alloc hG7.out _
    have hO6 : W6.ownsRow w.heap.size 109 5 (.slice (some ⟨gA, 0, none⟩) 1 c') 1 (modL5 c1 z1 a1 b1) := by rw [hW6]; exact own_keep q3.out (World.grownBy_alloc _ _ none)
    have hne6 : ∀ j : Nat, some (Addr.block ⟨b6, j, none⟩) ≠ (Value.slice (some ⟨gA, 0, none⟩) 1 c').ownBlock := fun j h => by
      have h2 : b6 = gA := by injection h
      rw [hb6] at h2
      exact absurd h2 (Nat.ne_of_gt hgA)
    replace hgA := Lib.hid hgA; replace hW6 := Lib.hid hW6; replace hb6 := Lib.hid hb6; replace hh6 := Lib.hid hh6; replace hG8 := Lib.hid hG8; replace hO6 := Lib.hid hO6; replace hne6 := Lib.hid hne6
    clear d0 d1 d2 d3 d4
    go_region_held3 (fun w' => w'.cell? ⟨b6, 0, none⟩ = some (.int .u8 (c2.toNat : Int)) ∧ w'.cell? ⟨b6, 1, none⟩ = some (.int .i64 z2) ∧ w'.cell? ⟨b6, 2, none⟩ = some (.bool false) ∧ w'.cell? ⟨b6, 3, none⟩ = some (.string a2) ∧ w'.cell? ⟨b6, 4, none⟩ = some (.string b2)) (first | (exact ⟨(cell_on2 p2 e0 (hne6.out 0)), (cell_on2 p2 e1 (hne6.out 1)), (cell_on2 p2 e2 (hne6.out 2)), (cell_on2 p2 e3 (hne6.out 3)), (cell_on2 p2 e4 (hne6.out 4))⟩) | go_keep)
      ((refine ap105g (by rfl) _ _ (by rfl) w.heap.size (.slice (some ⟨gA, 0, none⟩) 1 c') 1 (modL5 c1 z1 a1 b1) (by rfl) (own_keep hO6.out (g_alloc (g_drew (World.grownBy.refl _ _)) _)) W6.heap.size (.int .u8 (c2.toNat : Int)) (.int .i64 z2) (.bool false) (.string a2) (.string b2) (modL5_one c2 z2 a2 b2) (by rfl) (heap_alloc_new _ _) (by omega) (by exact Nat.le_trans hG8.out.size (g_alloc (g_drew (World.grownBy.refl W6 none)) _).size) ?_; intro A2 cc2 w5 p1 p2))
    all_goals
      have hG9 : w.grownBy w5 none := g_own (a' := W6) (g_alloc (g_drew hG8.out) _) hO6.out (Nat.le_refl _) p2
      replace hG9 := Lib.hid hG9; replace p1 := Lib.hid p1; replace p2 := Lib.hid p2
      go_wp2_with fail
      go_ret2
      exact ⟨A2, cc2, by rw [hS2.out]; rfl, p1.out, hG9.out⟩
end Go.Proofs.YtfhdfhlabkeipaaGreatDoor
