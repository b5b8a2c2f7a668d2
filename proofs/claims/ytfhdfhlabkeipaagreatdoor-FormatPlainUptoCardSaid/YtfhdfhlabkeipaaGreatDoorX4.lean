/- Format: the reference's one: does the part at i mean a byte? And begins: where the parts begin. -/
import Derived.Test.YtfhdfhlabkeipaaGreatDoorX3
import Derived.Test.YtfhdfhlabkeipaaGreatDoorC7
namespace Go.Proofs.YtfhdfhlabkeipaaGreatDoor
open Go.RowKit
set_option linter.unusedSimpArgs false
set_option linter.unusedVariables false

set_option maxHeartbeats 1000000 in
set_option maxRecDepth 100000 in
theorem oneR_any (P : B) (i : Nat) (c : UInt8) (w : World) (hP : P.length ≤ 20000) (hi : i < P.length) :
    Calls Tryz.prog 24 #[.string (st P), .int .i64 i, .int .u8 (c.toNat : Int)] w fun e w' => e = .returned (.bool (partL (P.drop i) c).1) ∧ w.grownBy w' none := by
  have CC := classR_any P i c w hP hi
  obtain ⟨S, hS⟩ : ∃ S, S = st P := ⟨_, rfl⟩
  obtain ⟨len, hlen⟩ : ∃ len, len = P.length := ⟨_, rfl⟩
  have hZ : S.size = len := by rw [hS, st_size, hlen]
  obtain ⟨a, ha⟩ : ∃ a, P[i]? = some a := ⟨P[i], List.getElem?_eq_getElem _⟩
  have hda := drop_at ha
  have hg := get_at ha hS
  rw [← hS] at CC
  rw [← hlen] at hP hi
  rw [← hS]
  have hil : (i : Int) < (len : Int) := by omega
  have hw1 : IntKind.i64.wrap ((i : Int) + 1) = ((i + 1 : Nat) : Int) := by rw [IntKind.wrap_i64]; omega
  replace hS := Lib.hid hS; replace CC := Lib.hid CC
  by_cases h63 : a = 63
  · have e63 : (a.toNat : Int) = 63 := u8_eq (n := 63) (by omega) h63
    have hr : (partL (P.drop i) c).1 = true := by rw [hda]; unfold partL; dsimp only; rw [if_pos h63]
    rw [hr]
    replace hr := Lib.hid hr; replace h63 := Lib.hid h63; replace hda := Lib.hid hda; replace ha := Lib.hid ha; replace hlen := Lib.hid hlen
    go_enter Tryz.func24, Tryz.ntmps24
    go_wp2_with fail
    go_ret
    exact ⟨rfl, World.grownBy.refl _ _⟩
  · have e63 : ¬ ((a.toNat : Int) = 63) := u8_ne (n := 63) (by omega) h63
    by_cases h91 : a = 91
    · have e91 : (a.toNat : Int) = 91 := u8_eq (n := 91) (by omega) h91
      cases hcl : classL (P.drop (i + 1)) c with
      | some x =>
        have hxl := classL_len hcl
        rw [List.length_drop, ← hlen] at hxl
        obtain ⟨ke, hke⟩ : ∃ ke, ke = P.length - x.2.length := ⟨_, rfl⟩
        have hke1 : 1 ≤ ke := by rw [hke, ← hlen]; omega
        have hr : (partL (P.drop i) c).1 = x.1 := by rw [hda]; unfold partL; dsimp only; rw [if_neg h63, if_pos h91, hcl]
        rw [hr]
        have CC2 := CC.out
        rw [hcl] at CC2
        unfold classV at CC2
        dsimp only at CC2
        rw [← hke] at CC2
        replace CC2 := Lib.hid CC2
        replace hr := Lib.hid hr; replace hda := Lib.hid hda; replace ha := Lib.hid ha; replace hlen := Lib.hid hlen; replace hcl := Lib.hid hcl; replace hke := Lib.hid hke; replace hxl := Lib.hid hxl; replace h63 := Lib.hid h63; replace h91 := Lib.hid h91
        go_enter Tryz.func24, Tryz.ntmps24
        go_wp2_with fail
        refine CC2.out.mono ?_
        rintro e w1 ⟨rfl, G1⟩
        replace G1 := Lib.hid G1
        go_wp2_with fail
        go_ret
        exact ⟨rfl, G1.out⟩
      | none =>
        have hr : (partL (P.drop i) c).1 = ((91 : Int) == (c.toNat : Int)) := by rw [hda]; unfold partL; dsimp only; rw [if_neg h63, if_pos h91, hcl, u8_beqn e91]
        rw [hr]
        have CC2 := CC.out
        rw [hcl] at CC2
        unfold classV at CC2
        dsimp only at CC2
        replace CC2 := Lib.hid CC2
        replace hr := Lib.hid hr; replace hda := Lib.hid hda; replace ha := Lib.hid ha; replace hlen := Lib.hid hlen; replace hcl := Lib.hid hcl; replace h63 := Lib.hid h63; replace h91 := Lib.hid h91
        go_enter Tryz.func24, Tryz.ntmps24
        go_wp2_with fail
        refine CC2.out.mono ?_
        rintro e w1 ⟨rfl, G1⟩
        replace G1 := Lib.hid G1
        go_wp2_with fail
        go_ret
        exact ⟨by first | rfl | (rw [u8_beq]; rfl), G1.out⟩
    · have e91 : ¬ ((a.toNat : Int) = 91) := u8_ne (n := 91) (by omega) h91
      by_cases h92 : a = 92
      · have e92 : (a.toNat : Int) = 92 := u8_eq (n := 92) (by omega) h92
        by_cases hl1 : i + 1 < len
        · obtain ⟨b, hb⟩ : ∃ b, P[i + 1]? = some b := ⟨P[i + 1]'(by rw [← hlen]; exact hl1), List.getElem?_eq_getElem _⟩
          have hgb := get_at hb hS.out
          have hl1i : (i : Int) + 1 < (len : Int) := by omega
          have hr : (partL (P.drop i) c).1 = (b == c) := by rw [hda]; unfold partL; dsimp only; rw [if_neg h63, if_neg h91, if_pos h92, drop_at hb]
          rw [hr]
          replace hb := Lib.hid hb; replace h91 := Lib.hid h91; replace h92 := Lib.hid h92; replace hr := Lib.hid hr; replace hda := Lib.hid hda; replace ha := Lib.hid ha; replace hlen := Lib.hid hlen; replace h63 := Lib.hid h63
          go_enter Tryz.func24, Tryz.ntmps24
          go_wp2_with fail
          go_ret
          exact ⟨by first | rfl | (rw [u8_beq]; rfl), World.grownBy.refl _ _⟩
        · have hl1i : ¬ ((i : Int) + 1 < (len : Int)) := by omega
          have hr : (partL (P.drop i) c).1 = ((92 : Int) == (c.toNat : Int)) := by rw [hda, List.drop_eq_nil_of_le (by rw [← hlen]; omega)]; unfold partL; dsimp only; rw [if_neg h63, if_neg h91, if_pos h92, u8_beqn e92]
          rw [hr]
          replace h91 := Lib.hid h91; replace h92 := Lib.hid h92; replace hr := Lib.hid hr; replace hda := Lib.hid hda; replace ha := Lib.hid ha; replace hlen := Lib.hid hlen; replace h63 := Lib.hid h63
          go_enter Tryz.func24, Tryz.ntmps24
          go_wp2_with fail
          go_ret
          exact ⟨by first | rfl | (rw [u8_beq]; rfl), World.grownBy.refl _ _⟩
      · have e92 : ¬ ((a.toNat : Int) = 92) := u8_ne (n := 92) (by omega) h92
        have hr : (partL (P.drop i) c).1 = (a == c) := by rw [hda]; unfold partL; dsimp only; rw [if_neg h63, if_neg h91, if_neg h92]
        rw [hr]
        replace h91 := Lib.hid h91; replace h92 := Lib.hid h92; replace hr := Lib.hid hr; replace hda := Lib.hid hda; replace ha := Lib.hid ha; replace hlen := Lib.hid hlen; replace h63 := Lib.hid h63
        go_enter Tryz.func24, Tryz.ntmps24
        go_wp2_with fail
        go_ret
        exact ⟨by first | rfl | (rw [u8_beq]; rfl), World.grownBy.refl _ _⟩
theorem info3 : (Tryz.prog.info? 3).map (fun i => (i.zero, i.size, i.bytes)) = some (some (.int .i64 0), 1, 8) := by kernel_rfl
section
variable {ops : Array Oper} {rest : List Oper} {o : Oper} {a : Act} {Q : Exit → Act → World → Prop} {w : World}
theorem ap48 (hgd : o.guard = none) (s x : Operand) (ho : o.op = .call { callee := .builtin .append, args := #[s, x], argTypes := #[48, 48] })
    (base : Nat) (v : Value) (n : Nat) (xs : List Value) (hs : a.eval s = v) (hown : w.ownsRow base 3 1 v n xs) (g : Nat) (u : Int) (hx : a.eval x = .slice (some ⟨g, 0, none⟩) 1 1) (hg : w.heap[g]? = some (.cells #[.int .i64 u] 3 (0, 0)))
    (hb : n ≤ 1000000) (hbase : base ≤ w.heap.size)
    (h : ∀ A' c' w', w'.ownsRow base 3 1 (.slice A' (n + 1) c') (n + 1) (xs ++ [.int .i64 u]) → w.grownBy w' v.ownBlock → wpList Tryz.prog ops Q rest (a.put o.dst (.slice A' (n + 1) c')) w') : wpList Tryz.prog ops Q (o :: rest) a w := by
  obtain ⟨i0, hi0, hz0, hz1, hz2⟩ := info_parts info3
  exact wpList_append_rd w hgd s x 48 ho base 3 i0 _ 1 8 Tryz.underlying48 hi0 hz0 hz1 hz2 rfl (by omega) v n xs hs hown (some ⟨g, 0, none⟩) 1 1 [.int .i64 u] hx rfl (rd_one hg) (by intro q hq; simp at hq; subst hq; rfl) (by unfold maxLen; omega) (by omega) hbase fun A' c' w' h1 h2 _ => h A' c' w' h1 h2
end
def ni (l : List Nat) : List Value := l.map fun (n : Nat) => .int .i64 (n : Int)

set_option maxHeartbeats 2000000 in
set_option maxRecDepth 100000 in
theorem begins_any (P : B) (w : World) (hP : P.length ≤ 20000) :
    Calls Tryz.prog 23 #[.string (st P)] w fun e w' => ∃ A c, e = .returned (.slice A (beg P 0).length c) ∧ w'.ownsRow w.heap.size 3 1 (.slice A (beg P 0).length c) (beg P 0).length (ni (beg P 0)) ∧ w.grownBy w' none := by
  obtain ⟨base, hbase⟩ : ∃ b, b = w.heap.size := ⟨_, rfl⟩
  rw [← hbase]
  have CC : Hid (∀ (i : Nat) (W : World), i < P.length → Calls Tryz.prog 35 #[.string (st P), .int .i64 i, .int .u8 0] W fun e w' => e = .returned (.tuple #[.int .i64 (classV P (classL (P.drop (i + 1)) 0)).1, .bool (classV P (classL (P.drop (i + 1)) 0)).2]) ∧ W.grownBy w' none) := Lib.hid fun i W h => classR_any P i 0 W hP h
  obtain ⟨S, hS⟩ : ∃ S, S = st P := ⟨_, rfl⟩
  obtain ⟨len, hlen⟩ : ∃ len, len = P.length := ⟨_, rfl⟩
  have hZ : S.size = len := by rw [hS, st_size, hlen]
  rw [← hS] at CC ⊢
  rw [← hlen] at hP CC
  have hu48 := Tryz.underlying48
  replace hbase := Lib.hid hbase; replace hS := Lib.hid hS; replace hlen := Lib.hid hlen
  go_enter Tryz.func23, Tryz.ntmps23
  go_wp2_with fail
  go_loopw [3, 4] (fun lv iv wr => ∃ (i : Nat) (ls : List Nat) (A : Option Addr) (c : Nat), lv = .slice A ls.length c ∧ iv = .int .i64 i ∧ i ≤ len ∧ ls.length ≤ i ∧ Hid (wr.ownsRow base 3 1 (.slice A ls.length c) ls.length (ni ls) ∧ w.grownBy wr none ∧ beg P 0 = ls ++ beg P i)) (fun _ iv _ => 20010 - (intOf iv).toNat)
  case atStart => exact ⟨0, [], none, 0, rfl, rfl, Nat.zero_le _, Nat.zero_le _, Lib.hid ⟨World.ownsRow_nil _ _ _ _, World.grownBy.refl _ _, rfl⟩⟩
  case round =>
    obtain ⟨i, ls, A, c, rfl, rfl, hil, hll, hI⟩ := hrel
    obtain ⟨hO, hG, hE⟩ := hI.out
    obtain ⟨n, hn⟩ : ∃ n, n = ls.length := ⟨_, rfl⟩
    rw [← hn] at hO hll ⊢
    have hbW : base ≤ wr.heap.size := by rw [hbase.out]; exact hG.size
    by_cases hlt : i < len
    · have hlti : (i : Int) < (len : Int) := by omega
      have hlP := hlen.out
      have hiP : i < P.length := by rw [← hlen.out]; exact hlt
      obtain ⟨a, ha⟩ : ∃ a, P[i]? = some a := ⟨P[i], List.getElem?_eq_getElem _⟩
      have hda := drop_at ha
      have hg := get_at ha hS.out
      have hnx := nxt_drop 0 hiP
      have hbc := beg_cons hiP
      obtain ⟨nx, hnxd⟩ : ∃ nx, nx = nxt P i := ⟨_, rfl⟩
      rw [← hnxd] at hnx hbc
      have hnx1 : i < nx := hnx.2.1
      have hnx2 : nx ≤ len := by rw [hlen.out]; exact hnx.2.2
      have hE2 : beg P 0 = (ls ++ [i]) ++ beg P nx := by rw [hE, hbc]; simp
      have hls : ni (ls ++ [i]) = ni ls ++ [.int .i64 (i : Int)] := by simp [ni]
      have hw1 : IntKind.i64.wrap ((i : Int) + 1) = ((i + 1 : Nat) : Int) := by rw [IntKind.wrap_i64]; omega
      have hw2 : IntKind.i64.wrap ((i : Int) + 2) = ((i + 2 : Nat) : Int) := by rw [IntKind.wrap_i64]; omega
      have fin : ∀ (A' : Option Addr) (c' : Nat) (w' w'' : World) (z : Int), z = (nx : Int) → w'.ownsRow base 3 1 (.slice A' (n + 1) c') (n + 1) (ni ls ++ [.int .i64 (i : Int)]) → w.grownBy w' none → w'.grownBy w'' none →
          ∃ (i : Nat) (ls : List Nat) (A : Option Addr) (c : Nat), Value.slice A' (n + 1) c' = .slice A ls.length c ∧ Value.int .i64 z = .int .i64 (i : Int) ∧ i ≤ len ∧ ls.length ≤ i ∧ Hid (w''.ownsRow base 3 1 (.slice A ls.length c) ls.length (ni ls) ∧ w.grownBy w'' none ∧ beg P 0 = ls ++ beg P i) := fun A' c' w' w'' z hz h1 h2 h3 => by
        have hl' : (ls ++ [i]).length = n + 1 := by rw [List.length_append, hn]; rfl
        refine ⟨nx, ls ++ [i], A', c', by rw [hl'], by rw [hz], hnx2, by rw [hl']; omega, Lib.hid ⟨?_, ?_, hE2⟩⟩
        · rw [hl', hls]; exact own_keep h1 h3
        · exact h2.trans h3
      obtain ⟨kv, hkv⟩ : ∃ kv, kv = (classV P (classL (P.drop (i + 1)) 0)).1 := ⟨_, rfl⟩
      have hcase : (a = 91 ∧ 0 < kv ∧ (kv : Int) = (nx : Int)) ∨ (a = 91 ∧ kv = 0 ∧ ((i + 1 : Nat) : Int) = (nx : Int)) ∨ (a = 92 ∧ i + 1 < len ∧ ((i + 2 : Nat) : Int) = (nx : Int)) ∨ (a = 92 ∧ ¬ i + 1 < len ∧ ((i + 1 : Nat) : Int) = (nx : Int)) ∨ (a ≠ 91 ∧ a ≠ 92 ∧ ((i + 1 : Nat) : Int) = (nx : Int)) := by
        have hnd : nx = P.length - (partL (P.drop i) 0).2.length := hnxd
        rw [hda] at hnd
        by_cases h91 : a = 91
        · cases hcl : classL (P.drop (i + 1)) 0 with
          | some x =>
            left
            have hxl := classL_len hcl
            rw [List.length_drop] at hxl
            have e : (partL (a :: P.drop (i + 1)) 0).2 = x.2 := by unfold partL; dsimp only; rw [if_neg (by rw [h91]; decide), if_pos h91, hcl]
            rw [hkv, hcl, hnd, e]
            exact ⟨h91, by unfold classV; dsimp only; omega, rfl⟩
          | none =>
            right; left
            have e : (partL (a :: P.drop (i + 1)) 0).2 = P.drop (i + 1) := by unfold partL; dsimp only; rw [if_neg (by rw [h91]; decide), if_pos h91, hcl]
            rw [hkv, hcl, hnd, e, List.length_drop]
            exact ⟨h91, rfl, by omega⟩
        · by_cases h92 : a = 92
          · by_cases hl1 : i + 1 < len
            · obtain ⟨b, hb⟩ : ∃ b, P[i + 1]? = some b := ⟨P[i + 1]'(by rw [← hlen.out]; exact hl1), List.getElem?_eq_getElem _⟩
              have e : (partL (a :: P.drop (i + 1)) 0).2 = P.drop (i + 2) := by rw [drop_at hb]; unfold partL; dsimp only; rw [if_neg (by rw [h92]; decide), if_neg h91, if_pos h92]
              rw [hnd, e, List.length_drop]
              exact .inr (.inr (.inl ⟨h92, hl1, by omega⟩))
            · have e : (partL (a :: P.drop (i + 1)) 0).2 = P.drop (i + 1) := by rw [List.drop_eq_nil_of_le (by omega)]; unfold partL; dsimp only; rw [if_neg (by rw [h92]; decide), if_neg h91, if_pos h92]
              rw [hnd, e, List.length_drop]
              exact .inr (.inr (.inr (.inl ⟨h92, hl1, by omega⟩)))
          · have e : (partL (a :: P.drop (i + 1)) 0).2 = P.drop (i + 1) := by
              unfold partL
              dsimp only
              by_cases h63 : a = 63
              · rw [if_pos h63]
              · rw [if_neg h63, if_neg h91, if_neg h92]
            rw [hnd, e, List.length_drop]
            exact .inr (.inr (.inr (.inr ⟨h91, h92, by omega⟩)))
      have CC2 : Hid (∀ W, Calls Tryz.prog 35 #[.string S, .int .i64 i, .int .u8 0] W fun e w' => (∃ bv, e = .returned (.tuple #[.int .i64 kv, .bool bv])) ∧ W.grownBy w' none) := Lib.hid fun W => (CC.out i W hlt).mono fun e w' h => ⟨⟨_, by rw [hkv]; exact h.1⟩, h.2⟩
      replace hkv := Lib.hid hkv; replace hlP := Lib.hid hlP; replace hnx := Lib.hid hnx; replace hbc := Lib.hid hbc; replace hnxd := Lib.hid hnxd; replace hE2 := Lib.hid hE2; replace hls := Lib.hid hls; replace fin := Lib.hid fin; replace hE := Lib.hid hE; replace hO := Lib.hid hO; replace hG := Lib.hid hG; replace hI := Lib.hid hI; replace hn := Lib.hid hn; replace hda := Lib.hid hda; replace ha := Lib.hid ha; replace hiP := Lib.hid hiP; replace hbW := Lib.hid hbW; replace CC := Lib.hid CC
      rcases hcase with ⟨h91, hk0, hz⟩ | ⟨h91, hk0, hz⟩ | ⟨h92, hl1, hz⟩ | ⟨h92, hl1, hz⟩ | ⟨h91, h92, hz⟩
      · have e91 : (a.toNat : Int) = 91 := u8_eq (n := 91) (by omega) h91
        have hk1 : (0 : Int) < (kv : Int) := by omega
        replace h91 := Lib.hid h91; replace hz := Lib.hid hz
        go_wp2_with (at_builtin; refine ap48 rfl (.tmp 11) (.tmp 13) rfl base (.slice A n c) n (ni ls) rfl (own_keep hO.out (World.grownBy_alloc _ _ none)) wr.heap.size i rfl (heap_alloc_new wr _) (by omega) (by exact Nat.le_trans hbW.out (World.grownBy_alloc _ _ none).size) ?_; intro A' c' w' h1 h2; replace h1 := Lib.hid h1; replace h2 := Lib.hid h2)
        refine (CC2.out _).mono ?_
        rintro e w1 ⟨⟨bv, rfl⟩, G1⟩
        replace G1 := Lib.hid G1
        go_wp2_with fail
        refine ⟨fin.out A' c' _ _ _ ?_ h1.out (g_own (a' := wr) (g_alloc hG.out _) hO.out (by rw [hbase.out]; exact Nat.le_refl _) h2.out) G1.out, by have := hz.out; simp [intOf]; omega⟩
        first | exact hz.out | (rw [hw1]; exact hz.out) | (rw [hw2]; exact hz.out)
      · have e91 : (a.toNat : Int) = 91 := u8_eq (n := 91) (by omega) h91
        subst hk0
        replace h91 := Lib.hid h91; replace hz := Lib.hid hz
        go_wp2_with (at_builtin; refine ap48 rfl (.tmp 11) (.tmp 13) rfl base (.slice A n c) n (ni ls) rfl (own_keep hO.out (World.grownBy_alloc _ _ none)) wr.heap.size i rfl (heap_alloc_new wr _) (by omega) (by exact Nat.le_trans hbW.out (World.grownBy_alloc _ _ none).size) ?_; intro A' c' w' h1 h2; replace h1 := Lib.hid h1; replace h2 := Lib.hid h2)
        refine (CC2.out _).mono ?_
        rintro e w1 ⟨⟨bv, rfl⟩, G1⟩
        replace G1 := Lib.hid G1
        go_wp2_with fail
        refine ⟨fin.out A' c' _ _ _ ?_ h1.out (g_own (a' := wr) (g_alloc hG.out _) hO.out (by rw [hbase.out]; exact Nat.le_refl _) h2.out) G1.out, by have := hz.out; simp [intOf]; omega⟩
        first | exact hz.out | (rw [hw1]; exact hz.out) | (rw [hw2]; exact hz.out)
      · have e92 : (a.toNat : Int) = 92 := u8_eq (n := 92) (by omega) h92
        have hl1i : (i : Int) + 1 < (len : Int) := by omega
        replace h92 := Lib.hid h92; replace hz := Lib.hid hz
        go_wp2_with (at_builtin; refine ap48 rfl (.tmp 11) (.tmp 13) rfl base (.slice A n c) n (ni ls) rfl (own_keep hO.out (World.grownBy_alloc _ _ none)) wr.heap.size i rfl (heap_alloc_new wr _) (by omega) (by exact Nat.le_trans hbW.out (World.grownBy_alloc _ _ none).size) ?_; intro A' c' w' h1 h2; replace h1 := Lib.hid h1; replace h2 := Lib.hid h2)
        refine (CC2.out _).mono ?_
        rintro e w1 ⟨⟨bv, rfl⟩, G1⟩
        replace G1 := Lib.hid G1
        go_wp2_with fail
        refine ⟨fin.out A' c' _ _ _ ?_ h1.out (g_own (a' := wr) (g_alloc hG.out _) hO.out (by rw [hbase.out]; exact Nat.le_refl _) h2.out) G1.out, by have := hz.out; simp [intOf]; omega⟩
        first | exact hz.out | (rw [hw1]; exact hz.out) | (rw [hw2]; exact hz.out)
      · have e92 : (a.toNat : Int) = 92 := u8_eq (n := 92) (by omega) h92
        have hl1i : ¬ ((i : Int) + 1 < (len : Int)) := by omega
        replace h92 := Lib.hid h92; replace hz := Lib.hid hz
        go_wp2_with (at_builtin; refine ap48 rfl (.tmp 11) (.tmp 13) rfl base (.slice A n c) n (ni ls) rfl (own_keep hO.out (World.grownBy_alloc _ _ none)) wr.heap.size i rfl (heap_alloc_new wr _) (by omega) (by exact Nat.le_trans hbW.out (World.grownBy_alloc _ _ none).size) ?_; intro A' c' w' h1 h2; replace h1 := Lib.hid h1; replace h2 := Lib.hid h2)
        refine (CC2.out _).mono ?_
        rintro e w1 ⟨⟨bv, rfl⟩, G1⟩
        replace G1 := Lib.hid G1
        go_wp2_with fail
        refine ⟨fin.out A' c' _ _ _ ?_ h1.out (g_own (a' := wr) (g_alloc hG.out _) hO.out (by rw [hbase.out]; exact Nat.le_refl _) h2.out) G1.out, by have := hz.out; simp [intOf]; omega⟩
        first | exact hz.out | (rw [hw1]; exact hz.out) | (rw [hw2]; exact hz.out)
      · have e91 : ¬ ((a.toNat : Int) = 91) := u8_ne (n := 91) (by omega) h91
        have e92 : ¬ ((a.toNat : Int) = 92) := u8_ne (n := 92) (by omega) h92
        replace h91 := Lib.hid h91; replace h92 := Lib.hid h92; replace hz := Lib.hid hz
        go_wp2_with (at_builtin; refine ap48 rfl (.tmp 11) (.tmp 13) rfl base (.slice A n c) n (ni ls) rfl (own_keep hO.out (World.grownBy_alloc _ _ none)) wr.heap.size i rfl (heap_alloc_new wr _) (by omega) (by exact Nat.le_trans hbW.out (World.grownBy_alloc _ _ none).size) ?_; intro A' c' w' h1 h2; replace h1 := Lib.hid h1; replace h2 := Lib.hid h2)
        refine (CC2.out _).mono ?_
        rintro e w1 ⟨⟨bv, rfl⟩, G1⟩
        replace G1 := Lib.hid G1
        go_wp2_with fail
        refine ⟨fin.out A' c' _ _ _ ?_ h1.out (g_own (a' := wr) (g_alloc hG.out _) hO.out (by rw [hbase.out]; exact Nat.le_refl _) h2.out) G1.out, by have := hz.out; simp [intOf]; omega⟩
        first | exact hz.out | (rw [hw1]; exact hz.out) | (rw [hw2]; exact hz.out)
    · have hlti : ¬ ((i : Int) < (len : Int)) := by omega
      have hend : beg P 0 = ls := by rw [hE, beg_end (by rw [← hlen.out]; omega), List.append_nil]
      have hl2 : (beg P 0).length = n := by rw [hend, hn]
      replace hend := Lib.hid hend; replace hl2 := Lib.hid hl2; replace hE := Lib.hid hE; replace hO := Lib.hid hO; replace hG := Lib.hid hG; replace hI := Lib.hid hI; replace hn := Lib.hid hn
      go_wp2_with fail
      go_ret
      exact ⟨A, c, by rw [hl2.out]; rfl, by rw [hl2.out, hend.out]; exact hO.out, hG.out⟩
end Go.Proofs.YtfhdfhlabkeipaaGreatDoor
