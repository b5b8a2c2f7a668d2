/- Format: cell.Runes at ASCII; cell.Cut at the examples' x. -/
import Derived.Test.YtfhdfhlabkeipaaGreatDoorQ2
import Derived.Test.YtfhdfhlabkeipaaGreatDoorL1
import Derived.Laws.Cover4
namespace Go.Proofs.YtfhdfhlabkeipaaGreatDoor
open Go.RowKit
set_option linter.unusedSimpArgs false
set_option linter.unusedVariables false

/-- A decoder that waits for nothing. -/
def Dc (w : World) (db : Nat) : Prop := ∃ p q, w.heap[db]? = some (.cells #[.int .i32 0, .int .i64 0, .int .i64 0, p, q] 207 (0, 0))
def rs (l : B) : List Value := l.map fun b => .int .i32 (b.toNat : Int)
def BegP (c : UInt8) (db : Nat) (w : World) (e : Ending) (w' : World) : Prop := ∃ g, e = .returned (.slice (some ⟨g, 0, none⟩) 1 1) ∧ w'.heap[g]? = some (.cells #[.int .i32 (c.toNat : Int)] 21 (0, 0)) ∧ Fr (fun k => k = db) w w' ∧ Dc w' db
set_option maxHeartbeats 1000000 in
set_option maxRecDepth 100000 in
theorem begin_ascii (c : UInt8) (db : Nat) (w : World) (hc : c.toNat < 128) (hD : Dc w db) : Calls Tryz.prog 164 #[.pointer (some ⟨db, 0, none⟩), .int .u8 (c.toNat : Int)] w (BegP c db w) := by
  obtain ⟨p, q, hb⟩ := hD
  have f3 := free_of_heap hb 3
  have f4 := free_of_heap hb 4
  have k3 : w.cell? ⟨db, 3, none⟩ = some p := by rw [cell_of_heap hb]; rfl
  have k4 : w.cell? ⟨db, 4, none⟩ = some q := by rw [cell_of_heap hb]; rfl
  have hlt : (c.toNat : Int) < 128 := by omega
  have hdl : db < w.heap.size := (Array.getElem?_eq_some_iff.1 hb).1
  have fin : ∀ W, W = ((w.setCell ⟨db, 3, none⟩ (.int .u8 128)).setCell ⟨db, 4, none⟩ (.int .u8 191)) → BegP c db w (.returned (.slice (some ⟨w.heap.size, 0, none⟩) 1 1)) (W.alloc (.cells #[.int .i32 (c.toNat : Int)] 21)) := by
    rintro W rfl
    have hs : ((w.setCell ⟨db, 3, none⟩ (.int .u8 128)).setCell ⟨db, 4, none⟩ (.int .u8 191)).heap.size = w.heap.size := by simp [World.setCell]
    refine ⟨_, rfl, by rw [← hs]; exact heap_alloc_new _ _, ((Fr.set (r := fun k => k = db) w db 3 _ rfl).trans (Fr.set (r := fun k => k = db) _ db 4 _ rfl)).trans (Fr.of_grown (World.grownBy_alloc _ _ none) (by intro b e; cases e)), .int .u8 128, .int .u8 191, ?_⟩
    rw [Below.heap_alloc _ _ db (by simpa [World.setCell] using hdl), bd_set (bd_set hb _)]
    rfl
  replace hb := Lib.hid hb; replace hc := Lib.hid hc; replace hdl := Lib.hid hdl; replace fin := Lib.hid fin
  go_enter Tryz.func164, Tryz.ntmps164
  go_wp2_with fail
  go_ret
  exact fin.out _ rfl
theorem feed_ascii (c : UInt8) (db : Nat) (w : World) (hc : c.toNat < 128) (hD : Dc w db) : Calls Tryz.prog 146 #[.pointer (some ⟨db, 0, none⟩), .int .u8 (c.toNat : Int)] w (BegP c db w) := by
  have C := Lib.hid (begin_ascii c db w hc hD)
  obtain ⟨p, q, hb⟩ := hD
  have k1 : w.cell? ⟨db, 1, none⟩ = some (.int .i64 0) := by rw [cell_of_heap hb]; rfl
  replace hb := Lib.hid hb
  go_enter Tryz.func146, Tryz.ntmps146
  go_wp2_with fail
  refine C.out.mono ?_
  rintro e w1 ⟨g, rfl, h1, h2, h3⟩
  replace h1 := Lib.hid h1; replace h2 := Lib.hid h2; replace h3 := Lib.hid h3
  go_wp2_with fail
  go_ret
  exact ⟨g, rfl, h1.out, h2.out, h3.out⟩
theorem end_idle (db : Nat) (w : World) (hD : Dc w db) : Calls Tryz.prog 147 #[.pointer (some ⟨db, 0, none⟩)] w fun e w' => e = .returned (.slice none 0 0) ∧ w' = w := by
  obtain ⟨p, q, hb⟩ := hD
  have k1 : w.cell? ⟨db, 1, none⟩ = some (.int .i64 0) := by rw [cell_of_heap hb]; rfl
  replace hb := Lib.hid hb
  go_enter Tryz.func147, Tryz.ntmps147
  go_wp2_with fail
  go_ret
  exact ⟨rfl, rfl⟩
theorem new_dec (w : World) : Calls Tryz.prog 145 #[] w fun e w' => e = .returned (.pointer (some ⟨w.heap.size, 0, none⟩)) ∧ w' = w.alloc (.cells #[.int .i32 0, .int .i64 0, .int .i64 0, .int .u8 0, .int .u8 0] 207) := by
  go_enter Tryz.func145, Tryz.ntmps145
  go_wp2_with fail
  go_ret
  exact ⟨rfl, rfl⟩
theorem info21 : (Tryz.prog.info? 21).map (fun i => (i.zero, i.size, i.bytes)) = some (some (.int .i32 0), 1, 4) := by kernel_rfl
section
variable {ops : Array Oper} {rest : List Oper} {o : Oper} {a : Act} {Q : Exit → Act → World → Prop} {w : World}
theorem ap147 (hgd : o.guard = none) (s x : Operand) (ho : o.op = .call { callee := .builtin .append, args := #[s, x], argTypes := #[147, 147] })
    (base : Nat) (v : Value) (n : Nat) (xs : List Value) (hs : a.eval s = v) (hown : w.ownsRow base 21 1 v n xs) (A : Option Addr) (m c : Nat) (l : B) (hx : a.eval x = .slice A m c) (hl : m = l.length) (hr : Rd w A (rs l))
    (hb : n ≤ 1000000) (hm : m ≤ 1) (hbase : base ≤ w.heap.size)
    (h : ∀ A' c' w', w'.ownsRow base 21 1 (.slice A' (n + m) c') (n + m) (xs ++ rs l) → w.grownBy w' v.ownBlock → wpList Tryz.prog ops Q rest (a.put o.dst (.slice A' (n + m) c')) w') : wpList Tryz.prog ops Q (o :: rest) a w := by
  obtain ⟨i0, hi0, hz0, hz1, hz2⟩ := info_parts info21
  exact wpList_append_rd w hgd s x 147 ho base 21 i0 _ 1 4 Tryz.underlying147 hi0 hz0 hz1 hz2 rfl (by omega) v n xs hs hown A m c (rs l) hx (by simp [rs, hl]) hr (by intro u hu; simp [rs] at hu; obtain ⟨b, _, rfl⟩ := hu; rfl) (by unfold maxLen; omega) (by omega) hbase fun A' c' w' h1 h2 _ => h A' c' w' h1 h2
end
def RunP (P : B) (w : World) (e : Ending) (w' : World) : Prop := ∃ A c, e = .returned (.slice A P.length c) ∧ w'.ownsRow w.heap.size 21 1 (.slice A P.length c) P.length (rs P) ∧ w.grownBy w' none
theorem Dc.lt {w : World} {db : Nat} (h : Dc w db) : db < w.heap.size := by
  obtain ⟨p, q, hb⟩ := h
  exact (Array.getElem?_eq_some_iff.1 hb).1
theorem Dc.keep {w w' : World} {db base n : Nat} {v : Value} {xs : List Value} (h : Dc w db) (ho : w.ownsRow base 21 1 v n xs) (g : w.grownBy w' v.ownBlock) : Dc w' db := by
  obtain ⟨p, q, hb⟩ := h
  refine ⟨p, q, (g.block db (Array.getElem?_eq_some_iff.1 hb).1 fun e => ?_).trans hb⟩
  rcases ho.2 with ⟨rfl, _⟩ | ⟨gg, cap, cur, rfl, _, hg, _⟩
  · cases e
  · have : db = gg := by simpa [Value.ownBlock] using e
    subst this
    rw [hg] at hb
    injection hb with hb
    injection hb with _ ht
    cases ht
theorem Fr.own21 {w w' : World} {db base n : Nat} {v : Value} {xs : List Value} (h : Fr (fun k => k = db) w w') (hD : Dc w db) (ho : w.ownsRow base 21 1 v n xs) : w'.ownsRow base 21 1 v n xs :=
  own_same ho fun b hb => h.block b (own_lt ho hb).2 fun e => by
    obtain ⟨p, q, hD⟩ := hD
    rcases ho.2 with ⟨rfl, _⟩ | ⟨gg, cap, cur, rfl, _, hg, _⟩
    · cases hb
    · have : gg = b := by simpa [Value.ownBlock] using hb
      subst this
      rw [e] at hg
      rw [hD] at hg
      injection hg with hg
      injection hg with _ ht
      cases ht
theorem Fr.grow {w0 w w' : World} {db : Nat} (h : Fr (fun k => k = db) w w') (g : w0.grownBy w none) (hd : w0.heap.size ≤ db) : w0.grownBy w' none :=
  ⟨h.os.trans g.os, h.tape.trans g.tape, h.output.trans g.output, Nat.le_trans g.size h.size, fun k hk _ => (h.block k (Nat.lt_of_lt_of_le hk g.size) (by omega)).trans (g.block k hk (by simp))⟩
theorem rs_take {P : B} {j : Nat} {c : UInt8} (h : P[j]? = some c) : rs (P.take j) ++ rs [c] = rs (P.take (j + 1)) := by
  have : P.take (j + 1) = P.take j ++ [c] := by
    obtain ⟨h1, h2⟩ := List.getElem?_eq_some_iff.1 h
    rw [List.take_add_one, h]; rfl
  rw [this]; simp [rs]
theorem rd_rune {w : World} {g : Nat} {c : UInt8} (h : w.heap[g]? = some (.cells #[.int .i32 (c.toNat : Int)] 21 (0, 0))) : Rd w (some ⟨g, 0, none⟩) (rs [c]) := rd_one h

set_option maxHeartbeats 2000000 in
set_option maxRecDepth 100000 in
theorem runes_ascii (P : B) (w : World) (hP : P.length ≤ 100000) (ha : ∀ b ∈ P, b.toNat < 128) : Calls Tryz.prog 122 #[.string (st P)] w (RunP P w) := by
  have CN := Lib.hid (new_dec w)
  obtain ⟨S, hS⟩ : ∃ S, S = st P := ⟨_, rfl⟩
  obtain ⟨len, hlen⟩ : ∃ len, len = P.length := ⟨_, rfl⟩
  have hZ : S.size = len := by rw [hS, st_size, hlen]
  unfold RunP
  rw [← hS, ← hlen]
  rw [← hlen] at hP
  replace hS := Lib.hid hS; replace hlen := Lib.hid hlen; replace ha := Lib.hid ha
  go_enter Tryz.func122, Tryz.ntmps122
  go_wp2_with fail
  refine CN.out.mono ?_
  rintro e w1 ⟨rfl, hw1⟩
  obtain ⟨db, hdb⟩ : ∃ db, db = w.heap.size := ⟨_, rfl⟩
  have hD1 : Dc w1 db := ⟨.int .u8 0, .int .u8 0, by rw [hw1, hdb]; exact heap_alloc_new _ _⟩
  have hG1 : w.grownBy w1 none := by rw [hw1]; exact World.grownBy_alloc _ _ none
  rw [← hdb]
  replace hw1 := Lib.hid hw1; replace hD1 := Lib.hid hD1; replace hG1 := Lib.hid hG1; replace hdb := Lib.hid hdb
  go_wp2_with fail
  go_loopw [3, 9] (fun bv iv wr => ∃ (A : Option Addr) (c i : Nat), bv = .slice A i c ∧ iv = .int .i64 i ∧ i ≤ len ∧ Hid (wr.ownsRow db 21 1 (.slice A i c) i (rs (P.take i)) ∧ Dc wr db ∧ w.grownBy wr none)) (fun _ iv _ => len - (intOf iv).toNat)
  case atStart => exact ⟨none, 0, 0, rfl, rfl, Nat.zero_le _, Lib.hid ⟨World.ownsRow_nil _ _ _ _, hD1.out, hG1.out⟩⟩
  case round =>
    obtain ⟨A, c, i, rfl, rfl, hi, hI⟩ := hrel
    obtain ⟨hO, hD, hG⟩ := hI.out
    clear hI
    by_cases hlt : i < len
    · obtain ⟨u, hu⟩ : ∃ u, P[i]? = some u := ⟨P[i]'(by rw [← hlen.out]; exact hlt), List.getElem?_eq_getElem _⟩
      have hg := get_at hu hS.out
      have CF := Lib.hid (feed_ascii u db wr (ha.out u (List.mem_of_getElem? hu)) hD)
      have hlti : (i : Int) < (len : Int) := by omega
      have hwi : IntKind.i64.wrap ((i : Int) + 1) = ((i + 1 : Nat) : Int) := by rw [IntKind.wrap_i64]; omega
      replace hu := Lib.hid hu; replace hO := Lib.hid hO; replace hD := Lib.hid hD; replace hG := Lib.hid hG
      go_wp2_with fail
      refine CF.out.mono ?_
      rintro e w2 ⟨g, rfl, h1, h2, h3⟩
      have hO2 := h2.own21 hD.out hO.out
      have hG2 := h2.grow hG.out (by rw [hdb.out]; exact Nat.le_refl _)
      have hB2 : db ≤ w2.heap.size := by rw [hdb.out]; exact hG2.size
      replace h1 := Lib.hid h1; replace h2 := Lib.hid h2; replace h3 := Lib.hid h3; replace hO2 := Lib.hid hO2; replace hG2 := Lib.hid hG2
      go_wp2_with (at_builtin; refine ap147 rfl (.tmp 12) (.tmp 17) rfl db (.slice A i c) i _ rfl hO2.out (some ⟨g, 0, none⟩) 1 1 [u] rfl rfl (rd_rune h1.out) (by omega) (by omega) hB2 ?_)
      intro A' c' w3 q1 q2
      rw [rs_take hu.out] at q1
      have hD3 := h3.out.keep hO2.out q2
      have hG3 := g_own (a' := w2) hG2.out hO2.out (by rw [hdb.out]; exact Nat.le_refl _) q2
      replace q1 := Lib.hid q1; replace q2 := Lib.hid q2; replace hD3 := Lib.hid hD3; replace hG3 := Lib.hid hG3
      go_wp2_with fail
      exact ⟨⟨A', c', i + 1, rfl, by first | rfl | rw [hwi], by omega, Lib.hid ⟨q1.out, hD3.out, hG3.out⟩⟩, by simp [intOf]; omega⟩
    · have hil : i = len := by omega
      have hlti : ¬ ((i : Int) < (len : Int)) := by omega
      have CE := Lib.hid (end_idle db wr hD)
      have hB2 : db ≤ wr.heap.size := by rw [hdb.out]; exact hG.size
      have ht : P.take i = P := by rw [hil, hlen.out, List.take_length]
      rw [ht] at hO
      replace hO := Lib.hid hO; replace hD := Lib.hid hD; replace hG := Lib.hid hG; replace ht := Lib.hid ht; replace hil := Lib.hid hil
      go_wp2_with fail
      refine CE.out.mono ?_
      rintro e w2 ⟨rfl, rfl⟩
      go_wp2_with (at_builtin; refine ap147 rfl (.tmp 20) (.tmp 22) rfl db (.slice A i c) i _ rfl hO.out none 0 0 [] rfl rfl (Rd.nil _ _) (by omega) (by omega) hB2 ?_)
      intro A' c' w3 q1 q2
      have hG3 := g_own (a' := w2) hG.out hO.out (by rw [hdb.out]; exact Nat.le_refl _) q2
      replace q1 := Lib.hid q1; replace q2 := Lib.hid q2; replace hG3 := Lib.hid hG3
      go_wp2_with fail
      go_ret
      refine ⟨A', c', by rw [← hil.out]; rfl, ?_, hG3.out⟩
      have := q1.out
      rw [← hdb.out, ← hil.out]
      simpa [rs] using this
end Go.Proofs.YtfhdfhlabkeipaaGreatDoor
