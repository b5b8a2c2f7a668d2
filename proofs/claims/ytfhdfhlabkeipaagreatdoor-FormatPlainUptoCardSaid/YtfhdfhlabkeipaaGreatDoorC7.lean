/- Format: pieces: what commas part. -/
import Derived.Test.YtfhdfhlabkeipaaGreatDoorC6
import Derived.Deep.RegionHeld3
import Derived.Deep.AppendLies
namespace Go.Proofs.YtfhdfhlabkeipaaGreatDoor
open Go.RowKit
set_option linter.unusedSimpArgs false
set_option linter.unusedVariables false

theorem info9 : (Tryz.prog.info? 9).map (fun i => (i.zero, i.size, i.bytes)) = some (some (.string ⟨#[]⟩), 1, 16) := by kernel_rfl
theorem info_parts {P : Program} {e : TypeId} {z : Value} {s b : Nat} (h : (P.info? e).map (fun i => (i.zero, i.size, i.bytes)) = some (some z, s, b)) : ∃ i, P.info? e = some i ∧ i.zero = some z ∧ i.size = s ∧ i.bytes = b := by
  rw [Option.map_eq_some_iff] at h
  obtain ⟨i, hi, he⟩ := h
  simp only [Prod.mk.injEq] at he
  exact ⟨i, hi, he.1, he.2.1, he.2.2⟩
def ss (l : List B) : List Value := l.map fun b => .string (st b)
theorem ss_one (l : List B) : ∀ u ∈ ss l, u.oneCell' = true := by
  intro u hu
  obtain ⟨b, _, rfl⟩ := List.mem_map.1 hu
  rfl

theorem cell_of_heap {w : World} {g : Nat} {c : Array Value} {e : TypeId} (h : w.heap[g]? = some (.cells c e (0, 0))) (j : Nat) : w.cell? ⟨g, j, none⟩ = c[j]? := by
  unfold World.cell?; rw [h]; simp
theorem free_of_heap {w : World} {g : Nat} {c : Array Value} {e : TypeId} (h : w.heap[g]? = some (.cells c e (0, 0))) (j : Nat) : w.frozen? ⟨g, j, none⟩ = false := by
  unfold World.frozen?; rw [h]; simp
section
variable {ops : Array Oper} {rest : List Oper} {o : Oper} {a : Act} {Q : Exit → Act → World → Prop} {w : World}
theorem rd_one {g : Nat} {u : Value} {t : TypeId} (hg : w.heap[g]? = some (.cells #[u] t (0, 0))) : Rd w (some ⟨g, 0, none⟩) [u] := fun _ => ⟨g, 0, rfl, (Array.getElem?_eq_some_iff.1 hg).1, fun j x hj => by
  rcases j with _ | j
  · simp at hj
    subst hj
    rw [cell_of_heap hg]
    rfl
  · simp at hj⟩
/-- append of one text at []string. -/
theorem ap91 (hgd : o.guard = none) (s x : Operand) (ho : o.op = .call { callee := .builtin .append, args := #[s, x], argTypes := #[91, 91] })
    (base : Nat) (v : Value) (n : Nat) (xs : List Value) (hs : a.eval s = v) (hown : w.ownsRow base 9 1 v n xs) (g : Nat) (u : ByteArray) (hx : a.eval x = .slice (some ⟨g, 0, none⟩) 1 1) (hg : w.heap[g]? = some (.cells #[.string u] 9 (0, 0)))
    (hb : n ≤ 1000000) (hbase : base ≤ w.heap.size)
    (h : ∀ A' c' w', w'.ownsRow base 9 1 (.slice A' (n + 1) c') (n + 1) (xs ++ [.string u]) → w.grownBy w' v.ownBlock → wpList Tryz.prog ops Q rest (a.put o.dst (.slice A' (n + 1) c')) w') : wpList Tryz.prog ops Q (o :: rest) a w := by
  obtain ⟨i0, hi0, hz0, hz1, hz2⟩ := info_parts info9
  exact wpList_append_rd w hgd s x 91 ho base 9 i0 _ 1 16 Tryz.underlying91 hi0 hz0 hz1 hz2 rfl (by omega) v n xs hs hown (some ⟨g, 0, none⟩) 1 1 [.string u] hx rfl (rd_one hg) (by intro q hq; simp at hq; subst hq; rfl) (by unfold maxLen; omega) (by omega) hbase fun A' c' w' h1 h2 _ => h A' c' w' h1 h2
/-- The same, at a step of a region that draws its order. -/
theorem ap91s {K : Act → World → Prop} {E : Prop} (hgd : o.guard = none) (s x : Operand) (ho : o.op = .call { callee := .builtin .append, args := #[s, x], argTypes := #[91, 91] })
    (base : Nat) (v : Value) (n : Nat) (xs : List Value) (hs : a.eval s = v) (hown : w.ownsRow base 9 1 v n xs) (g : Nat) (u : ByteArray) (hx : a.eval x = .slice (some ⟨g, 0, none⟩) 1 1) (hg : w.heap[g]? = some (.cells #[.string u] 9 (0, 0)))
    (hb : n ≤ 1000000) (hbase : base ≤ w.heap.size)
    (h : ∀ A' c' w', w'.ownsRow base 9 1 (.slice A' (n + 1) c') (n + 1) (xs ++ [.string u]) → w.grownBy w' v.ownBlock → K (a.put o.dst (.slice A' (n + 1) c')) w') : if Region.wanted o (yielded ops a.tmps) = true then Oper.wp Tryz.prog o a w K Q else E := by
  have hw : Region.wanted o (yielded ops a.tmps) = true := by simp [Region.wanted, hgd]
  rw [if_pos hw]
  obtain ⟨i0, hi0, hz0, hz1, hz2⟩ := info_parts info9
  exact wp_append_rd w s x 91 ho base 9 i0 _ 1 16 Tryz.underlying91 hi0 hz0 hz1 hz2 rfl (by omega) v n xs hs hown (some ⟨g, 0, none⟩) 1 1 [.string u] hx rfl (rd_one hg) (by intro q hq; simp at hq; subst hq; rfl) (by unfold maxLen; omega) (by omega) hbase fun A' c' w' h1 h2 _ => h A' c' w' h1 h2
end

theorem outL_ge {sign : UInt8} : ∀ (n : Nat) (s : B) (d k j : Nat), s.length ≤ n → outL sign s d k = some j → k ≤ j ∧ j < k + s.length := by
  intro n
  induction n with
  | zero => intro s d k j hn h; have := List.eq_nil_of_length_eq_zero (Nat.le_zero.1 hn); subst this; cases h
  | succ n ih =>
    intro s d k j hn h
    cases s with
    | nil => cases h
    | cons c r =>
      rw [outL_cons] at h
      simp only [List.length_cons] at hn ⊢
      split at h
      · injection h with h; omega
      · split at h
        · have := ih r _ _ _ (by omega) h; omega
        · split at h
          · cases r with
            | nil => cases h
            | cons e r' =>
              simp only [List.length_cons] at hn ⊢
              dsimp only at h
              split at h
              · have := ih r' _ _ _ (by omega) h; omega
              · split at h
                · have := ih r' _ _ _ (by omega) h; omega
                · have := ih (e :: r') _ _ _ (by simp only [List.length_cons]; omega) h; simp only [List.length_cons] at this; omega
          · have := ih r _ _ _ (by omega) h; omega
theorem outL_lt {sign : UInt8} {s : B} {k : Nat} (h : outL sign s 0 0 = some k) : k < s.length ∧ True := by
  have := outL_ge _ s 0 0 k (Nat.le_refl _) h
  exact ⟨by omega, trivial⟩

set_option maxHeartbeats 1000000 in
set_option maxRecDepth 100000 in
theorem pieces_any (P : B) (m : Nat) (w : World) (hP : P.length ≤ 100000) (hm : m ≤ 10) :
    Calls Tryz.prog 66 #[.string (st P), .int .i64 ((m + 1 : Nat) : Int)] w fun e w' => ∃ A c, e = .returned (.slice A (piecesF m P).length c) ∧ w'.ownsRow w.heap.size 9 1 (.slice A (piecesF m P).length c) (piecesF m P).length (ss (piecesF m P)) ∧ w.grownBy w' none := by
  obtain ⟨i0, hi0, hz0, hz1, hz2⟩ := info_parts info9
  obtain ⟨base, hbase⟩ : ∃ b, b = w.heap.size := ⟨_, rfl⟩
  rw [← hbase]
  have hu91 := Tryz.underlying91
  replace hbase := Lib.hid hbase
  replace hi0 := Lib.hid hi0; replace hz0 := Lib.hid hz0; replace hz1 := Lib.hid hz1; replace hz2 := Lib.hid hz2
  obtain ⟨mp, hmp⟩ : ∃ mp, mp = m + 1 := ⟨_, rfl⟩
  rw [← hmp]
  have hwm : IntKind.i64.wrap ((mp : Int) - 1) = (m : Int) := by rw [IntKind.wrap_i64]; omega
  replace hmp := Lib.hid hmp
  have CO : Hid (∀ (R : B) (W : World), R.length ≤ 100000 → Calls Tryz.prog 54 #[.string (st R), .int .u8 44] W fun e w' => e = .returned (.int .i64 (idx (outL 44 R 0 0))) ∧ w' = W) := Lib.hid fun R W h => outside_any R 44 W h (.inl rfl)
  go_enter Tryz.func66, Tryz.ntmps66
  go_wp2_with fail
  go_loopw [0, 5, 6] (fun sv lv kv wr => ∃ (R : B) (ls : List B) (A : Option Addr) (c : Nat), sv = .string (st R) ∧ lv = .slice A ls.length c ∧ ls.length ≤ m ∧ Hid (wr.ownsRow base 9 1 (.slice A ls.length c) ls.length (ss ls) ∧ w.grownBy wr none ∧ R.length ≤ 100000 ∧ piecesF m P = ls ++ piecesF (m - ls.length) R)) (fun _ lv _ _ => m + 1 - slen lv)
  case atStart => exact ⟨P, [], none, 0, rfl, rfl, Nat.zero_le _, Lib.hid ⟨World.ownsRow_nil _ _ _ _, World.grownBy.refl _ _, hP, by simp⟩⟩
  case round =>
    obtain ⟨R, ls, A, c, rfl, rfl, hl, hI⟩ := hrel
    obtain ⟨hO, hG, hR, hE⟩ := hI.out
    obtain ⟨n, hn⟩ : ∃ n, n = ls.length := ⟨_, rfl⟩
    rw [← hn] at hl hO hE ⊢
    replace hn := Lib.hid hn; replace hO := Lib.hid hO; replace hG := Lib.hid hG; replace hE := Lib.hid hE
    obtain ⟨S, hS⟩ : ∃ S, S = st R := ⟨_, rfl⟩
    have hfin : piecesF m P = ls ++ [R] → ∀ (A' : Option Addr) (c' : Nat) (w' : World), w'.ownsRow base 9 1 (.slice A' (n + 1) c') (n + 1) (ss ls ++ [.string S]) → w.grownBy w' none → ∃ A c, Ending.returned (.slice A' (n + 1) c') = .returned (.slice A (piecesF m P).length c) ∧ w'.ownsRow base 9 1 (.slice A (piecesF m P).length c) (piecesF m P).length (ss (piecesF m P)) ∧ w.grownBy w' none := fun h A' c' w' h1 h2 => by
      have hl1 : (piecesF m P).length = n + 1 := by rw [h, List.length_append, hn.out]; rfl
      have hl2 : ss (piecesF m P) = ss ls ++ [.string S] := by rw [h, hS]; simp [ss]
      exact ⟨A', c', by rw [hl1], by rw [hl1, hl2]; exact h1, h2⟩
    have CR := CO.out R wr hR
    rw [← hS] at CR ⊢
    replace hfin := Lib.hid hfin; replace CR := Lib.hid CR; replace hS := Lib.hid hS
    by_cases hlt : n < m
    · have hlti : (n : Int) < (m : Int) := by omega
      cases ho : outL 44 R 0 0 with
      | none =>
        have hend : piecesF m P = ls ++ [R] := by
          rw [hE.out]
          obtain ⟨d, hd⟩ : ∃ d, m - n = d + 1 := ⟨m - n - 1, by omega⟩
          rw [hd]
          unfold piecesF
          rw [ho]
        have CR2 := CR.out
        rw [ho] at CR2
        replace CR2 : Calls Tryz.prog 54 #[.string S, .int .u8 44] wr fun e w' => e = .returned (.int .i64 (-1)) ∧ w' = wr := CR2
        replace CR2 := Lib.hid CR2; replace ho := Lib.hid ho; replace hend := Lib.hid hend
        go_wp2_with fail
        refine CR2.out.mono ?_
        rintro e w1 ⟨rfl, rfl⟩
        go_wp2_with (at_builtin; refine ap91 rfl (.tmp 26) (.tmp 28) rfl base (.slice A n c) n (ss ls) rfl (own_keep hO.out (World.grownBy_alloc _ _ none)) w1.heap.size S rfl (heap_alloc_new w1 _) (by omega) (by rw [hbase.out]; exact Nat.le_trans hG.out.size (World.grownBy_alloc _ _ none).size) ?_; intro A' c' w' h1 h2; replace h1 := Lib.hid h1; replace h2 := Lib.hid h2)
        go_ret
        exact hfin.out hend.out A' c' w' h1.out (g_own (a' := w1) (g_alloc hG.out _) hO.out (by rw [hbase.out]; exact Nat.le_refl _) h2.out)
      | some k =>
        have hk := outL_lt ho
        obtain ⟨h1, h2⟩ := hk
        have hstep : piecesF m P = (ls ++ [R.take k]) ++ piecesF (m - (n + 1)) (R.drop (k + 1)) := by
          rw [hE.out]
          obtain ⟨d, hd⟩ : ∃ d, m - n = d + 1 := ⟨m - n - 1, by omega⟩
          rw [hd, show m - (n + 1) = d by omega]
          conv => lhs; unfold piecesF
          rw [ho]
          simp
        have CR2 := CR.out
        rw [ho] at CR2
        replace CR2 : Calls Tryz.prog 54 #[.string S, .int .u8 44] wr fun e w' => e = .returned (.int .i64 (k : Int)) ∧ w' = wr := CR2
        obtain ⟨len, hlen⟩ : ∃ len, len = R.length := ⟨_, rfl⟩
        have hZ : S.size = len := by rw [hS.out, st_size, hlen]
        have hkl : k + 1 ≤ len := by omega
        have hR' : (R.drop (k + 1)).length ≤ 100000 := by rw [List.length_drop]; omega
        have hx1 : S.extract 0 k = st (R.take k) := by rw [hS.out, st_take]
        have hx2 : S.extract (k + 1) len = st (R.drop (k + 1)) := by rw [hS.out, st_drop _ _ _ hlen]
        have hwk : IntKind.i64.wrap ((k : Int) + 1) = ((k + 1 : Nat) : Int) := by rw [IntKind.wrap_i64]; omega
        obtain ⟨S1, hS1⟩ : ∃ S1, S1 = S.extract 0 k := ⟨_, rfl⟩
        have hO1 := hO.out
        have hsz : base ≤ wr.heap.size := by rw [hbase.out]; exact hG.out.size
        have hkl2 : (k : Int) + 1 ≤ (len : Int) := by omega
        have hkl3 : (k : Int) ≤ (len : Int) := by omega
        have hkl4 : (0 : Int) ≤ ((k + 1 : Nat) : Int) := by omega
        have hkl5 : ((k + 1 : Nat) : Int) ≤ (len : Int) := by omega
        have hkl6 : (0 : Int) ≤ (k : Int) + 1 := by omega
        have hkl7 : (0 : Int) ≤ (k : Int) := by omega
        have hkl8 : IntKind.i64.wrap ((k : Int) + 1) = (k : Int) + 1 := by rw [IntKind.wrap_i64]; omega
        replace CR2 := Lib.hid CR2; replace ho := Lib.hid ho; replace hstep := Lib.hid hstep; replace hlen := Lib.hid hlen; replace hx1 := Lib.hid hx1; replace hx2 := Lib.hid hx2; replace hR' := Lib.hid hR'; replace h1 := Lib.hid h1; replace h2 := Lib.hid h2; replace hS1 := Lib.hid hS1; replace hO1 := Lib.hid hO1; replace hsz := Lib.hid hsz
        go_wp2_with fail
        refine CR2.out.mono ?_
        rintro e w1 ⟨rfl, rfl⟩
        go_upto_region 5 with fail
        go_region_held3 (fun _ => True) (trivial)
          ((refine ap91s (by rfl) _ _ (by rfl) base (.slice A n c) n (ss ls) (by rfl) (own_keep hO1.out (g_alloc (g_drew (World.grownBy.refl _ _)) _)) w1.heap.size (S.extract 0 k) (by rfl) (heap_alloc_new _ _) (by omega) (Nat.le_trans hsz.out (g_alloc (g_drew (World.grownBy.refl w1 none)) _).size) ?_; intro A' c' w' q1 q2))
        all_goals
          have hl' : (ls ++ [R.take k]).length = n + 1 := by rw [List.length_append, hn.out]; rfl
          have hss : ss (ls ++ [R.take k]) = ss ls ++ [.string (S.extract 0 k)] := by rw [hx1.out]; simp [ss]
          have hgn := g_own (a' := w1) (g_alloc (g_drew hG.out) _) hO1.out (by rw [hbase.out]; exact Nat.le_refl _) q2
          replace hl' := Lib.hid hl'; replace hss := Lib.hid hss; replace hgn := Lib.hid hgn; replace q1 := Lib.hid q1; replace q2 := Lib.hid q2
          go_wp2_with fail
          go_roundw
          case rel => exact ⟨R.drop (k + 1), ls ++ [R.take k], A', c', by rw [hx2.out], by rw [hl'.out], by rw [hl'.out]; omega, Lib.hid ⟨by rw [hl'.out, hss.out]; exact q1.out, hgn.out, hR'.out, by rw [hl'.out]; exact hstep.out⟩⟩
          case measure =>
            show m + 1 - (n + 1) < m + 1 - n
            omega
    · have hlti : ¬ ((n : Int) < (m : Int)) := by omega
      have hnm : n = m := by omega
      have hend : piecesF m P = ls ++ [R] := by
        rw [hE.out, hnm, Nat.sub_self]
        rfl
      replace hend := Lib.hid hend; replace hnm := Lib.hid hnm
      go_wp2_with (at_builtin; refine ap91 rfl (.tmp 26) (.tmp 28) rfl base (.slice A n c) n (ss ls) rfl (own_keep hO.out (World.grownBy_alloc _ _ none)) wr.heap.size S rfl (heap_alloc_new wr _) (by omega) (by rw [hbase.out]; exact Nat.le_trans hG.out.size (World.grownBy_alloc _ _ none).size) ?_; intro A' c' w' h1 h2; replace h1 := Lib.hid h1; replace h2 := Lib.hid h2)
      go_ret
      exact hfin.out hend.out A' c' w' h1.out (g_own (a' := wr) (g_alloc hG.out _) hO.out (by rw [hbase.out]; exact Nat.le_refl _) h2.out)
end Go.Proofs.YtfhdfhlabkeipaaGreatDoor
