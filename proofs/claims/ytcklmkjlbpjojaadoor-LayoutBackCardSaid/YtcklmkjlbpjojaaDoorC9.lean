/- Layout: Print, Boxes. -/
import Derived.Test.YtcklmkjlbpjojaaDoorC6
import Derived.Test.YtcklmkjlbpjojaaDoorC7
import Derived.BigRegion
import Derived.Deep.QuietTactic
import Derived.BigQuiet
import Derived.Deep.RegionLaw
namespace Go.Proofs.YtcklmkjlbpjojaaDoor
open Go.RowKit
set_option linter.unusedSimpArgs false
set_option linter.unusedVariables false

def T.print (t : T) : List UInt8 := fourB (sumB t.body) ++ [44] ++ t.body
theorem fourB_len (n : Nat) : (fourB n).length ≤ 7 := by
  unfold fourB
  rw [List.length_drop, List.length_append, hex_len]
  have := hexlen_le n
  simp; omega
theorem Deb.grown {w w' : World} (h : Deb w) (hg : w.grownBy w' none) : Deb w' := hg.cell h (by simp)
set_option maxHeartbeats 1000000 in
theorem print_any (base tr : Nat) (t : T) (w : World) (hT : Tr base w tr t) (hR : t.rg) (hW : t.w01) (hTab : Tab w) (hD : Deb w) (hL : t.body.length ≤ 1000000) :
    Calls Tryd.prog 11 #[ptr tr] w fun e w' => e = .returned (.string (st t.print)) ∧ w.grownBy w' none := by
  have c0 := hT.c0
  have CB := Lib.hid (body_any t none w hT.p hR hW hTab hL)
  have CS := Lib.hid (fun W => sum_any t.body W (by omega))
  have hlt := sumB_lt t.body
  have CF := Lib.hid (fun W (hg : w.grownBy W none) => four_any (sumB t.body) W (hD.grown hg) hlt)
  have h4 := fourB_len (sumB t.body)
  obtain ⟨s1, s2, k1, k2⟩ : ∃ s1 s2, Adds (st (fourB (sumB t.body))) ⟨#[44]⟩ s1 ∧ (Adds s1 (st t.body) s2 ∧ s2 = st t.print) := by
    exact ⟨_, _, adds_st _ [44] (by simp; omega), adds_st _ _ (by simp; omega), rfl⟩
  obtain ⟨k2, k3⟩ := k2
  obtain ⟨sb, hsb⟩ : ∃ s, s = st t.body := ⟨_, rfl⟩
  obtain ⟨sf, hsf⟩ : ∃ s, s = st (fourB (sumB t.body)) := ⟨_, rfl⟩
  rw [← hsb] at k2 CB CS
  rw [← hsf] at k1 CF
  generalize sumB t.body = n at *
  unfold Adds at k1 k2
  replace hT := Lib.hid hT; replace k3 := Lib.hid k3; replace hsb := Lib.hid hsb; replace hsf := Lib.hid hsf; replace hTab := Lib.hid hTab
  unfold ptr at *
  go_enter Tryd.func11, Tryd.ntmps11
  go_wp2_with fail
  refine CB.out.mono ?_
  rintro e w1 ⟨rfl, g1⟩
  go_wp2_with fail
  refine (CS.out _).mono ?_
  rintro e w2 ⟨rfl, rfl⟩
  go_wp2_with fail
  refine (CF.out _ g1).mono ?_
  rintro e w3 ⟨rfl, g3⟩
  go_wp2_with fail
  go_ret
  exact ⟨ret_str k3.out, g1.trans g3⟩

section
variable {P : Program} {w : World}
theorem step_append_rd {ops : Array Oper} {o : Oper} {a : Act} {K : Act → World → Prop} {Q : Exit → Act → World → Prop} {E : Prop} (hgd : o.guard = none) (s x : Operand) (t : TypeId)
    (ho : o.op = .call { callee := .builtin .append, args := #[s, x], argTypes := #[t, t] })
    (base : Nat) (e : TypeId) (i : TypeInfo) (z : Value) (size bytes : Nat) (ht : P.underlying t = some (.slice e)) (hi : P.info? e = some i) (hz : i.zero = some z)
    (hsize : i.size = size) (hby : i.bytes = bytes) (hzs : z.cells.size = size) (hsz : 0 < size)
    (v : Value) (n : Nat) (xs : List Value) (hs : a.eval s = v) (hown : w.ownsRow base e size v n xs)
    (A : Option Addr) (m c : Nat) (news : List Value) (hx : a.eval x = .slice A m c) (hl : news.length = m * size) (hr : Rd w A news) (h1 : ∀ u ∈ news, u.oneCell' = true)
    (h63 : n + m ≤ maxLen) (hbytes : (n + m) * bytes ≤ 140737488355328) (hbase : base ≤ w.heap.size)
    (h : ∀ A' c' w', w'.ownsRow base e size (.slice A' (n + m) c') (n + m) (xs ++ news) → w.grownBy w' v.ownBlock → (ablk A' = v.ownBlock ∨ ablk A' = some w.heap.size) → K (a.put o.dst (.slice A' (n + m) c')) w') :
    if Region.wanted o (yielded ops a.tmps) = true then Oper.wp P o a w K Q else E := by
  have hw : Region.wanted o (yielded ops a.tmps) = true := by simp [Region.wanted, hgd]
  rw [if_pos hw]
  exact wp_append_rd w s x t ho base e i z size bytes ht hi hz hsize hby hzs hsz v n xs hs hown A m c news hx hl hr h1 h63 hbytes hbase h
end

/-- A pane's box: its five words. -/
def boxOf (n : Nd) : List Value := [.int .i64 n.p, .int .i64 n.x, .int .i64 n.y, .int .i64 n.a, .int .i64 n.b]
def boxes (l : List T) : List Value := l.flatMap fun t => boxOf t.n
theorem boxes_len (l : List T) : (boxes l).length = l.length * 5 := by
  induction l with
  | nil => rfl
  | cons a l ih => simp only [boxes, List.flatMap_cons, List.length_append] at ih ⊢; rw [ih]; simp [boxOf]; omega
theorem boxes_app (l r : List T) : boxes (l ++ r) = boxes l ++ boxes r := by simp [boxes]
theorem info30 : (Tryd.prog.info? 30).map (fun i => (i.zero, i.size, i.bytes)) = some (some (.agg #[.int .i64 0, .int .i64 0, .int .i64 0, .int .i64 0, .int .i64 0]), 5, 40) := by kernel_rfl
section
variable {ops : Array Oper} {rest : List Oper} {o : Oper} {a : Act} {Q : Exit → Act → World → Prop} {w : World}
/-- append at []api.Box. -/
theorem ap27 (hgd : o.guard = none) (s x : Operand) (ho : o.op = .call { callee := .builtin .append, args := #[s, x], argTypes := #[27, 27] })
    (base : Nat) (v : Value) (n : Nat) (xs : List Value) (hs : a.eval s = v) (hown : w.ownsRow base 30 5 v n xs)
    (A : Option Addr) (m c : Nat) (news : List Value) (hx : a.eval x = .slice A m c) (hl : news.length = m * 5) (hr : Rd w A news) (h1 : ∀ u ∈ news, u.oneCell' = true)
    (hb : n + m ≤ 1099511627776) (hbase : base ≤ w.heap.size)
    (h : ∀ A' c' w', w'.ownsRow base 30 5 (.slice A' (n + m) c') (n + m) (xs ++ news) → w.grownBy w' v.ownBlock → (ablk A' = v.ownBlock ∨ ablk A' = some w.heap.size) → wpList Tryd.prog ops Q rest (a.put o.dst (.slice A' (n + m) c')) w') : wpList Tryd.prog ops Q (o :: rest) a w := by
  obtain ⟨i0, hi0, hz0, hz1, hz2⟩ := info_parts info30
  exact wpList_append_rd w hgd s x 27 ho base 30 i0 _ 5 40 Tryd.underlying27 hi0 hz0 hz1 hz2 rfl (by omega) v n xs hs hown A m c news hx hl hr h1 (by unfold maxLen; omega) (by omega) hbase h
end
theorem Rd.newL (w : World) (xs : List Value) (e : TypeId) : Rd (w.alloc (.cells xs.toArray e)) (some ⟨w.heap.size, 0, none⟩) xs := fun _ => ⟨_, _, rfl, by simp, fun j u hj => by
  unfold World.cell?; rw [heap_alloc_new, Nat.zero_add]; simpa using hj⟩
theorem boxOf_one (n : Nd) : ∀ u ∈ boxOf n, u.oneCell' = true := by
  intro u hu
  simp only [boxOf, List.mem_cons, List.not_mem_nil, or_false] at hu
  rcases hu with rfl | rfl | rfl | rfl | rfl <;> rfl
set_option maxHeartbeats 1000000 in
set_option maxRecDepth 100000 in
theorem boxes_any (base tr : Nat) (t : T) (w : World) (hT : Tr base w tr t) (hl : t.leaves.length ≤ 100000) :
    Calls Tryd.prog 10 #[ptr tr] w fun e w' => ∃ A c, e = .returned (.slice A t.leaves.length c) ∧ w'.ownsRow w.heap.size 30 5 (.slice A t.leaves.length c) t.leaves.length (boxes t.leaves) ∧ w.grownBy w' none := by
  have CA := Lib.hid (all_any base tr t w hT hl)
  replace hT := Lib.hid hT
  obtain ⟨len, hln⟩ : ∃ len, len = t.leaves.length := ⟨_, rfl⟩
  rw [← hln] at CA hl
  rw [← hln]
  replace hln := Lib.hid hln
  unfold ptr at *
  go_enter Tryd.func10, Tryd.ntmps10
  go_wp2_with fail
  refine CA.out.mono ?_
  rintro e w1 ⟨A, c, rfl, hO, hG⟩
  have hR := own_Rd hO
  have hT1 := hT.out.grown hG
  replace hO := Lib.hid hO; replace hR := Lib.hid hR; replace hT1 := Lib.hid hT1; replace hG := Lib.hid hG
  clear CA
  go_wp2_with fail
  go_loopw [3, 9] (fun sv iv wr => ∃ (j : Nat) (A3 : Option Addr) (c3 : Nat), j ≤ len ∧ iv = .int .i64 j ∧ sv = .slice A3 j c3 ∧ Hid (wr.ownsRow w1.heap.size 30 5 (.slice A3 j c3) j (boxes (t.leaves.take j)) ∧ w1.grownBy wr none)) (fun _ iv _ => len - (intOf iv).toNat)
  case atStart => exact ⟨0, none, 0, Nat.zero_le _, rfl, rfl, Lib.hid ⟨World.ownsRow_nil _ _ _ _, World.grownBy.refl _ _⟩⟩
  case round =>
    obtain ⟨j, A3, c3, hj, rfl, rfl, hI⟩ := hrel
    by_cases hlt : j < len
    · obtain ⟨s, hs⟩ : ∃ s, t.leaves[j]? = some s := ⟨t.leaves[j]'(by rw [← hln.out]; exact hlt), List.getElem?_eq_getElem _⟩
      obtain ⟨b, off, rfl, _, hcell⟩ := hR.out.at_ (j := j) (u := ptr s.g) (by simp [ptrs, hs])
      have hc2 := hI.out.2.cell hcell (by simp)
      obtain ⟨up', hsT, _, hsb⟩ := mem_leaves t wr none (hT1.out.p.grown hI.out.2) s (List.mem_of_getElem? hs)
      have hsA : At wr up' s.n s.ks := by cases s; exact hsT.at_
      have q0 := hsA.c0; have q1 := hsA.c1; have q2 := hsA.c2; have q3 := hsA.c3; have q4 := hsA.c4
      have hsg : s.n.g = s.g := rfl
      have hsgT : s.g ∈ t.bl := hsb _ s.g_mem
      clear hsb
      rw [hsg] at q0 q1 q2 q3 q4
      have hsn : boxes (t.leaves.take (j + 1)) = boxes (t.leaves.take j) ++ boxOf s.n := by
        rw [take_succ' hs, boxes_app]; simp [boxes]
      replace hs := Lib.hid hs; replace hsA := Lib.hid hsA; replace hsT := Lib.hid hsT; replace hsn := Lib.hid hsn
      unfold ptr at hc2
      clear hcell hsg
      go_upto_region 5 with fail
      obtain ⟨i0, hi0, hz0, hz1, hz2⟩ := info_parts info30
      replace hi0 := Lib.hid hi0; replace hz0 := Lib.hid hz0; replace hz1 := Lib.hid hz1; replace hz2 := Lib.hid hz2
      have hO1 := hI.out.1
      have hsz := hI.out.2.size
      have hne : s.g ≠ wr.heap.size := by have := hsT.out.lt _ _ s.g (T.g_mem s); omega
      replace hO1 := Lib.hid hO1
      have OA := own_keep hO1.out ((g_drew (World.grownBy.refl wr none)).trans (World.grownBy_alloc wr.drew (.cells (boxOf s.n).toArray 30) none))
      have RA := Rd.newL wr.drew (boxOf s.n) 30
      have p1 : 0 < 5 := by omega
      have p2 : (boxOf s.n).length = 1 * 5 := rfl
      have p3 : j + 1 ≤ maxLen := by unfold maxLen; omega
      have p4 : (j + 1) * 40 ≤ 140737488355328 := by omega
      have p5 : w1.heap.size ≤ (wr.drew.alloc (.cells (boxOf s.n).toArray 30)).heap.size := by simp; omega
      have hrow : (Value.slice A3 j c3).ownBlock ≠ some s.g := by
        intro e
        have h1 := (hO1.out.lt _ e).1
        have h2 := (hT1.out.p.lt _ _ s.g hsgT)
        omega
      replace OA := Lib.hid OA; replace RA := Lib.hid RA; replace hrow := Lib.hid hrow
      go_region_held3 (fun w' => w'.cell? ⟨s.g, 0, none⟩ = some (.int .i64 s.n.p) ∧ w'.cell? ⟨s.g, 1, none⟩ = some (.int .i64 s.n.x) ∧ w'.cell? ⟨s.g, 2, none⟩ = some (.int .i64 s.n.y) ∧ w'.cell? ⟨s.g, 3, none⟩ = some (.int .i64 s.n.a) ∧ w'.cell? ⟨s.g, 4, none⟩ = some (.int .i64 s.n.b))
        (first | go_keep | (go_split_ands; refine ⟨?_, ?_, ?_, ?_, ?_⟩ <;> (refine G5.cell ?_ (fun e => hrow.out e.symm) <;> first | assumption | simp)) | fail)
        ((first
          | (refine step_append_rd (by rfl) (.tmp 13) (.tmp 39) 27 (by rfl) w1.heap.size 30 i0 _ 5 40 Tryd.underlying27 hi0.out hz0.out hz1.out hz2.out rfl p1 (.slice A3 j c3) j _ (by rfl) OA.out (some ⟨wr.heap.size, 0, none⟩) 1 1 (boxOf s.n) (by rfl) p2 RA.out (boxOf_one _) p3 p4 p5 ?_; intro A5 c5 w5 O5 G5 hh5)
          | fail))
      replace O5 := Lib.hid O5; replace G5 := Lib.hid G5
      clear q0 q1 q2 q3 q4
      go_wp2_with fail
      refine ⟨⟨j + 1, A5, c5, by omega, by go_num, rfl, Lib.hid ⟨?_, ?_⟩⟩, by simp [intOf]; omega⟩
      · rw [hsn.out]; exact O5.out
      · exact g_own (hI.out.2.trans ((g_drew (World.grownBy.refl wr none)).trans (World.grownBy_alloc wr.drew _ none))) OA.out (Nat.le_refl _) G5.out
    · have hje : j = len := by omega
      subst hje
      go_wp2_with fail
      go_ret
      have := hI.out.1
      rw [List.take_of_length_le (by rw [hln.out]; exact Nat.le_refl _)] at this
      exact ⟨A3, c3, rfl, own_le this hG.out.size, hG.out.trans hI.out.2⟩
end Go.Proofs.YtcklmkjlbpjojaaDoor
