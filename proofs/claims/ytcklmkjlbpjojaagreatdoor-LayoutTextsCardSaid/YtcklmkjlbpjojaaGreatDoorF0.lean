/- Layout: Print, Boxes. Layout: a tree without its blocks: what it is written as, what it fills, its panes. No program in sight. -/
import Derived.Test.YtcklmkjlbpjojaaGreatDoorC6
import Derived.Test.YtcklmkjlbpjojaaGreatDoorC8
import Derived.BigRegion
import Derived.Deep.QuietTactic
import Derived.BigQuiet
import Derived.Deep.RegionLaw
import Derived.Test.YtcklmkjlbpjojaaGreatDoorD6
namespace Go.Proofs.YtcklmkjlbpjojaaGreatDoor
open Go.RowKit
set_option linter.unusedSimpArgs false
set_option linter.unusedVariables false

def T.print (t : T) : List UInt8 := fourB (sumB t.body) ++ [44] ++ t.body
theorem fourB_len (n : Nat) : (fourB n).length ≤ 7 := by
  unfold fourB
  rw [List.length_drop, List.length_append, hex_len]
  have := hexlen_le n
  simp; omega
theorem Deb.grown {w w' : World} (h : Deb w) (hg : w.grownBy w' none) : Deb w' := hg.cell h (by simp)
set_option maxHeartbeats 1000000 in
theorem print_any (base tr : Nat) (t : T) (w : World) (hT : Tr base w tr t) (hR : t.rg) (hW : t.w01) (hTab : Tab w) (hD : Deb w) (hL : t.body.length ≤ 1000000) :
    Calls Tryz.prog 18 #[ptr tr] w fun e w' => e = .returned (.string (st t.print)) ∧ w.grownBy w' none := by
  have c0 := hT.c0
  have CB := Lib.hid (body_any t none w hT.p hR hW hTab hL)
  have CS := Lib.hid (fun W => sum_any t.body W (by omega))
  have hlt := sumB_lt t.body
  have CF := Lib.hid (fun W (hg : w.grownBy W none) => four_any (sumB t.body) W (hD.grown hg) hlt)
  have h4 := fourB_len (sumB t.body)
  obtain ⟨s1, s2, k1, k2⟩ : ∃ s1 s2, Adds (st (fourB (sumB t.body))) ⟨#[44]⟩ s1 ∧ (Adds s1 (st t.body) s2 ∧ s2 = st t.print) := by
    exact ⟨_, _, adds_st _ [44] (by simp; omega), adds_st _ _ (by simp; omega), rfl⟩
  obtain ⟨k2, k3⟩ := k2
  obtain ⟨sb, hsb⟩ : ∃ s, s = st t.body := ⟨_, rfl⟩
  obtain ⟨sf, hsf⟩ : ∃ s, s = st (fourB (sumB t.body)) := ⟨_, rfl⟩
  rw [← hsb] at k2 CB CS
  rw [← hsf] at k1 CF
  generalize sumB t.body = n at *
  unfold Adds at k1 k2
  replace hT := Lib.hid hT; replace k3 := Lib.hid k3; replace hsb := Lib.hid hsb; replace hsf := Lib.hid hsf; replace hTab := Lib.hid hTab
  unfold ptr at *
  go_enter Tryz.func18, Tryz.ntmps18
  go_wp2_with fail
  refine CB.out.mono ?_
  rintro e w1 ⟨rfl, g1⟩
  go_wp2_with fail
  refine (CS.out _).mono ?_
  rintro e w2 ⟨rfl, rfl⟩
  go_wp2_with fail
  refine (CF.out _ g1).mono ?_
  rintro e w3 ⟨rfl, g3⟩
  go_wp2_with fail
  go_ret
  exact ⟨ret_str k3.out, g1.trans g3⟩

section
variable {P : Program} {w : World}
theorem step_append_rd {ops : Array Oper} {o : Oper} {a : Act} {K : Act → World → Prop} {Q : Exit → Act → World → Prop} {E : Prop} (hgd : o.guard = none) (s x : Operand) (t : TypeId)
    (ho : o.op = .call { callee := .builtin .append, args := #[s, x], argTypes := #[t, t] })
    (base : Nat) (e : TypeId) (i : TypeInfo) (z : Value) (size bytes : Nat) (ht : P.underlying t = some (.slice e)) (hi : P.info? e = some i) (hz : i.zero = some z)
    (hsize : i.size = size) (hby : i.bytes = bytes) (hzs : z.cells.size = size) (hsz : 0 < size)
    (v : Value) (n : Nat) (xs : List Value) (hs : a.eval s = v) (hown : w.ownsRow base e size v n xs)
    (A : Option Addr) (m c : Nat) (news : List Value) (hx : a.eval x = .slice A m c) (hl : news.length = m * size) (hr : Rd w A news) (h1 : ∀ u ∈ news, u.oneCell' = true)
    (h63 : n + m ≤ maxLen) (hbytes : (n + m) * bytes ≤ 140737488355328) (hbase : base ≤ w.heap.size)
    (h : ∀ A' c' w', w'.ownsRow base e size (.slice A' (n + m) c') (n + m) (xs ++ news) → w.grownBy w' v.ownBlock → (ablk A' = v.ownBlock ∨ ablk A' = some w.heap.size) → K (a.put o.dst (.slice A' (n + m) c')) w') :
    if Region.wanted o (yielded ops a.tmps) = true then Oper.wp P o a w K Q else E := by
  have hw : Region.wanted o (yielded ops a.tmps) = true := by simp [Region.wanted, hgd]
  rw [if_pos hw]
  exact wp_append_rd w s x t ho base e i z size bytes ht hi hz hsize hby hzs hsz v n xs hs hown A m c news hx hl hr h1 h63 hbytes hbase h
end

/-- A pane's box: its five words. -/
def boxOf (n : Nd) : List Value := [.int .i64 n.p, .int .i64 n.x, .int .i64 n.y, .int .i64 n.a, .int .i64 n.b]
def boxes (l : List T) : List Value := l.flatMap fun t => boxOf t.n
theorem boxes_len (l : List T) : (boxes l).length = l.length * 5 := by
  induction l with
  | nil => rfl
  | cons a l ih => simp only [boxes, List.flatMap_cons, List.length_append] at ih ⊢; rw [ih]; simp [boxOf]; omega
theorem boxes_app (l r : List T) : boxes (l ++ r) = boxes l ++ boxes r := by simp [boxes]
theorem info30 : (Tryz.prog.info? 50).map (fun i => (i.zero, i.size, i.bytes)) = some (some (.agg #[.int .i64 0, .int .i64 0, .int .i64 0, .int .i64 0, .int .i64 0]), 5, 40) := by kernel_rfl
section
variable {ops : Array Oper} {rest : List Oper} {o : Oper} {a : Act} {Q : Exit → Act → World → Prop} {w : World}
/-- append at []api.Box. -/
theorem ap27 (hgd : o.guard = none) (s x : Operand) (ho : o.op = .call { callee := .builtin .append, args := #[s, x], argTypes := #[45, 45] })
    (base : Nat) (v : Value) (n : Nat) (xs : List Value) (hs : a.eval s = v) (hown : w.ownsRow base 50 5 v n xs)
    (A : Option Addr) (m c : Nat) (news : List Value) (hx : a.eval x = .slice A m c) (hl : news.length = m * 5) (hr : Rd w A news) (h1 : ∀ u ∈ news, u.oneCell' = true)
    (hb : n + m ≤ 1099511627776) (hbase : base ≤ w.heap.size)
    (h : ∀ A' c' w', w'.ownsRow base 50 5 (.slice A' (n + m) c') (n + m) (xs ++ news) → w.grownBy w' v.ownBlock → (ablk A' = v.ownBlock ∨ ablk A' = some w.heap.size) → wpList Tryz.prog ops Q rest (a.put o.dst (.slice A' (n + m) c')) w') : wpList Tryz.prog ops Q (o :: rest) a w := by
  obtain ⟨i0, hi0, hz0, hz1, hz2⟩ := info_parts info30
  exact wpList_append_rd w hgd s x 45 ho base 50 i0 _ 5 40 Tryz.underlying45 hi0 hz0 hz1 hz2 rfl (by omega) v n xs hs hown A m c news hx hl hr h1 (by unfold maxLen; omega) (by omega) hbase h
end
theorem Rd.newL (w : World) (xs : List Value) (e : TypeId) : Rd (w.alloc (.cells xs.toArray e)) (some ⟨w.heap.size, 0, none⟩) xs := fun _ => ⟨_, _, rfl, by simp, fun j u hj => by
  unfold World.cell?; rw [heap_alloc_new, Nat.zero_add]; simpa using hj⟩
theorem boxOf_one (n : Nd) : ∀ u ∈ boxOf n, u.oneCell' = true := by
  intro u hu
  simp only [boxOf, List.mem_cons, List.not_mem_nil, or_false] at hu
  rcases hu with rfl | rfl | rfl | rfl | rfl <;> rfl
set_option maxHeartbeats 1000000 in
set_option maxRecDepth 100000 in
theorem boxes_any (base tr : Nat) (t : T) (w : World) (hT : Tr base w tr t) (hl : t.leaves.length ≤ 100000) :
    Calls Tryz.prog 20 #[ptr tr] w fun e w' => ∃ A c, e = .returned (.slice A t.leaves.length c) ∧ w'.ownsRow w.heap.size 50 5 (.slice A t.leaves.length c) t.leaves.length (boxes t.leaves) ∧ w.grownBy w' none := by
  have CA := Lib.hid (all_any base tr t w hT hl)
  replace hT := Lib.hid hT
  obtain ⟨len, hln⟩ : ∃ len, len = t.leaves.length := ⟨_, rfl⟩
  rw [← hln] at CA hl
  rw [← hln]
  replace hln := Lib.hid hln
  unfold ptr at *
  go_enter Tryz.func20, Tryz.ntmps20
  go_wp2_with fail
  refine CA.out.mono ?_
  rintro e w1 ⟨A, c, rfl, hO, hG⟩
  have hR := own_Rd hO
  have hT1 := hT.out.grown hG
  replace hO := Lib.hid hO; replace hR := Lib.hid hR; replace hT1 := Lib.hid hT1; replace hG := Lib.hid hG
  clear CA
  go_wp2_with fail
  go_loopw [3, 9] (fun sv iv wr => ∃ (j : Nat) (A3 : Option Addr) (c3 : Nat), j ≤ len ∧ iv = .int .i64 j ∧ sv = .slice A3 j c3 ∧ Hid (wr.ownsRow w1.heap.size 50 5 (.slice A3 j c3) j (boxes (t.leaves.take j)) ∧ w1.grownBy wr none)) (fun _ iv _ => len - (intOf iv).toNat)
  case atStart => exact ⟨0, none, 0, Nat.zero_le _, rfl, rfl, Lib.hid ⟨World.ownsRow_nil _ _ _ _, World.grownBy.refl _ _⟩⟩
  case round =>
    obtain ⟨j, A3, c3, hj, rfl, rfl, hI⟩ := hrel
    by_cases hlt : j < len
    · obtain ⟨s, hs⟩ : ∃ s, t.leaves[j]? = some s := ⟨t.leaves[j]'(by rw [← hln.out]; exact hlt), List.getElem?_eq_getElem _⟩
      obtain ⟨b, off, rfl, _, hcell⟩ := hR.out.at_ (j := j) (u := ptr s.g) (by simp [ptrs, hs])
      have hc2 := hI.out.2.cell hcell (by simp)
      obtain ⟨up', hsT, _, hsb⟩ := mem_leaves t wr none (hT1.out.p.grown hI.out.2) s (List.mem_of_getElem? hs)
      have hsA : At wr up' s.n s.ks := by cases s; exact hsT.at_
      have q0 := hsA.c0; have q1 := hsA.c1; have q2 := hsA.c2; have q3 := hsA.c3; have q4 := hsA.c4
      have hsg : s.n.g = s.g := rfl
      have hsgT : s.g ∈ t.bl := hsb _ s.g_mem
      clear hsb
      rw [hsg] at q0 q1 q2 q3 q4
      have hsn : boxes (t.leaves.take (j + 1)) = boxes (t.leaves.take j) ++ boxOf s.n := by
        rw [take_succ' hs, boxes_app]; simp [boxes]
      replace hs := Lib.hid hs; replace hsA := Lib.hid hsA; replace hsT := Lib.hid hsT; replace hsn := Lib.hid hsn
      unfold ptr at hc2
      clear hcell hsg
      go_upto_region 5 with fail
      obtain ⟨i0, hi0, hz0, hz1, hz2⟩ := info_parts info30
      replace hi0 := Lib.hid hi0; replace hz0 := Lib.hid hz0; replace hz1 := Lib.hid hz1; replace hz2 := Lib.hid hz2
      have hO1 := hI.out.1
      have hsz := hI.out.2.size
      have hne : s.g ≠ wr.heap.size := by have := hsT.out.lt _ _ s.g (T.g_mem s); omega
      replace hO1 := Lib.hid hO1
      have OA := own_keep hO1.out ((g_drew (World.grownBy.refl wr none)).trans (World.grownBy_alloc wr.drew (.cells (boxOf s.n).toArray 50) none))
      have RA := Rd.newL wr.drew (boxOf s.n) 50
      have p1 : 0 < 5 := by omega
      have p2 : (boxOf s.n).length = 1 * 5 := rfl
      have p3 : j + 1 ≤ maxLen := by unfold maxLen; omega
      have p4 : (j + 1) * 40 ≤ 140737488355328 := by omega
      have p5 : w1.heap.size ≤ (wr.drew.alloc (.cells (boxOf s.n).toArray 50)).heap.size := by simp; omega
      have hrow : (Value.slice A3 j c3).ownBlock ≠ some s.g := by
        intro e
        have h1 := (hO1.out.lt _ e).1
        have h2 := (hT1.out.p.lt _ _ s.g hsgT)
        omega
      replace OA := Lib.hid OA; replace RA := Lib.hid RA; replace hrow := Lib.hid hrow
      go_region_held3 (fun w' => w'.cell? ⟨s.g, 0, none⟩ = some (.int .i64 s.n.p) ∧ w'.cell? ⟨s.g, 1, none⟩ = some (.int .i64 s.n.x) ∧ w'.cell? ⟨s.g, 2, none⟩ = some (.int .i64 s.n.y) ∧ w'.cell? ⟨s.g, 3, none⟩ = some (.int .i64 s.n.a) ∧ w'.cell? ⟨s.g, 4, none⟩ = some (.int .i64 s.n.b))
        (first | go_keep | (go_split_ands; refine ⟨?_, ?_, ?_, ?_, ?_⟩ <;> (refine G5.cell ?_ (fun e => hrow.out e.symm) <;> first | assumption | simp)) | fail)
        ((first
          | (refine step_append_rd (by rfl) (.tmp 13) (.tmp 39) 45 (by rfl) w1.heap.size 50 i0 _ 5 40 Tryz.underlying45 hi0.out hz0.out hz1.out hz2.out rfl p1 (.slice A3 j c3) j _ (by rfl) OA.out (some ⟨wr.heap.size, 0, none⟩) 1 1 (boxOf s.n) (by rfl) p2 RA.out (boxOf_one _) p3 p4 p5 ?_; intro A5 c5 w5 O5 G5 hh5)
          | fail))
      replace O5 := Lib.hid O5; replace G5 := Lib.hid G5
      clear q0 q1 q2 q3 q4
      go_wp2_with fail
      refine ⟨⟨j + 1, A5, c5, by omega, by go_num, rfl, Lib.hid ⟨?_, ?_⟩⟩, by simp [intOf]; omega⟩
      · rw [hsn.out]; exact O5.out
      · exact g_own (hI.out.2.trans ((g_drew (World.grownBy.refl wr none)).trans (World.grownBy_alloc wr.drew _ none))) OA.out (Nat.le_refl _) G5.out
    · have hje : j = len := by omega
      subst hje
      go_wp2_with fail
      go_ret
      have := hI.out.1
      rw [List.take_of_length_le (by rw [hln.out]; exact Nat.le_refl _)] at this
      exact ⟨A3, c3, rfl, own_le this hG.out.size, hG.out.trans hI.out.2⟩
end Go.Proofs.YtcklmkjlbpjojaaGreatDoor
namespace Go.Proofs.YtcklmkjlbpjojaaGreatDoor
open Go.RowKit
set_option linter.unusedSimpArgs false
set_option linter.unusedVariables false

inductive E where
  | mk (p a b way : Int) (ks : List E)
def E.p : E → Int | .mk p _ _ _ _ => p
def E.a : E → Int | .mk _ a _ _ _ => a
def E.b : E → Int | .mk _ _ b _ _ => b
def E.way : E → Int | .mk _ _ _ w _ => w
def E.ks : E → List E | .mk _ _ _ _ ks => ks
theorem E.ind {P : E → Prop} (h : ∀ p a b way ks, (∀ k ∈ ks, P k) → P (.mk p a b way ks)) (t : E) : P t :=
  E.rec (motive_1 := P) (motive_2 := fun ks => ∀ k ∈ ks, P k) (fun p a b way ks ih => h p a b way ks ih) (fun _ hk => by cases hk)
    (fun k ks h1 h2 j hj => by rcases List.mem_cons.1 hj with rfl | hj; exact h1; exact h2 j hj) t
mutual
/-- A tree, its blocks and places apart. -/
def T.er : T → E
  | .mk n ks => .mk n.p n.a n.b n.way (erL ks)
def erL : List T → List E
  | [] => []
  | k :: ks => k.er :: erL ks
end
theorem T.er_mk (n : Nd) (ks : List T) : (T.mk n ks).er = .mk n.p n.a n.b n.way (erL ks) := by rw [T.er]
theorem erL_nil : erL [] = [] := by rw [erL]
theorem erL_cons (k : T) (ks : List T) : erL (k :: ks) = k.er :: erL ks := by rw [erL]
theorem erL_map : ∀ (ks : List T), erL ks = ks.map T.er
  | [] => by rw [erL_nil]; rfl
  | k :: ks => by rw [erL_cons, erL_map ks]; rfl
theorem erL_len (ks : List T) : (erL ks).length = ks.length := by rw [erL_map]; simp
theorem T.er_a (t : T) : t.er.a = t.n.a := by cases t; rw [T.er_mk]; rfl
theorem T.er_b (t : T) : t.er.b = t.n.b := by cases t; rw [T.er_mk]; rfl
theorem T.er_p (t : T) : t.er.p = t.n.p := by cases t; rw [T.er_mk]; rfl
theorem T.er_way (t : T) : t.er.way = t.n.way := by cases t; rw [T.er_mk]; rfl
theorem placeL_er (way : Int) (h : ∀ k : T, ∀ x y, (k.place x y).er = k.er) : ∀ (ks : List T) (x y : Int), erL (placeL way ks x y) = erL ks
  | [], x, y => by rw [placeL_nil]
  | k :: ks, x, y => by rw [placeL_cons, erL_cons, erL_cons, h, placeL_er way h ks]
theorem T.place_er (t : T) : ∀ x y, (t.place x y).er = t.er := by
  induction t using T.ind with
  | h n ks ih =>
    intro x y
    rw [T.place_mk, T.er_mk, T.er_mk]
    have : ∀ (l : List T) (x y : Int), (∀ k ∈ l, ∀ x y, (k.place x y).er = k.er) → erL (placeL n.way l x y) = erL l := by
      intro l
      induction l with
      | nil => intro x y _; rw [placeL_nil]
      | cons k l ih2 => intro x y h; rw [placeL_cons, erL_cons, erL_cons, h k (by simp), ih2 _ _ fun k hk => h k (by simp [hk])]
    rw [this ks x y ih]
theorem er_plug {t t' : T} (h : t.er = t'.er) : ∀ c : List Fr, (plug c t).er = (plug c t').er := by
  intro c
  induction c generalizing t t' with
  | nil => exact h
  | cons f c ih =>
    rw [plug, plug]
    apply ih
    rw [T.er_mk, T.er_mk, erL_map, erL_map]
    simp [h]

/-- The next place, behind a tree. -/
def nxE (way a x : Int) : Int := if way = 0 then wr64 (x + wr64 (a + 1)) else x
def nyE (way b y : Int) : Int := if way = 0 then y else wr64 (y + wr64 (b + 1))
def hdB (a b x y : Int) : List UInt8 := Lib.itoa a ++ [120] ++ Lib.itoa b ++ [44] ++ Lib.itoa x ++ [44] ++ Lib.itoa y
mutual
/-- What a tree at a place is written as. -/
def E.body : E → Int → Int → List UInt8
  | .mk p a b way ks, x, y => if ks.length = 0 then hdB a b x y ++ [44] ++ Lib.itoa p else hdB a b x y ++ [if way = 0 then 123 else 91] ++ Lib.join (bodyE way ks x y) [44] ++ [if way = 0 then 125 else 93]
def bodyE : Int → List E → Int → Int → List (List UInt8)
  | _, [], _, _ => []
  | way, k :: ks, x, y => k.body x y :: bodyE way ks (nxE way k.a x) (nyE way k.b y)
end
theorem E.body_mk (p a b way : Int) (ks : List E) (x y : Int) : (E.mk p a b way ks).body x y = if ks.length = 0 then hdB a b x y ++ [44] ++ Lib.itoa p else hdB a b x y ++ [if way = 0 then 123 else 91] ++ Lib.join (bodyE way ks x y) [44] ++ [if way = 0 then 125 else 93] := by rw [E.body]
theorem bodyE_nil (way x y : Int) : bodyE way [] x y = [] := by rw [bodyE]
theorem bodyE_cons (way : Int) (k : E) (ks : List E) (x y : Int) : bodyE way (k :: ks) x y = k.body x y :: bodyE way ks (nxE way k.a x) (nyE way k.b y) := by rw [bodyE]
theorem T.place_body (t : T) : ∀ x y, (t.place x y).body = t.er.body x y := by
  induction t using T.ind with
  | h n ks ih =>
    intro x y
    rw [T.place_mk, T.er_mk, T.body_mk, E.body_mk, placeL_len, erL_len]
    have : ∀ (l : List T) (x y : Int), (∀ k ∈ l, ∀ x y, (k.place x y).body = k.er.body x y) → bodyL (placeL n.way l x y) = bodyE n.way (erL l) x y := by
      intro l
      induction l with
      | nil => intro x y _; rw [placeL_nil, erL_nil, bodyL_nil, bodyE_nil]
      | cons k l ih2 =>
        intro x y h
        rw [placeL_cons, erL_cons, bodyL_cons, bodyE_cons, h k (by simp), ih2 _ _ fun k hk => h k (by simp [hk]), T.er_a, T.er_b]
        rfl
    rw [this ks x y ih]
    rfl
/-- What a tree is written as, with its sum. -/
def E.print (e : E) : List UInt8 := fourB (sumB (e.body 0 0)) ++ [44] ++ e.body 0 0
theorem T.place_print (t : T) : (t.place 0 0).print = t.er.print := by unfold T.print E.print; rw [T.place_body]

mutual
/-- The panes, in order. -/
def E.ps : E → List Int
  | .mk p _ _ _ ks => (if ks.length = 0 then [p] else []) ++ psL ks
def psL : List E → List Int
  | [] => []
  | k :: ks => k.ps ++ psL ks
end
theorem E.ps_mk (p a b way : Int) (ks : List E) : (E.mk p a b way ks).ps = (if ks.length = 0 then [p] else []) ++ psL ks := by rw [E.ps]
theorem psL_nil : psL [] = [] := by rw [psL]
theorem psL_cons (k : E) (ks : List E) : psL (k :: ks) = k.ps ++ psL ks := by rw [psL]
theorem T.leaves_ps (t : T) : t.leaves.map (fun s => s.n.p) = t.er.ps := by
  induction t using T.ind with
  | h n ks ih =>
    rw [T.leaves_mk, T.er_mk, E.ps_mk, erL_len, List.map_append]
    have : ∀ l : List T, (∀ k ∈ l, k.leaves.map (fun s => s.n.p) = k.er.ps) → (leavesL l).map (fun s => s.n.p) = psL (erL l) := by
      intro l
      induction l with
      | nil => intro _; rw [leavesL_nil, erL_nil, psL_nil]; rfl
      | cons k l ih2 => intro h; rw [leavesL_cons, erL_cons, psL_cons, List.map_append, h k (by simp), ih2 fun k hk => h k (by simp [hk])]
    rw [this ks ih]
    split <;> simp [T.n]
theorem leaves_ctx (c : List Fr) : ∃ A B, ∀ t : T, (plug c t).leaves = A ++ t.leaves ++ B := by
  induction c with
  | nil => exact ⟨[], [], fun t => by simp [plug]⟩
  | cons f c ih =>
    obtain ⟨A, B, h⟩ := ih
    refine ⟨A ++ leavesL f.L, leavesL f.R ++ B, fun t => ?_⟩
    rw [plug, h, T.leaves_mk, if_neg (by simp), leavesL_app, leavesL_cons]
    simp
theorem leaves_ne (t : T) : t.leaves ≠ [] := by
  induction t using T.ind with
  | h n ks ih =>
    rw [T.leaves_mk]
    rcases ks with _ | ⟨k, ks⟩
    · simp
    · rw [leavesL_cons]
      have := ih k (by simp)
      simp [this]

/-- What a split's kids fill. -/
def fills (a b way : Int) (ks : List E) : Prop :=
  (way = 0 ∧ (∀ k ∈ ks, k.b = b) ∧ (ks.map fun k => k.a + 1).sum = a + 1) ∨ (way = 1 ∧ (∀ k ∈ ks, k.a = a) ∧ (ks.map fun k => k.b + 1).sum = b + 1)
/-- A tree whose splits are filled. -/
inductive E.ok : E → Prop
  | leaf {p a b : Int} (hp : 1 ≤ p ∧ p ≤ 999) (ha : 1 ≤ a) (hb : 1 ≤ b) : E.ok (.mk p a b 0 [])
  | node {a b way : Int} {ks : List E} (ha : 1 ≤ a) (hb : 1 ≤ b) (hl : 2 ≤ ks.length) (hf : fills a b way ks) (hk : ∀ k ∈ ks, k.ok) : E.ok (.mk 0 a b way ks)
theorem E.ok.ge {e : E} (h : e.ok) : 1 ≤ e.a ∧ 1 ≤ e.b := by cases h with | leaf _ h1 h2 => exact ⟨h1, h2⟩ | node h1 h2 => exact ⟨h1, h2⟩
theorem E.ok.inv {p a b way : Int} {ks : List E} (h : (E.mk p a b way ks).ok) : (ks = [] ∧ way = 0 ∧ (1 ≤ p ∧ p ≤ 999) ∧ 1 ≤ a ∧ 1 ≤ b) ∨ (p = 0 ∧ 1 ≤ a ∧ 1 ≤ b ∧ 2 ≤ ks.length ∧ fills a b way ks ∧ ∀ k ∈ ks, k.ok) := by
  cases h with
  | leaf h1 h2 h3 => exact .inl ⟨rfl, rfl, h1, h2, h3⟩
  | node h1 h2 h3 h4 h5 => exact .inr ⟨rfl, h1, h2, h3, h4, h5⟩
theorem sum_ge (f : E → Int) : ∀ (ks : List E), (∀ k ∈ ks, 0 ≤ f k) → 0 ≤ (ks.map f).sum ∧ ∀ k ∈ ks, f k ≤ (ks.map f).sum
  | [], _ => by simp
  | k :: ks, h => by
    obtain ⟨h1, h2⟩ := sum_ge f ks fun j hj => h j (by simp [hj])
    have h3 := h k (by simp)
    rw [List.map_cons, List.sum_cons]
    refine ⟨by omega, fun j hj => ?_⟩
    rcases List.mem_cons.1 hj with rfl | hj
    · omega
    · have := h2 j hj; omega
theorem E.ok.kid {p a b way : Int} {ks : List E} (h : (E.mk p a b way ks).ok) {k : E} (hk : k ∈ ks) : k.ok ∧ k.a ≤ a ∧ k.b ≤ b := by
  cases h with
  | leaf => cases hk
  | node ha hb hl hf hks =>
    refine ⟨hks k hk, ?_⟩
    rcases hf with ⟨_, h1, h2⟩ | ⟨_, h1, h2⟩
    · have := (sum_ge (fun k => k.a + 1) ks (fun j hj => by have := (hks j hj).ge; omega)).2 k hk
      have h3 := h1 k hk
      omega
    · have := (sum_ge (fun k => k.b + 1) ks (fun j hj => by have := (hks j hj).ge; omega)).2 k hk
      have h3 := h1 k hk
      omega
/-- All nodes of a filled tree are of its size at most. -/
theorem nds_ok (t : T) : t.er.ok → ∀ m ∈ t.nds, 0 ≤ m.p ∧ m.p ≤ 999 ∧ 1 ≤ m.a ∧ m.a ≤ t.n.a ∧ 1 ≤ m.b ∧ m.b ≤ t.n.b ∧ (m.way = 0 ∨ m.way = 1) := by
  induction t using T.ind with
  | h n ks ih =>
    intro h m hm
    rw [T.nds_mk] at hm
    rw [T.er_mk] at h
    rcases List.mem_cons.1 hm with rfl | hm
    · have hg := h.ge
      have hw : m.way = 0 ∨ m.way = 1 := by
        rcases h.inv with ⟨_, h, _⟩ | ⟨_, _, _, _, hf, _⟩
        · exact .inl h
        · rcases hf with ⟨h, _⟩ | ⟨h, _⟩ <;> simp [h]
      have hp : 0 ≤ m.p ∧ m.p ≤ 999 := by
        rcases h.inv with ⟨_, _, hp, _⟩ | ⟨hp, _⟩ <;> omega
      exact ⟨hp.1, hp.2, hg.1, Int.le_refl _, hg.2, Int.le_refl _, hw⟩
    · obtain ⟨k, hk, hm⟩ := mem_ndsL.1 hm
      have hke : k.er ∈ erL ks := by rw [erL_map]; exact List.mem_map_of_mem hk
      obtain ⟨h1, h2, h3⟩ := h.kid hke
      have := ih k hk h1 m hm
      rw [T.er_a] at h2; rw [T.er_b] at h3
      refine ⟨this.1, this.2.1, this.2.2.1, ?_, this.2.2.2.2.1, ?_, this.2.2.2.2.2.2⟩
      · show m.a ≤ n.a; omega
      · show m.b ≤ n.b; omega
theorem ok_w01 {t : T} (h : t.er.ok) : t.w01 := fun m hm => (nds_ok t h m hm).2.2.2.2.2.2
theorem fills_swap {a b way : Int} {L R : List E} {e e' : E} (h : fills a b way (L ++ e :: R)) (ha : e'.a = e.a) (hb : e'.b = e.b) : fills a b way (L ++ e' :: R) := by
  rcases h with ⟨h0, h1, h2⟩ | ⟨h0, h1, h2⟩
  · refine .inl ⟨h0, fun k hk => ?_, ?_⟩
    · simp only [List.mem_append, List.mem_cons] at hk
      rcases hk with hk | rfl | hk
      · exact h1 k (by simp [hk])
      · rw [hb]; exact h1 e (by simp)
      · exact h1 k (by simp [hk])
    · simpa [ha] using h2
  · refine .inr ⟨h0, fun k hk => ?_, ?_⟩
    · simp only [List.mem_append, List.mem_cons] at hk
      rcases hk with hk | rfl | hk
      · exact h1 k (by simp [hk])
      · rw [ha]; exact h1 e (by simp)
      · exact h1 k (by simp [hk])
    · simpa [hb] using h2
theorem ok_plug : ∀ (c : List Fr) (t t' : T), (plug c t).er.ok → t.er.ok ∧ (t'.er.ok → t'.n.a = t.n.a → t'.n.b = t.n.b → (plug c t').er.ok ∧ (plug c t').n.a = (plug c t).n.a ∧ (plug c t').n.b = (plug c t).n.b)
  | [], t, t', h => ⟨h, fun h1 h2 h3 => ⟨h1, h2, h3⟩⟩
  | f :: c, t, t', h => by
    obtain ⟨h1, h2⟩ := ok_plug c (.mk f.n (f.L ++ t :: f.R)) (.mk f.n (f.L ++ t' :: f.R)) h
    rw [T.er_mk, erL_map] at h1
    have h3 := (h1.kid (k := t.er) (by simp)).1
    refine ⟨h3, fun h4 h5 h6 => ?_⟩
    refine h2 ?_ rfl rfl
    rw [T.er_mk, erL_map]
    simp only [List.map_append, List.map_cons] at h1 ⊢
    rcases h1.inv with ⟨h, _⟩ | ⟨hp, ha, hb, hl, hf, hk⟩
    · simp at h
    · rw [hp]
      refine .node ha hb (by simpa using hl) (fills_swap hf (by rw [T.er_a, T.er_a, h5]) (by rw [T.er_b, T.er_b, h6])) fun k hk' => ?_
      simp only [List.mem_append, List.mem_cons] at hk'
      rcases hk' with h | rfl | h
      · exact hk k (by simp [h])
      · exact h4
      · exact hk k (by simp [h])
end Go.Proofs.YtcklmkjlbpjojaaGreatDoor
