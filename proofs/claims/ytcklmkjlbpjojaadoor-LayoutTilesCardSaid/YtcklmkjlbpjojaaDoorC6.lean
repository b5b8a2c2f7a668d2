/- Layout: what a tree is written as: body. -/
import Derived.Test.YtcklmkjlbpjojaaDoorC5
import Derived.Test.YtcklmkjlbpjojaaDoorShelf
import Derived.Deep.RegionHeld3
namespace Go.Proofs.YtcklmkjlbpjojaaDoor
open Go.RowKit
set_option linter.unusedSimpArgs false
set_option linter.unusedVariables false

abbrev Tab (w : World) : Prop := Lib.TabIs Tryd.prog w "internal/strconv.uint64pow10" .u64 Lib.pow10Tab
theorem Tab.grown {w w' : World} (h : Tab w) (hg : w.grownBy w' none) : Tab w' := by
  unfold Tab Lib.TabIs World.var? at *
  cases hn : Tryd.prog.globalNamed "internal/strconv.uint64pow10" with
  | none => simp [hn] at h
  | some g =>
    simp only [hn, Option.bind_some] at h ⊢
    have hlt : g < w.heap.size := by
      rcases Nat.lt_or_ge g w.heap.size with h' | h'
      · exact h'
      · rw [Array.getElem?_eq_none h'] at h; simp at h
    rw [hg.block g hlt (by simp)]
    exact h
theorem g_grow (w : World) (k : Nat) (os : Array Obj) : w.grownBy (Sort.grow (w.drewN k) os) none :=
  ⟨rfl, rfl, rfl, by show w.heap.size ≤ (w.heap ++ os).size; rw [Array.size_append]; omega, fun j hj _ => Sort.heap_grow_old (w.drewN k) os hj⟩
theorem itoa_any (z : Int) (w : World) (h0 : -9223372036854775808 ≤ z) (h1 : z ≤ 9223372036854775807) (ht : Tab w) :
    Calls Tryd.prog 54 #[.int .i64 z] w fun e w' => e = .returned (.string (st (Lib.itoa z))) ∧ w.grownBy w' none := by
  refine (Tryd.strconv_Itoa z h0 h1 w ht).mono ?_
  rintro e w' ⟨rfl, k, os, rfl⟩
  exact ⟨rfl, g_grow w k os⟩
theorem itoa_from (z : Int) (w0 w : World) (h0 : -9223372036854775808 ≤ z) (h1 : z ≤ 9223372036854775807) (ht : Tab w0) (hg : w0.grownBy w none) :
    Calls Tryd.prog 54 #[.int .i64 z] w fun e w' => e = .returned (.string (st (Lib.itoa z))) ∧ w.grownBy w' none ∧ w0.grownBy w' none :=
  (itoa_any z w h0 h1 (ht.grown hg)).mono fun e w' ⟨h1, h2⟩ => ⟨h1, h2, hg.trans h2⟩
def I64 (z : Int) : Prop := -9223372036854775808 ≤ z ∧ z ≤ 9223372036854775807
def Nd.rg (m : Nd) : Prop := I64 m.p ∧ I64 m.x ∧ I64 m.y ∧ I64 m.a ∧ I64 m.b
def T.rg (t : T) : Prop := ∀ m ∈ t.nds, m.rg
theorem T.rg.n {n : Nd} {ks : List T} (h : (T.mk n ks).rg) : n.rg := h n (by rw [T.nds_mk]; simp)
theorem T.rg.k {n : Nd} {ks : List T} (h : (T.mk n ks).rg) {k : T} (hk : k ∈ ks) : k.rg := fun m hm => h m (by rw [T.nds_mk]; simp [mem_ndsL.2 ⟨k, hk, hm⟩])
theorem st_app (a b : List UInt8) : st a ++ st b = st (a ++ b) := by
  apply ByteArray.ext
  show (st a ++ st b).data = _
  simp [st]

/-- Two texts laid together. -/
def Adds (a b c : ByteArray) : Prop := ∀ w, Sem.run Tryd.prog (Op.stringOp .add a b) w = .ok (.string c) w
theorem adds_of (a b : ByteArray) (h : a.size + b.size ≤ 9223372036854775807) : Adds a b (a ++ b) := fun w => run_string_add_sum w a b h
theorem adds_st (a b : List UInt8) (h : a.length + b.length ≤ 9223372036854775807) : Adds (st a) (st b) (st (a ++ b)) := by
  rw [← st_app]; exact adds_of _ _ (by rw [st_size, st_size]; exact h)
/-- What stands ahead: sizes and place. -/
def headB (n : Nd) : List UInt8 := Lib.itoa n.a ++ [120] ++ Lib.itoa n.b ++ [44] ++ Lib.itoa n.x ++ [44] ++ Lib.itoa n.y
mutual
def T.body : T → List UInt8
  | .mk n ks => if ks.length = 0 then headB n ++ [44] ++ Lib.itoa n.p else headB n ++ [if n.way = 0 then 123 else 91] ++ Lib.join (bodyL ks) [44] ++ [if n.way = 0 then 125 else 93]
def bodyL : List T → List (List UInt8)
  | [] => []
  | k :: ks => k.body :: bodyL ks
end
theorem T.body_mk (n : Nd) (ks : List T) : (T.mk n ks).body = if ks.length = 0 then headB n ++ [44] ++ Lib.itoa n.p else headB n ++ [if n.way = 0 then 123 else 91] ++ Lib.join (bodyL ks) [44] ++ [if n.way = 0 then 125 else 93] := by rw [T.body]
theorem bodyL_nil : bodyL [] = [] := by rw [bodyL]
theorem bodyL_cons (k : T) (ks : List T) : bodyL (k :: ks) = k.body :: bodyL ks := by rw [bodyL]
theorem bodyL_map : ∀ (ks : List T), bodyL ks = ks.map T.body
  | [] => by rw [bodyL_nil]; rfl
  | k :: ks => by rw [bodyL_cons, bodyL_map ks]; rfl
theorem info9 : (Tryd.prog.info? 9).map (fun i => (i.zero, i.size, i.bytes)) = some (some (.string ⟨#[]⟩), 1, 16) := by kernel_rfl
section
variable {ops : Array Oper} {rest : List Oper} {o : Oper} {a : Act} {Q : Exit → Act → World → Prop} {w : World}
/-- append at []string. -/
theorem ap90 (hgd : o.guard = none) (s x : Operand) (ho : o.op = .call { callee := .builtin .append, args := #[s, x], argTypes := #[90, 90] })
    (base : Nat) (v : Value) (n : Nat) (xs : List Value) (hs : a.eval s = v) (hown : w.ownsRow base 9 1 v n xs)
    (A : Option Addr) (m c : Nat) (news : List Value) (hx : a.eval x = .slice A m c) (hl : news.length = m) (hr : Rd w A news) (h1 : ∀ u ∈ news, u.oneCell' = true)
    (hb : n + m ≤ 1099511627776) (hbase : base ≤ w.heap.size)
    (h : ∀ A' c' w', w'.ownsRow base 9 1 (.slice A' (n + m) c') (n + m) (xs ++ news) → w.grownBy w' v.ownBlock → (ablk A' = v.ownBlock ∨ ablk A' = some w.heap.size) → wpList Tryd.prog ops Q rest (a.put o.dst (.slice A' (n + m) c')) w') : wpList Tryd.prog ops Q (o :: rest) a w := by
  obtain ⟨i0, hi0, hz0, hz1, hz2⟩ := info_parts info9
  exact wpList_append_rd w hgd s x 90 ho base 9 i0 _ 1 16 Tryd.underlying90 hi0 hz0 hz1 hz2 rfl (by omega) v n xs hs hown A m c news hx (by omega) hr h1 (by unfold maxLen; omega) (by omega) hbase h
end
theorem Rd.new1 (w : World) (v : Value) (e : TypeId) : Rd (w.alloc (.cells #[v] e)) (some ⟨w.heap.size, 0, none⟩) [v] := fun _ => ⟨_, _, rfl, by simp, fun j u hj => by
  rcases j with _ | j
  · simp at hj; subst hj; unfold World.cell?; rw [heap_alloc_new]; rfl
  · simp at hj⟩
def strs (l : List (List UInt8)) : List Value := l.map fun b => .string (st b)
theorem join_len_ge (l : List (List UInt8)) (x : UInt8) : (∀ b ∈ l, b.length ≤ (Lib.join l [x]).length) ∧ l.length ≤ (Lib.join l [x]).length + 1 := by
  cases l with
  | nil => exact ⟨fun b hb => (by cases hb), by simp⟩
  | cons a r =>
    rw [Lib.join_cons]
    have h : (∀ b ∈ r, b.length ≤ (Lib.joinTail [x] r).length) ∧ r.length ≤ (Lib.joinTail [x] r).length := by
      induction r with
      | nil => exact ⟨fun b hb => (by cases hb), by simp⟩
      | cons b r ih =>
        have e : Lib.joinTail [x] (b :: r) = [x] ++ b ++ Lib.joinTail [x] r := by simp [Lib.joinTail]
        rw [e]
        simp only [List.length_append, List.length_cons, List.length_nil]
        refine ⟨fun c hc => ?_, by have := ih.2; omega⟩
        rcases List.mem_cons.1 hc with rfl | hc
        · omega
        · have := ih.1 c hc; omega
    simp only [List.length_append, List.length_cons]
    refine ⟨fun b hb => ?_, by have := h.2; omega⟩
    rcases List.mem_cons.1 hb with rfl | hb
    · omega
    · have := h.1 b hb; omega

set_option maxHeartbeats 4000000 in
set_option maxRecDepth 100000 in
theorem body_any : ∀ (t : T) (up : Option Nat) (w : World), TP w up t → t.rg → t.w01 → Tab w → t.body.length ≤ 1000000 →
    Calls Tryd.prog 27 #[ptr t.g] w fun e w' => e = .returned (.string (st t.body)) ∧ w.grownBy w' none := by
  intro t
  induction t using T.ind with
  | h n ks ih =>
    intro up w hT hR hW hTab hL
    have hAt := hT.at_
    have hK := hT.kids
    have hsm := hAt.small
    obtain ⟨⟨p0, p1⟩, ⟨x0, x1⟩, ⟨y0, y1⟩, ⟨a0, a1⟩, ⟨b0, b1⟩⟩ := hR.n
    have CA := fun (W : World) (h : w.grownBy W none) => itoa_from n.a w W a0 a1 hTab h
    have CB := fun (W : World) (h : w.grownBy W none) => itoa_from n.b w W b0 b1 hTab h
    have CX := fun (W : World) (h : w.grownBy W none) => itoa_from n.x w W x0 x1 hTab h
    have CY := fun (W : World) (h : w.grownBy W none) => itoa_from n.y w W y0 y1 hTab h
    have CP := fun (W : World) (h : w.grownBy W none) => itoa_from n.p w W p0 p1 hTab h
    have c1 := hAt.c1; have c2 := hAt.c2; have c3 := hAt.c3; have c4 := hAt.c4
    obtain ⟨len, hln⟩ : ∃ len, len = ks.length := ⟨_, rfl⟩
    obtain ⟨AA, hAA⟩ : ∃ AA, AA = adr n.A := ⟨_, rfl⟩
    have hHd : (headB n).length ≤ 1000000 := by
      rw [T.body_mk] at hL
      split at hL <;> simp only [List.length_append] at hL <;> omega
    obtain ⟨s7, hs7⟩ : ∃ s, s = st (headB n) := ⟨_, rfl⟩
    obtain ⟨sa, hsa⟩ : ∃ s, s = st (Lib.itoa n.a) := ⟨_, rfl⟩
    obtain ⟨sb, hsb⟩ : ∃ s, s = st (Lib.itoa n.b) := ⟨_, rfl⟩
    obtain ⟨sx, hsx⟩ : ∃ s, s = st (Lib.itoa n.x) := ⟨_, rfl⟩
    obtain ⟨sy, hsy⟩ : ∃ s, s = st (Lib.itoa n.y) := ⟨_, rfl⟩
    obtain ⟨s1, s2, s3, s4, s5, s6, k1, k2, k3, k4, k5, k6, k7⟩ : ∃ s1 s2 s3 s4 s5 s6, Adds sa ⟨#[120]⟩ s1 ∧ Adds s1 sb s2 ∧ Adds s2 ⟨#[44]⟩ s3 ∧ Adds s3 sx s4 ∧ Adds s4 ⟨#[44]⟩ s5 ∧ Adds s5 sy s6 ∧ s6 = s7 := by
      unfold headB at hHd hs7
      simp only [List.length_append] at hHd
      subst hsa; subst hsb; subst hsx; subst hsy
      exact ⟨_, _, _, _, _, _, adds_st _ [120] (by simp; omega), adds_st _ _ (by simp; omega), adds_st _ [44] (by simp; omega), adds_st _ _ (by simp; omega), adds_st _ [44] (by simp; omega), adds_st _ _ (by simp; omega), hs7.symm⟩
    subst k7
    unfold Adds at k1 k2 k3 k4 k5 k6
    replace hs7 := Lib.hid hs7
    rw [← hsa] at CA; rw [← hsb] at CB; rw [← hsx] at CX; rw [← hsy] at CY
    replace CA := Lib.hid CA; replace CB := Lib.hid CB; replace CX := Lib.hid CX; replace CY := Lib.hid CY; replace CP := Lib.hid CP
    replace hln := Lib.hid hln; replace hAt := Lib.hid hAt; replace hK := Lib.hid hK; replace ih := Lib.hid ih; replace hAA := Lib.hid hAA; replace hT := Lib.hid hT; replace hR := Lib.hid hR; replace hW := Lib.hid hW; replace hTab := Lib.hid hTab; replace hL := Lib.hid hL
    replace hsa := Lib.hid hsa; replace hsb := Lib.hid hsb; replace hsx := Lib.hid hsx; replace hsy := Lib.hid hsy
    have g0 := World.grownBy.refl w none
    show Calls Tryd.prog 27 #[ptr n.g] w _
    unfold ptr
    go_enter Tryd.func27, Tryd.ntmps27
    go_upto_region 1 with fail
    go_cut [3] (fun sv wx => sv = .string s6 ∧ Hid (w.grownBy wx none))
    case first =>
      go_region_held3 (fun w' => w'.cell? ⟨n.g, 1, none⟩ = some (.int .i64 n.x) ∧ w'.cell? ⟨n.g, 2, none⟩ = some (.int .i64 n.y) ∧ w'.cell? ⟨n.g, 3, none⟩ = some (.int .i64 n.a) ∧ w'.cell? ⟨n.g, 4, none⟩ = some (.int .i64 n.b))
        (first | go_keep | (go_split_ands; refine ⟨?_, ?_, ?_, ?_⟩ <;> (refine GG.cell ?_ ?_ <;> first | assumption | simp)) | fail)
        ((first
          | (refine (CA.out _ (by first | assumption | exact g_drew ‹_›)).mono ?_; rintro e w2 ⟨rfl, GG, GW⟩)
          | (refine (CB.out _ (by first | assumption | exact g_drew ‹_›)).mono ?_; rintro e w2 ⟨rfl, GG, GW⟩)
          | (refine (CX.out _ (by first | assumption | exact g_drew ‹_›)).mono ?_; rintro e w2 ⟨rfl, GG, GW⟩)
          | (refine (CY.out _ (by first | assumption | exact g_drew ‹_›)).mono ?_; rintro e w2 ⟨rfl, GG, GW⟩)
          | fail))
      all_goals
        go_wp2_with fail
        go_meet
        exact ⟨rfl, Lib.hid GW⟩
    case rest =>
      obtain ⟨rfl, hG⟩ := hcut
      clear k1 k2 k3 k4 k5 k6 CA CB CX CY c1 c2 c3 c4
      have c6 := hG.out.cell hAt.out.c6 (by simp)
      have c0 := hG.out.cell hAt.out.c0 (by simp)
      have c5 := hG.out.cell hAt.out.c5 (by simp)
      rw [← hln.out, ← hAA.out] at c6
      have hln1 := hln.out
      rw [← hln1] at hsm
      clear hln1
      by_cases h0 : len = 0
      · subst h0
        have hbody : (T.mk n ks).body = headB n ++ [44] ++ Lib.itoa n.p := by rw [T.body_mk, if_pos hln.out.symm]
        obtain ⟨r1, m1, m2⟩ : ∃ r1, Adds s6 ⟨#[44]⟩ r1 ∧ Adds r1 (st (Lib.itoa n.p)) (st (T.mk n ks).body) := by
          have hL2 := hL.out
          rw [hbody] at hL2 ⊢
          simp only [List.length_append] at hL2
          rw [hs7.out]
          exact ⟨_, adds_st _ [44] (by simp; omega), adds_st _ _ (by simp; omega)⟩
        unfold Adds at m1 m2
        have CP' := CP.out _ hG.out
        replace CP' := Lib.hid CP'
        clear CP
        obtain ⟨sb, hsb⟩ : ∃ s, s = st (T.mk n ks).body := ⟨_, rfl⟩
        rw [← hsb] at m2
        replace hsb := Lib.hid hsb; replace hbody := Lib.hid hbody
        go_wp2_with fail
        refine CP'.out.mono ?_
        rintro e w2 ⟨rfl, _, G2⟩
        replace G2 := Lib.hid G2
        clear CP'
        go_wp2_with fail
        go_ret
        exact ⟨ret_str hsb.out, G2.out⟩
      · have hneb : ((len : Int) == 0) = false := by simp; omega
        have hne : ¬ (len : Int) = 0 := by omega
        have hG2 := hG.out
        clear CP
        go_upto_if 43 with fail
        go_wp2_with fail
        go_loopw [4, 57] (fun sv iv wr => ∃ (j : Nat) (A : Option Addr) (c : Nat), j ≤ len ∧ iv = .int .i64 j ∧ sv = .slice A j c ∧ Hid (wr.ownsRow w.heap.size 9 1 (.slice A j c) j (strs ((bodyL ks).take j)) ∧ w.grownBy wr none)) (fun _ iv _ => len - (intOf iv).toNat)
        case atStart => exact ⟨0, none, 0, Nat.zero_le _, rfl, rfl, Lib.hid ⟨World.ownsRow_nil _ _ _ _, hG.out⟩⟩
        case round =>
          obtain ⟨j, A, c, hj, rfl, rfl, hI⟩ := hrel
          by_cases hlt : j < len
          · obtain ⟨k, hk⟩ : ∃ k, ks[j]? = some k := ⟨ks[j]'(by rw [← hln.out]; exact hlt), List.getElem?_eq_getElem _⟩
            obtain ⟨b, hA, hc⟩ := hAt.out.kid hk
            have hc2 := hI.out.2.cell hc (by simp)
            have hAb : AA = some ⟨b, 0, none⟩ := by rw [hAA.out, hA]; rfl
            subst hAb
            have hmem : k ∈ ks := List.mem_of_getElem? hk
            have hjk := join_len_ge (bodyL ks) 44
            have hjl : (Lib.join (bodyL ks) [44]).length + 1 ≤ 1000000 := by
              have := hL.out
              rw [T.body_mk, if_neg (by rw [← hln.out]; exact h0)] at this
              simp only [List.length_append, List.length_cons, List.length_nil] at this; omega
            have hjL : j < 1000000 := by
              have := hjk.2; rw [bodyL_map, List.length_map, ← hln.out, ← bodyL_map] at this; omega
            have hkL : k.body.length ≤ 1000000 := by
              have := hjk.1 k.body (by rw [bodyL_map]; exact List.mem_map.2 ⟨k, hmem, rfl⟩); omega
            clear hjk hjl
            have CK := ih.out k hmem (some n.g) wr ((TPs_iff.1 hK.out k hmem).grown hI.out.2) (hR.out.k hmem) (hW.out.k hmem) (hTab.out.grown hI.out.2) hkL
            have hsn : strs ((bodyL ks).take (j + 1)) = strs ((bodyL ks).take j) ++ [.string (st k.body)] := by
              rw [take_succ' (a := k.body) (by rw [bodyL_map]; simp [hk])]; simp [strs]
            have hws := hI.out.2.size
            obtain ⟨sk, hsk⟩ : ∃ s, s = st k.body := ⟨_, rfl⟩
            rw [← hsk] at hsn CK
            replace CK := Lib.hid CK; replace hsn := Lib.hid hsn; replace hsk := Lib.hid hsk; replace hk := Lib.hid hk; replace hA := Lib.hid hA
            unfold ptr at hc2 CK
            clear hc hkL hG2
            go_wp2_with fail
            refine CK.out.mono ?_
            rintro e w2 ⟨rfl, G2⟩
            have O1 : (w2.alloc (.cells #[.string sk] 9)).ownsRow w.heap.size 9 1 (.slice A j c) j (strs ((bodyL ks).take j)) := (own_keep hI.out.1 G2).alloc _
            have R1 := Rd.new1 w2 (.string sk) 9
            have hs2 : w.heap.size ≤ (w2.alloc (.cells #[.string sk] 9)).heap.size := by simp; have := G2.size; omega
            have gg := (hI.out.2.trans G2).trans (World.grownBy_alloc w2 (.cells #[.string sk] 9) none)
            replace G2 := Lib.hid G2; replace O1 := Lib.hid O1; replace R1 := Lib.hid R1; replace gg := Lib.hid gg
            clear CK
            go_wp2_with (first
              | (at_builtin; refine ap90 rfl (.tmp 61) (.tmp 64) rfl w.heap.size (.slice A j c) j _ rfl O1.out (some ⟨w2.heap.size, 0, none⟩) 1 1 _ rfl rfl R1.out (by intro u hu; simp at hu; subst hu; rfl) (by omega) hs2 ?_; intro A3 c3 w3 O3 G3 hh3; replace O3 := Lib.hid O3; replace G3 := Lib.hid G3)
              | fail)
            refine ⟨⟨j + 1, A3, c3, by omega, by go_num, rfl, Lib.hid ⟨?_, g_own gg.out O1.out (Nat.le_refl _) G3.out⟩⟩, by simp [intOf]; omega⟩
            rw [hsn.out]
            exact O3.out
          · have hje : j = len := by omega
            subst hje
            have hO := hI.out.1
            have hbl : (bodyL ks).length = j := by rw [bodyL_map, List.length_map]; exact hln.out.symm
            rw [List.take_of_length_le (by omega)] at hO
            have hxl : ((bodyL ks).map st).length = j := by rw [List.length_map, hbl]
            have hJe : Lib.join (((bodyL ks).map st).map (·.data.toList)) [44] = Lib.join (bodyL ks) [44] := by
              congr 1
              rw [List.map_map]
              conv => rhs; rw [← List.map_id (bodyL ks)]
              apply List.map_congr_left
              intro b _
              exact sl_st b
            obtain ⟨A', c', e1, hRd, hab, hjc, hcm⟩ := Rd.of_own hO
            injection e1 with e1 _ e2
            subst e1; subst e2
            have hbody : (T.mk n ks).body = headB n ++ [if n.way = 0 then 123 else 91] ++ Lib.join (bodyL ks) [44] ++ [if n.way = 0 then 125 else 93] := by
              rw [T.body_mk, if_neg (by rw [← hln.out]; exact h0)]
            have hjl : (Lib.join (bodyL ks) [44]).length ≤ 1000000 := by
              have := hL.out; rw [hbody] at this; simp only [List.length_append] at this; omega
            have hj1 : j ≤ 1000001 := by have := (join_len_ge (bodyL ks) 44).2; omega
            obtain ⟨bk, o, rfl, hbk, hcl⟩ := hRd (by intro e; have := congrArg List.length e; simp only [strs, List.length_map, List.length_nil] at this; omega)
            have CJ : ∀ W, wr.grownBy W none → Calls Tryd.prog 55 #[.slice (some ⟨bk, o, none⟩) j c, .string ⟨#[44]⟩] W fun e w' => e = .returned (.string (st (Lib.join (bodyL ks) [44]))) ∧ wr.grownBy w' none := by
              intro W hW
              have := Tryd.strings_Join bk o c ((bodyL ks).map st) ⟨#[44]⟩ W (fun i x hx => hW.cell (hcl i (.string x) (by
                simp only [strs, List.getElem?_map] at hx ⊢
                cases hb : (bodyL ks)[i]? with
                | none => simp [hb] at hx
                | some y => simp [hb] at hx; simp [hx])) (by simp)) (Nat.lt_of_lt_of_le hbk hW.size) (by omega) (by omega) (by
                show (Lib.join (((bodyL ks).map st).map (·.data.toList)) [44]).length ≤ _
                rw [hJe]; omega)
              rw [hxl] at this
              refine this.mono ?_
              rintro e w' ⟨rfl, hb⟩
              refine ⟨?_, hW.trans (below_g hb)⟩
              show Ending.returned (.string (st (Lib.join (((bodyL ks).map st).map (·.data.toList)) [44]))) = _
              rw [hJe]
            have hGw := hI.out.2
            have c5r := hGw.cell hAt.out.c5 (by simp)
            have hgw : n.g < wr.heap.size := Nat.lt_of_lt_of_le (hAt.out.lt _ (by simp)) hGw.size
            have hgw2 : n.g ≠ wr.heap.size := by omega
            obtain ⟨sj, hsj⟩ : ∃ s, s = st (Lib.join (bodyL ks) [44]) := ⟨_, rfl⟩
            obtain ⟨sb, hsb⟩ : ∃ s, s = st (T.mk n ks).body := ⟨_, rfl⟩
            rw [← hsj] at CJ
            have key : ∀ e1 e2 : UInt8, e1 = (if n.way = 0 then 123 else 91) → e2 = (if n.way = 0 then 125 else 93) → ∃ r1 r2, Adds s6 ⟨#[e1]⟩ r1 ∧ Adds r1 sj r2 ∧ Adds r2 ⟨#[e2]⟩ sb := by
              rintro e1 e2 rfl rfl
              have hL2 := hL.out
              rw [hsb, hsj, hs7.out]
              rw [hbody] at hL2 ⊢
              simp only [List.length_append] at hL2
              exact ⟨_, _, adds_st _ [_] (by simp; omega), adds_st _ _ (by simp; omega), adds_st _ [_] (by simp; omega)⟩
            have CJ1 := CJ (wr.alloc (.cells #[.string ⟨#[123, 125]⟩, .string ⟨#[91, 93]⟩] 9)).drew (g_drew (World.grownBy_alloc wr _ none))
            replace CJ := Lib.hid CJ; replace hsj := Lib.hid hsj; replace hsb := Lib.hid hsb; replace hbody := Lib.hid hbody; replace key := Lib.hid key; replace hcl := Lib.hid hcl; replace hO := Lib.hid hO; replace hRd := Lib.hid hRd; replace hJe := Lib.hid hJe; replace hGw := Lib.hid hGw
            replace hxl := Lib.hid hxl; replace hbl := Lib.hid hbl; replace CJ1 := Lib.hid CJ1
            clear c0 c6 c5 hG2
            rcases hW.out.n with hw | hw
            · obtain ⟨r1, r2, m1, m2, m3⟩ := key.out 123 125 (by rw [if_pos hw]) (by rw [if_pos hw])
              rw [hw] at c5r
              unfold Adds at m1 m2 m3
              replace hw := Lib.hid hw
              have x1 : ByteArray.extract ⟨#[123, 125]⟩ 0 1 = ⟨#[123]⟩ := rfl
              have x2 : ByteArray.extract ⟨#[123, 125]⟩ 1 2 = ⟨#[125]⟩ := rfl
              have x3 : ByteArray.size ⟨#[123, 125]⟩ = 2 := rfl
              go_wp2_with fail
              go_region_with (first | (refine CJ1.out.mono ?_; rintro e w2 ⟨rfl, GJ⟩) | fail)
              go_wp2_with fail
              go_ret
              exact ⟨ret_str hsb.out, hGw.out.trans GJ⟩
            · obtain ⟨r1, r2, m1, m2, m3⟩ := key.out 91 93 (by rw [hw]; rfl) (by rw [hw]; rfl)
              rw [hw] at c5r
              unfold Adds at m1 m2 m3
              replace hw := Lib.hid hw
              have x1 : ByteArray.extract ⟨#[91, 93]⟩ 0 1 = ⟨#[91]⟩ := rfl
              have x2 : ByteArray.extract ⟨#[91, 93]⟩ 1 2 = ⟨#[93]⟩ := rfl
              have x3 : ByteArray.size ⟨#[91, 93]⟩ = 2 := rfl
              go_wp2_with fail
              go_region_with (first | (refine CJ1.out.mono ?_; rintro e w2 ⟨rfl, GJ⟩) | fail)
              go_wp2_with fail
              go_ret
              exact ⟨ret_str hsb.out, hGw.out.trans GJ⟩

end Go.Proofs.YtcklmkjlbpjojaaDoor
