/- Key: listed. -/
import Derived.Test.YtncokbppijnfiaaGreatDoorC2
import Derived.Lib.SplitLaws
namespace Go.Proofs.YtncokbppijnfiaaGreatDoor
open Go.RowKit
set_option linter.unusedSimpArgs false
set_option linter.unusedVariables false

theorem below_grown {w w' : World} (h : Below w.heap.size w w') : w.grownBy w' none := grown_of_below h
theorem atoi_any (d : List UInt8) (hd : d.length ≤ 1000000) (w : World) (hW : Wd w) :
    Calls Tryz.prog 93 #[.string (st d)] w fun e w' => w.grownBy w' none ∧ ∃ v er, e = .returned (.tuple #[.int .i64 v, er]) ∧ ((Lib.atoiAll d = .ok v ∧ er = .nilIface) ∨ ((∀ v, Lib.atoiAll d ≠ .ok v) ∧ ∃ t p, er = .iface t p)) := by
  have hs := st_size d
  cases h : Lib.atoiAll d
  · rename_i v
    refine (Tryz.strconv_Atoi_ok (st d) (by omega) v (by rw [st_data]; exact h) w).mono ?_
    rintro e w' ⟨rfl, hw⟩
    refine ⟨?_, v, _, rfl, .inl ⟨rfl, rfl⟩⟩
    rcases hw with rfl | ⟨t, rfl⟩
    · exact World.grownBy.refl _ _
    · exact ⟨rfl, rfl, rfl, by rw [Lib.bytesWorld_size]; omega, fun k hk _ => Lib.bytesWorld_at_old w 5 t k hk⟩
  · obtain ⟨tp, p, hv⟩ := hW.es
    refine (Tryz.strconv_Atoi_syntax_var (st d) (by omega) (by rw [st_data]; exact h) tp p w hv).mono ?_
    rintro e w' ⟨N, rfl, _, _, hb⟩
    exact ⟨below_grown hb, _, _, rfl, .inr ⟨(fun v e => by cases e), _, _, rfl⟩⟩
  · obtain ⟨tp, p, hv⟩ := hW.er
    refine (Tryz.strconv_Atoi_range_var (st d) (by omega) (by rw [st_data]; exact h) tp p w hv).mono ?_
    rintro e w' ⟨N, rfl, _, _, hb⟩
    exact ⟨below_grown hb, _, _, rfl, .inr ⟨(fun v e => by cases e), _, _, rfl⟩⟩
theorem pieces_len (p : List UInt8) : (piecesL p).length = Lib.countB (st p) ⟨#[59]⟩ + 1 := by
  unfold piecesL
  rw [List.length_map]
  exact Lib.splitB_all ⟨#[59]⟩ (by decide) 0 _ _ rfl
theorem split_any (p : List UInt8) (hp : p.length ≤ 1000000) (w : World) (hW : Wd w) :
    Calls Tryz.prog 92 #[.string (st p), .string ⟨#[59]⟩] w fun e w' => e = .returned (.slice (some ⟨w.heap.size, 0, none⟩) (piecesL p).length (piecesL p).length) ∧ w.grownBy w' none ∧ ∀ j d, (piecesL p)[j]? = some d → w'.cell? ⟨w.heap.size, j, none⟩ = some (.string (st d)) := by
  obtain ⟨m, hm⟩ := hW.ml
  have h := Tryz.strings_Split (st p) ⟨#[59]⟩ m w (by rw [st_size]; omega) hm (by decide)
  rw [← pieces_len] at h
  refine h.mono ?_
  rintro e w' ⟨rfl, rfl⟩
  refine ⟨rfl, World.grownBy_alloc _ _ _, fun j d hj => ?_⟩
  unfold piecesL at hj
  rw [List.getElem?_map] at hj
  cases hb : (Lib.splitB ⟨#[59]⟩ 0 (Lib.countB ⟨p.toArray⟩ ⟨#[59]⟩) ⟨p.toArray⟩)[j]? with
  | none => rw [hb] at hj; cases hj
  | some b =>
    rw [hb] at hj
    simp only [Option.map_some, Option.some.injEq] at hj
    unfold World.cell?
    rw [heap_alloc_new, ← hj, ba_st]
    have e1 : Lib.splitB ⟨#[59]⟩ 0 (Lib.countB (st p) ⟨#[59]⟩) (st p) = Lib.splitB ⟨#[59]⟩ 0 (Lib.countB ⟨p.toArray⟩ ⟨#[59]⟩) ⟨p.toArray⟩ := rfl
    simp [e1, hb]
theorem own_Rd {base n c : Nat} {w : World} {A : Option Addr} {xs : List Value} {e : TypeId} (h : w.ownsRow base e 1 (.slice A n c) n xs) : Rd w A xs := by
  obtain ⟨A', c', e, h1, _⟩ := Rd.of_own h
  injection e with e
  subst e; exact h1
theorem Rd.new1 (w : World) (v : Value) (e : TypeId) : Rd (w.alloc (.cells #[v] e)) (some ⟨w.heap.size, 0, none⟩) [v] := Rd.newL w [v] e
theorem info3 : (Tryz.prog.info? 3).map (fun i => (i.zero, i.size, i.bytes)) = some (some (.int .i64 0), 1, 8) := by kernel_rfl
section
variable {ops : Array Oper} {rest : List Oper} {o : Oper} {a : Act} {Q : Exit → Act → World → Prop} {w : World}
/-- append at []int. -/
theorem ap42 (hgd : o.guard = none) (s x : Operand) (ho : o.op = .call { callee := .builtin .append, args := #[s, x], argTypes := #[42, 42] })
    (base : Nat) (v : Value) (n : Nat) (xs : List Value) (hs : a.eval s = v) (hown : w.ownsRow base 3 1 v n xs)
    (A : Option Addr) (m c : Nat) (news : List Value) (hx : a.eval x = .slice A m c) (hl : news.length = m) (hr : Rd w A news) (h1 : ∀ u ∈ news, u.oneCell' = true)
    (hb : n + m ≤ 1099511627776) (hbase : base ≤ w.heap.size)
    (h : ∀ A' c' w', w'.ownsRow base 3 1 (.slice A' (n + m) c') (n + m) (xs ++ news) → w.grownBy w' v.ownBlock → (ablk A' = v.ownBlock ∨ ablk A' = some w.heap.size) → wpList Tryz.prog ops Q rest (a.put o.dst (.slice A' (n + m) c')) w') : wpList Tryz.prog ops Q (o :: rest) a w := by
  obtain ⟨i0, hi0, hz0, hz1, hz2⟩ := info_parts info3
  exact wpList_append_rd w hgd s x 42 ho base 3 i0 _ 1 8 Tryz.underlying42 hi0 hz0 hz1 hz2 rfl (by omega) v n xs hs hown A m c news hx (by omega) hr h1 (by unfold maxLen; omega) (by omega) hbase h
end
def ints (l : List Int) : List Value := l.map (Value.int .i64)
/-- What listed has gathered: l, and the rest still to come. -/
structure LI (w wr : World) (ps : List (List UInt8)) (j : Nat) (v : Value) (xs : List Int) : Prop where
  g : w.grownBy wr none
  o : wr.ownsRow w.heap.size 3 1 v xs.length (ints xs)
  e : listedF ps = (listedF (ps.drop j)).map (xs ++ ·)
theorem split_sizes (sep : ByteArray) : ∀ (k : Nat) (s : ByteArray), ∀ b ∈ Lib.splitB sep 0 k s, b.size ≤ s.size
  | 0, s, b, hb => by simp [Lib.splitB] at hb; subst hb; exact Nat.le_refl _
  | k + 1, s, b, hb => by
    unfold Lib.splitB at hb
    split at hb
    · simp at hb; subst hb; exact Nat.le_refl _
    · rcases List.mem_cons.1 hb with rfl | hb
      · simp [ByteArray.size_extract]; omega
      · have := split_sizes sep k _ b hb
        simp [ByteArray.size_extract] at this; omega
theorem pieces_sizes (p : List UInt8) : ∀ d ∈ piecesL p, d.length ≤ p.length := by
  intro d hd
  obtain ⟨b, hb, rfl⟩ := List.mem_map.1 hd
  have := split_sizes ⟨#[59]⟩ _ _ b hb
  have e1 : b.data.toList.length = b.size := by rw [Array.length_toList]; rfl
  have e2 : (⟨p.toArray⟩ : ByteArray).size = p.length := by show p.toArray.size = _; rw [List.size_toArray]
  omega
theorem pieces_many (p : List UInt8) : (piecesL p).length ≤ p.length + 1 := by
  rw [pieces_len]
  have := Lib.countB_le ⟨#[59]⟩ (by decide) _ (st p) (Nat.le_refl _)
  rw [st_size] at this; omega
theorem listed_drop {ps : List (List UInt8)} {j : Nat} {d : List UInt8} (h : ps[j]? = some d) : ps.drop j = d :: ps.drop (j + 1) := by
  obtain ⟨h1, h2⟩ := List.getElem?_eq_some_iff.1 h
  rw [List.drop_eq_getElem_cons h1, h2]
set_option maxHeartbeats 1000000 in
set_option maxRecDepth 100000 in
theorem listed_any (p : List UInt8) (hp : p.length ≤ 100000) (w : World) (hW : Wd w) :
    Calls Tryz.prog 87 #[.string (st p)] w fun e w' => w.grownBy w' none ∧ ((listedL p = none ∧ e = .returned (.tuple #[.slice none 0 0, .bool false])) ∨ ∃ l A c, listedL p = some l ∧ l.length ≤ 100001 ∧ e = .returned (.tuple #[.slice A l.length c, .bool true]) ∧ Rd w' A (ints l)) := by
  have CSp := Lib.hid (split_any p (by omega) w hW)
  obtain ⟨ps, hps⟩ : ∃ ps, ps = piecesL p := ⟨_, rfl⟩
  obtain ⟨n, hn⟩ : ∃ n, n = ps.length := ⟨_, rfl⟩
  rw [← hps, ← hn] at CSp
  have hn5 : n ≤ 100001 := by have := pieces_many p; rw [hn, hps]; omega
  have hdl : ∀ d ∈ ps, d.length ≤ 1000000 := fun d hd => by have := pieces_sizes p d (by rw [← hps]; exact hd); omega
  obtain ⟨S, hS⟩ : ∃ S, S = st p := ⟨_, rfl⟩
  rw [← hS] at CSp ⊢
  have hLL : listedL p = listedF ps := by unfold listedL; rw [hps]
  obtain ⟨FL, hFL⟩ : ∃ FL, FL = listedL p := ⟨_, rfl⟩
  rw [← hFL]
  replace hps := Lib.hid hps; replace hn := Lib.hid hn; replace hW := Lib.hid hW; replace hdl := Lib.hid hdl; replace hS := Lib.hid hS; replace hLL := Lib.hid hLL; replace hFL := Lib.hid hFL; replace hp := Lib.hid hp
  go_enter Tryz.func87, Tryz.ntmps87
  go_wp2_with fail
  refine CSp.out.mono ?_
  rintro e w1 ⟨rfl, g1, hcell⟩
  replace hcell := Lib.hid hcell; replace g1 := Lib.hid g1
  clear CSp
  obtain ⟨B, hB⟩ : ∃ B, B = w.heap.size := ⟨_, rfl⟩
  rw [← hB] at hcell ⊢
  replace hB := Lib.hid hB
  go_wp2_with fail
  go_loopw [4, 12] (fun lv iv wr => ∃ (j : Nat) (A : Option Addr) (c : Nat) (xs : List Int), j ≤ n ∧ iv = .int .i64 j ∧ lv = .slice A j c ∧ Hid (xs.length = j) ∧ Hid (LI w1 wr ps j (.slice A j c) xs)) (fun _ iv _ => n - (match iv with | .int _ i => i | _ => 0).toNat)
  case atStart => exact ⟨0, none, 0, [], Nat.zero_le _, rfl, rfl, Lib.hid rfl, Lib.hid ⟨World.grownBy.refl _ _, World.ownsRow_nil _ _ _ _, by simp⟩⟩
  case round =>
    obtain ⟨j, A, c, xs, hj, rfl, rfl, hxl, hI⟩ := hrel
    by_cases hlt : j < n
    · obtain ⟨d, hd⟩ : ∃ d, ps[j]? = some d := ⟨ps[j]'(by rw [← hn.out]; exact hlt), List.getElem?_eq_getElem _⟩
      have x1 := hI.out.g.cell (hcell.out j d hd) (by simp)
      have CA := atoi_any d (hdl.out d (List.mem_of_getElem? hd)) wr ((hW.out.grown g1.out).grown hI.out.g)
      obtain ⟨D, hD⟩ : ∃ D, D = st d := ⟨_, rfl⟩
      rw [← hD] at CA x1
      obtain ⟨dn, hdn⟩ : ∃ k, k = d.length := ⟨_, rfl⟩
      have hDz : D.size = dn := by rw [hD, st_size, hdn]
      have hdr := listed_drop hd
      have hstep : listedF ps = (match numL d with | none => none | some v => ((listedF (ps.drop (j + 1))).map (v :: ·)).map (xs ++ ·)) := by
        rw [hI.out.e, hdr, listedF]
        cases numL d <;> rfl
      replace CA := Lib.hid CA; replace hD := Lib.hid hD; replace hdn := Lib.hid hdn; replace hdr := Lib.hid hdr; replace hstep := Lib.hid hstep; replace hd := Lib.hid hd
      go_wp2_with fail
      refine CA.out.mono ?_
      rintro e w2 ⟨g2, v, er, rfl, hcase⟩
      replace g2 := Lib.hid g2
      clear CA
      rcases hcase with ⟨hv, rfl⟩ | ⟨hv, tt, pp, rfl⟩
      · obtain ⟨d0, dr, rfl⟩ : ∃ a r, d = a :: r := by
          cases d with
          | nil => simp [Lib.atoiAll] at hv
          | cons a r => exact ⟨a, r, rfl⟩
        have hdn1 : 1 ≤ dn := by rw [hdn.out]; simp
        have hG : ∀ h, D[0]'h = d0 := by
          have := hD.out; subst this; intro h; rfl
        have hnum : numL (d0 :: dr) = if 4 < dn ∨ d0.toNat < 48 then none else some v := by
          unfold numL; rw [hv, ← hdn.out]; rfl
        replace hv := Lib.hid hv; replace hnum := Lib.hid hnum
        by_cases h4 : 4 < dn
        · have hno : listedF ps = none := by rw [hstep.out, hnum.out, if_pos (.inl h4)]
          replace hno := Lib.hid hno
          go_wp2_with fail
          go_ret2
          exact ⟨(g1.out.trans hI.out.g).trans g2.out, .inl ⟨by rw [hFL.out, hLL.out, hno.out], rfl⟩⟩
        by_cases h48 : (d0.toNat : Int) < 48
        · have hno : listedF ps = none := by rw [hstep.out, hnum.out, if_pos (.inr (by omega))]
          replace hno := Lib.hid hno
          go_wp2_with fail
          go_ret2
          exact ⟨(g1.out.trans hI.out.g).trans g2.out, .inl ⟨by rw [hFL.out, hLL.out, hno.out], rfl⟩⟩
        have hyes : listedF ps = (listedF (ps.drop (j + 1))).map ((xs ++ [v]) ++ ·) := by
          rw [hstep.out, hnum.out, if_neg (by omega)]
          simp only [Option.map_map]
          congr 1
          funext l
          simp
        have O1 : (w2.alloc (.cells #[.int .i64 v] 3)).ownsRow w1.heap.size 3 1 (.slice A j c) j (ints xs) := by
          have := hI.out.o
          rw [hxl.out] at this
          exact (own_keep this g2.out).alloc _
        have R1 := Rd.new1 w2 (.int .i64 v) 3
        have hs2 : w1.heap.size ≤ (w2.alloc (.cells #[.int .i64 v] 3)).heap.size := by simp; have := g2.out.size; have := hI.out.g.size; omega
        have gg := (hI.out.g.trans g2.out).trans (World.grownBy_alloc w2 (.cells #[.int .i64 v] 3) none)
        replace hyes := Lib.hid hyes; replace O1 := Lib.hid O1; replace R1 := Lib.hid R1; replace gg := Lib.hid gg
        go_wp2_with (first
          | (at_builtin; refine ap42 rfl (.tmp 33) (.tmp 35) rfl w1.heap.size (.slice A j c) j _ rfl O1.out (some ⟨w2.heap.size, 0, none⟩) 1 1 _ rfl rfl R1.out (by intro u hu; simp at hu; subst hu; rfl) (by omega) hs2 ?_; intro A3 c3 w3 O3 G3 hh3; replace O3 := Lib.hid O3; replace G3 := Lib.hid G3)
          | fail)
        refine ⟨⟨j + 1, A3, c3, xs ++ [v], by omega, by go_num, rfl, Lib.hid (by simp [hxl.out]), Lib.hid ⟨g_own gg.out O1.out (Nat.le_refl _) G3.out, ?_, hyes.out⟩⟩, by simp; omega⟩
        have := O3.out
        rw [show (xs ++ [v]).length = j + 1 by simp [hxl.out], show ints (xs ++ [v]) = ints xs ++ [.int .i64 v] by simp [ints]]
        exact this
      · have hno : listedF ps = none := by
          rw [hstep.out]
          have : numL d = none := by
            unfold numL
            cases h : Lib.atoiAll d
            · exact absurd h (hv _)
            · rfl
            · rfl
          rw [this]
        replace hno := Lib.hid hno; replace hv := Lib.hid hv
        go_wp2_with fail
        go_ret2
        exact ⟨(g1.out.trans hI.out.g).trans g2.out, .inl ⟨by rw [hFL.out, hLL.out, hno.out], rfl⟩⟩
    · have hje : j = n := by omega
      subst hje
      have hfin : listedF ps = some xs := by
        rw [hI.out.e, List.drop_of_length_le (by rw [hn.out]; exact Nat.le_refl _), listedF]; simp
      replace hfin := Lib.hid hfin
      go_wp2_with fail
      go_ret2
      refine ⟨g1.out.trans hI.out.g, .inr ⟨xs, A, c, by rw [hFL.out, hLL.out, hfin.out], by have := hxl.out; omega, by rw [hxl.out]; rfl, ?_⟩⟩
      have := hI.out.o
      rw [hxl.out] at this
      exact own_Rd this
end Go.Proofs.YtncokbppijnfiaaGreatDoor
