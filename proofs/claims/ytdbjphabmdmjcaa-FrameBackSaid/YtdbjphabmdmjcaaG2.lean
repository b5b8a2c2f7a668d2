/- Contract: the reference's Encode. -/
import Derived.Test.YtdbjphabmdmjcaaG1
namespace Go.Proofs.Ytdbjphabmdmjcaa
open Go.RowKit
set_option linter.unusedSimpArgs false
set_option linter.unusedVariables false

theorem st_append (a b : List UInt8) : st a ++ st b = st (a ++ b) := by
  apply ByteArray.ext
  simp [st]

theorem one3 {a b c : Int} : ∀ u ∈ [Value.int .u8 a, .int .u8 b, .int .u8 c], u.oneCell' = true := by
  intro u hu
  simp only [List.mem_cons, List.not_mem_nil, or_false] at hu
  rcases hu with rfl | rfl | rfl <;> rfl
/-- The block of a frame as the reference has it. -/
def RFB (w : World) (p : Nat) (k a b : Int) (wv dv : Value) : Prop := w.heap[p]? = some (.cells #[.int .i64 k, .int .i64 a, .int .i64 b, wv, dv] 33 (0, 0))
section
variable {w w' : World} {p : Nat} {k a b : Int} {wv dv : Value}
theorem RFB.cell (h : RFB w p k a b wv dv) (j : Nat) : w.cell? ⟨p, j, none⟩ = #[Value.int .i64 k, .int .i64 a, .int .i64 b, wv, dv][j]? := by
  unfold RFB at h; simp [World.cell?, h]
theorem RFB.lt (h : RFB w p k a b wv dv) : p < w.heap.size := by
  rcases Nat.lt_or_ge p w.heap.size with hlt | hge
  · exact hlt
  · unfold RFB at h; rw [Array.getElem?_eq_none hge] at h; cases h
theorem RFB.grown (h : RFB w p k a b wv dv) {row : Option Nat} (hg : w.grownBy w' row) (hne : some p ≠ row) : RFB w' p k a b wv dv := (hg.block p h.lt hne).trans h
theorem RFB.alloc (h : RFB w p k a b wv dv) (o : Obj) : RFB (w.alloc o) p k a b wv dv := h.grown (World.grownBy_alloc w o none) (by simp)
theorem RFB.new (w : World) (k a b : Int) (wv dv : Value) : RFB (w.alloc (.cells #[.int .i64 k, .int .i64 a, .int .i64 b, wv, dv] 33)) w.heap.size k a b wv dv := heap_alloc_new w _
end
def encP (f : Fm) (j : Nat) : List UInt8 := c8 f.k :: c8 f.a :: c8 f.b :: wbytes (f.ws.take j)
theorem encP_mono (f : Fm) (j : Nat) (h : j ≤ f.ws.length) : (encP f j).length ≤ (encP f f.ws.length).length := by
  have e : wbytes (f.ws.take f.ws.length) = wbytes (f.ws.take j) ++ wbytes (f.ws.drop j) := by rw [← wbytes_append, List.take_append_drop, List.take_length]
  unfold encP
  simp only [List.length_cons]
  rw [e, List.length_append]
  omega
theorem rd_cell {w w' : World} {b off j : Nat} {xs : List Value} {u : Value} (h : Rd w (some ⟨b, off, none⟩) xs) (hg : w.grownBy w' none) (hj : xs[j]? = some u) : w'.cell? ⟨b, off + j, none⟩ = some u := by
  obtain ⟨b', off', e, _, hc⟩ := (h.grown hg (.inl rfl)).at_ hj
  injection e with e; injection e with e1 e2
  subst e1; subst e2
  exact hc
def REnc (f : Fm) (w : World) (e : Ending) (w' : World) : Prop :=
  w.grownBy w' none ∧ ((f.right = false ∧ e = .returned (.tuple #[.string (st []), .int .i64 1])) ∨ (f.right = true ∧ 16384 < f.enc.length ∧ e = .returned (.tuple #[.string (st []), .int .i64 2])) ∨
    (f.right = true ∧ f.enc.length ≤ 16384 ∧ e = .returned (.tuple #[.string (st (wire f)), .int .i64 0])))

theorem enc_split {f : Fm} (h : f.right = true) : f.enc = encP f f.ws.length ++ f.d := by
  obtain ⟨_, _, _, b2, b3, _⟩ := right_bounds h
  unfold encP
  rw [List.take_length]
  by_cases h2 : f.k = 2
  · obtain ⟨_, d0, _⟩ := b2 h2
    have hd : f.d = [] := List.eq_nil_of_length_eq_zero d0
    simp [Fm.enc, encB, Fm.pay, h2, hd]
  · have hw : f.ws = [] := List.eq_nil_of_length_eq_zero (b3 h2)
    simp [Fm.enc, encB, Fm.pay, h2, hw, wbytes]

set_option maxHeartbeats 400000 in
theorem rEnc_no (f : Fm) (wa : Option Addr) (wc : Nat) (w : World) (hr : Rd w wa (f.ws.map .string)) (hf : f.Fits) (hR : f.right = false) :
    Calls Try.prog 10 #[.agg #[.int .i64 f.k, .int .i64 f.a, .int .i64 f.b, .slice wa f.ws.length wc, .string (st f.d)]] w (REnc f w) := by
  have hR' : (!longs f.ws && rRight f.k f.a f.b f.ws.length f.d.length) = false := by rw [rRight_eq]; exact hR
  have C := Lib.hid (fun (W : World) (hW : w.grownBy W none) => hR' ▸ rRight_any f.k f.a f.b wa f.ws.length wc f.ws f.d W rfl (by have := hf.ws; omega) (hr.grown hW (.inl rfl)) (fun s hs => by have := hf.s s hs; omega))
  replace hR := Lib.hid hR
  clear hR' hr hf
  generalize st f.d = sd at *
  go_enter Try.func10, Try.ntmps10
  go_wp2_with (go_at_call 13; refine (C.out _ (World.grownBy_alloc _ _ _)).mono ?_; rintro e w1 ⟨rfl, G1⟩)
  go_ret2
  exact ⟨(World.grownBy_alloc w _ none).trans G1, .inl ⟨hR.out, rfl⟩⟩

set_option maxRecDepth 100000 in
set_option maxHeartbeats 1000000 in
theorem rEnc_yes (f : Fm) (wa : Option Addr) (wc : Nat) (w : World) (hr : Rd w wa (f.ws.map .string)) (hf : f.Fits) (hR : f.right = true) :
    Calls Try.prog 10 #[.agg #[.int .i64 f.k, .int .i64 f.a, .int .i64 f.b, .slice wa f.ws.length wc, .string (st f.d)]] w (REnc f w) := by
  have hR' : (!longs f.ws && rRight f.k f.a f.b f.ws.length f.d.length) = true := by rw [rRight_eq]; exact hR
  have C := Lib.hid (fun (W : World) (hW : w.grownBy W none) => hR' ▸ rRight_any f.k f.a f.b wa f.ws.length wc f.ws f.d W rfl (by have := hf.ws; omega) (hr.grown hW (.inl rfl)) (fun s hs => by have := hf.s s hs; omega))
  obtain ⟨⟨k0, k1⟩, ⟨a0, a1⟩, ⟨b0, b1⟩, g2, g3, _⟩ := right_bounds (h := hR)
  have hwl : f.ws.length ≤ 256 ∧ ∀ s ∈ f.ws, s.size ≤ 8192 := by
    by_cases h2 : f.k = 2
    · obtain ⟨n1, _, n3⟩ := g2 h2
      exact ⟨n1, longs_false n3⟩
    · have hw : f.ws = [] := List.eq_nil_of_length_eq_zero (g3 h2)
      rw [hw]
      exact ⟨by simp, fun s hs => by cases hs⟩
  obtain ⟨hwl, hs8⟩ := hwl
  have hsd : (st f.d).size = f.d.length := st_size _
  have hsl : sl (st f.d) = f.d := sl_st _
  have hdl := hf.d
  have hencs := enc_split hR
  replace hR := Lib.hid hR; replace hs8 := Lib.hid hs8; replace hr := Lib.hid hr; replace hsl := Lib.hid hsl; replace hencs := Lib.hid hencs
  clear hR' hf g2 g3
  generalize st f.d = sd at *
  have hsd2 : sd.size ≤ 140737488351232 := by omega
  replace hsd := Lib.hid hsd
  clear hdl
  go_enter Try.func10, Try.ntmps10
  have s1 := Lib.hid (c8_eq f.k k0 k1); have s2 := Lib.hid (c8_eq f.a a0 a1); have s3 := Lib.hid (c8_eq f.b b0 b1)
  go_wp2_with (first
    | (go_at_call 13; refine (C.out _ (World.grownBy_alloc _ _ _)).mono ?_; rintro e w1 ⟨rfl, G1⟩; have F1 : RFB w1 w.heap.size f.k f.a f.b (.slice wa f.ws.length wc) (.string sd) := (RFB.new w _ _ _ _ _).grown G1 (by simp); have q0 := F1.cell 0; have q1 := F1.cell 1; have q2 := F1.cell 2; have q3 := F1.cell 3; have q4 := F1.cell 4; simp at q0 q1 q2 q3 q4; have g1 := (World.grownBy_alloc w _ none).trans G1)
    | (at_builtin; refine ap5 rfl (.tmp 11) (.tmp 21) rfl (w.heap.size + 1) (.slice none 0 0) 0 [] rfl (World.ownsRow_nil _ _ _ _) _ 3 3 [.int .u8 f.k, .int .u8 f.a, .int .u8 f.b] rfl rfl (Rd.new _ _ _) one3 (by omega) (by have := F1.lt; simp; omega) ?_; intro A2 c2 w2 O2 G2 _)
    | fail)
  have F2 := (F1.alloc (.cells #[.int .u8 f.k, .int .u8 f.a, .int .u8 f.b] 5)).grown G2 (by simp [Value.ownBlock])
  have g2 : w.grownBy w2 none := (g_alloc g1 (.cells #[.int .u8 f.k, .int .u8 f.a, .int .u8 f.b] 5)).trans G2
  have hP0 : [] ++ [Value.int .u8 f.k, .int .u8 f.a, .int .u8 f.b] = bs (encP f 0) := by
    rw [s1.out, s2.out, s3.out]; simp [encP, bs, wbytes]
  rw [hP0] at O2
  clear q0 q1 q2 q3 q4 G1 G2 g1 F1 hP0
  replace F2 := Lib.hid F2; replace g2 := Lib.hid g2; replace O2 := Lib.hid O2
  go_wp2_with fail
  go_loopw [5, 6] (fun v i wr => ∃ j : Nat, j ≤ f.ws.length ∧ i = .int .i64 j ∧ Hid (w.grownBy wr none) ∧ Hid (RFB wr w.heap.size f.k f.a f.b (.slice wa f.ws.length wc) (.string sd)) ∧ ∃ A c, v = .slice A (encP f j).length c ∧ Hid (wr.ownsRow (w.heap.size + 1) 5 1 (.slice A (encP f j).length c) (encP f j).length (bs (encP f j)))) (fun _ i _ => f.ws.length - (intOf i).toNat)
  case atStart => exact ⟨0, Nat.zero_le _, rfl, g2.out, F2.out, A2, c2, rfl, O2.out⟩
  case round =>
    obtain ⟨j, hj, rfl, hg, hg2, A3, c3, rfl, ho⟩ := hrel
    have F3 := hg2.out
    have q3 := F3.cell 3; have q4 := F3.cell 4
    simp at q3 q4
    have ho_sz : w.heap.size + 1 ≤ wr.heap.size := F3.lt
    have hPl : (encP f j).length ≤ 3 + 2097664 := by
      have h1 := wbytes_len (f.ws.take j) (fun s hs => hs8.out s (List.mem_of_mem_take hs))
      have h2 : (f.ws.take j).length ≤ 256 := by rw [List.length_take]; omega
      have h3 : (f.ws.take j).length * 8194 ≤ 2097664 := Nat.le_trans (Nat.mul_le_mul_right _ h2) (by decide)
      unfold encP
      simp only [List.length_cons]
      omega
    by_cases hlt : j < f.ws.length
    · obtain ⟨bb, off, hwa, hb, hc⟩ := (hr.out.grown hg.out (.inl rfl)).at_ (j := j) (u := .string f.ws[j]) (by simp [hlt])
      have hsj := hs8.out f.ws[j] (List.getElem_mem hlt)
      have hnx : encP f (j + 1) = encP f j ++ [hi8 f.ws[j].size, lo8 f.ws[j].size] ++ sl f.ws[j] := by
        unfold encP
        rw [List.take_succ_eq_append_getElem hlt, wbytes_append]; simp [wbytes]
      subst hwa
      have hmono := encP_mono f j (by omega)
      have hRd := hr.out
      replace hr := Lib.hid hr
      by_cases hbig : 16384 < (encP f j).length
      · have hbig' : (16384 : Int) < ((encP f j).length : Int) := by omega
        have henc : 16384 < f.enc.length := by rw [hencs.out, List.length_append]; omega
        replace henc := Lib.hid henc; replace hRd := Lib.hid hRd
        clear hnx
        generalize (encP f j).length = L at *
        go_wp2_with fail
        go_ret2
        exact ⟨hg.out, .inr (.inl ⟨hR.out, henc.out, rfl⟩)⟩
      · have hbig' : ¬ (16384 : Int) < ((encP f j).length : Int) := by omega
        replace hRd := Lib.hid hRd; replace hnx := Lib.hid hnx
        have hwj : (f.ws.map Value.string)[j]? = some (.string f.ws[j]) := by simp [hlt]
        replace hwj := Lib.hid hwj
        obtain ⟨L, hL⟩ : ∃ L, (encP f j).length = L := ⟨_, rfl⟩
        rw [hL] at ho hPl hbig hbig' hmono ⊢
        replace hL := Lib.hid hL
        clear hmono
        generalize hws : f.ws[j] = t at *
        clear hws
        have hst : (st [hi8 t.size, lo8 t.size]).size = 2 := rfl
        replace hst := Lib.hid hst
        go_wp2_with (first
          | (go_at_call 26; refine (two_any t.size _ (by omega)).mono ?_; rintro e w5 ⟨rfl, G5⟩; have ho5 := own_keep ho.out G5; have hs5 := Nat.le_trans ho_sz G5.size)
          | (at_builtin; refine ap5s rfl (.tmp 33) (.tmp 40) rfl (w.heap.size + 1) (.slice A3 L c3) L _ rfl ho5 (st [hi8 t.size, lo8 t.size]) rfl (by rw [hst.out]; omega) hs5 ?_; intro A6 c6 w6 O6 G6; have g6 := g_own (hg.out.trans G5) ho5 (Nat.le_succ _) G6; have F6 := (F3.grown G5 (by simp)).grown G6 (fun e => by have := (ho5.lt w.heap.size e.symm).1; omega); have p3 := F6.cell 3; simp at p3; have hc6 := rd_cell hRd.out g6 hwj.out; have hs6 := Nat.le_trans hs5 G6.size; rw [hst.out] at O6)
          | (at_builtin; refine ap5s rfl (.tmp 42) (.tmp 47) rfl (w.heap.size + 1) (.slice A6 (L + 2) c6) (L + 2) _ rfl O6 t rfl (by omega) hs6 ?_; intro A7 c7 w7 O7 G7)
          | fail)
        have g7 := g_own g6 O6 (Nat.le_succ _) G7
        have F7 := F6.grown G7 (fun e => by have := (O6.lt w.heap.size e.symm).1; omega)
        refine ⟨⟨j + 1, by omega, by go_num, g7, F7, A7, c7, ?_, ?_⟩, by simp [intOf]; omega⟩
        · have e : (encP f (j + 1)).length = L + 2 + t.size := by rw [hnx.out, List.length_append, List.length_append, hL.out, sl_len]; rfl
          rw [e]
        · have e : (encP f (j + 1)).length = L + 2 + t.size := by rw [hnx.out, List.length_append, List.length_append, hL.out, sl_len]; rfl
          show World.ownsRow _ _ _ _ _ _ _
          rw [e, hnx.out, bs_append, bs_append]
          rw [sl_st] at O7
          exact O7
    · obtain rfl : j = f.ws.length := by omega
      have hel : f.enc.length = (encP f f.ws.length).length + sd.size := by rw [hencs.out, List.length_append, hsd.out]
      obtain ⟨L, hL⟩ : ∃ L, (encP f f.ws.length).length = L := ⟨_, rfl⟩
      rw [hL] at ho hPl hel ⊢
      by_cases hbig : 16384 < L + sd.size
      · have henc : 16384 < f.enc.length := by rw [hel]; exact hbig
        replace henc := Lib.hid henc
        clear hel hL
        by_cases hb2 : 16384 < sd.size
        · have hb2' : (16384 : Int) < (sd.size : Int) := by omega
          go_wp2_with fail
          go_ret2
          exact ⟨hg.out, .inr (.inl ⟨hR.out, henc.out, rfl⟩)⟩
        · have hb2' : ¬ (16384 : Int) < (sd.size : Int) := by omega
          have hb3 : (16384 : Int) < (L : Int) + (sd.size : Int) := by omega
          go_wp2_with fail
          go_ret2
          exact ⟨hg.out, .inr (.inl ⟨hR.out, henc.out, rfl⟩)⟩
      · have hb2' : ¬ (16384 : Int) < (sd.size : Int) := by omega
        have hb3 : ¬ (16384 : Int) < (L : Int) + (sd.size : Int) := by omega
        have henc : f.enc.length ≤ 16384 := by rw [hel]; omega
        replace henc := Lib.hid henc; replace hel := Lib.hid hel; replace hL := Lib.hid hL
        go_wp2_with (first
          | (at_builtin; refine ap5s rfl (.tmp 62) (.tmp 64) rfl (w.heap.size + 1) (.slice A3 L c3) L _ rfl ho.out sd rfl (by omega) ho_sz ?_; intro A6 c6 w6 O6 G6; have g6 := g_own hg.out ho.out (Nat.le_succ _) G6)
          | fail)
        have hxs : bs (encP f f.ws.length) ++ bs (sl sd) = bs f.enc := by rw [hencs.out, bs_append, hsl.out]
        rw [hxs] at O6
        have hen : L + sd.size = f.enc.length := hel.out.symm
        rw [hen] at *
        have R6 := Rd.own O6
        have hcv : ∀ W, w6.grownBy W none → (convert 23 9 (.slice A6 f.enc.length c6)).run Try.prog W = .ok (.string (st f.enc)) W := fun W hW =>
          conv_str W 23 9 5 Try.underlying23 Try.underlying5 Try.underlying9 A6 f.enc.length c6 f.enc rfl (R6.grown hW (.inl rfl))
        have hcv0 := hcv w6.drew (g_drew (World.grownBy.refl w6 none))
        replace hcv := Lib.hid hcv
        have CT := Lib.hid (fun W => two_any f.enc.length W (by have := henc.out; omega))
        have hq1 : ¬ (9223372036854775807 < (st [hi8 f.enc.length, lo8 f.enc.length]).size + (st f.enc).size) := by rw [st_size, st_size]; have := henc.out; simp; omega
        replace O6 := Lib.hid O6; replace g6 := Lib.hid g6; replace R6 := Lib.hid R6
        clear G6 hxs hen hel
        first | (go_region_with (first | (go_at_call 26; refine (CT.out _).mono ?_; rintro e w8 ⟨rfl, G8⟩; have hcv8 := hcv.out w8 ((g_drew (World.grownBy.refl w6 none)).trans G8)) | fail)) | fail
        all_goals
          go_wp2_with fail
          go_ret2
          refine ⟨g6.out.trans ((g_drew (World.grownBy.refl w6 none)).trans G8), .inr (.inr ⟨hR.out, henc.out, ?_⟩)⟩
          have hS : st (wire f) = st [hi8 f.enc.length, lo8 f.enc.length] ++ st f.enc := by rw [st_append]; rfl
          rw [hS]; rfl
end Go.Proofs.Ytdbjphabmdmjcaa
