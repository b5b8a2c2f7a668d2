/- Contracts: the worded codec's read. -/
import Derived.Test.YtdbjphabmdmjcaaC4
import Derived.Deep.QuietTactic
import Derived.BigQuiet
import Derived.Deep.RegionLaw
namespace Go.Proofs.Ytdbjphabmdmjcaa
open Go.RowKit
set_option linter.unusedSimpArgs false
set_option linter.unusedVariables false

theorem hilo (x y : UInt8) : hi8 (x.toNat * 256 + y.toNat) = x ∧ lo8 (x.toNat * 256 + y.toNat) = y := by
  have hx := x.toNat_lt; have hy := y.toNat_lt
  constructor
  · apply UInt8.toNat_inj.1; unfold hi8; rw [UInt8.toNat_ofNat']; omega
  · apply UInt8.toNat_inj.1; unfold lo8; rw [UInt8.toNat_ofNat']; omega
theorem hilo_inj (n m : Nat) (hn : n < 65536) (hm : m < 65536) (h : hi8 n = hi8 m) (l : lo8 n = lo8 m) : n = m := by
  have h1 := congrArg UInt8.toNat h; have l1 := congrArg UInt8.toNat l
  unfold hi8 at h1; unfold lo8 at l1
  simp only [UInt8.toNat_ofNat'] at h1 l1
  omega

def small (ws : List ByteArray) : Prop := ∀ s ∈ ws, s.size < 65536

theorem wb_cancel (ws : List ByteArray) : ∀ (vs : List ByteArray) (r : List UInt8), small ws → small vs → wbytes vs = wbytes ws ++ r → ∃ us, vs = ws ++ us ∧ wbytes us = r := by
  induction ws with
  | nil => intro vs r _ _ h; exact ⟨vs, rfl, by simpa [wbytes] using h⟩
  | cons s ws ih =>
    intro vs r h1 h2 h
    rcases vs with _ | ⟨t, vs⟩
    · simp [wbytes] at h
    · simp only [wbytes, List.cons_append, List.cons.injEq, List.append_assoc] at h
      obtain ⟨a, b, c⟩ := h
      have e := hilo_inj t.size s.size (h2 t (by simp)) (h1 s (by simp)) a b
      have c1 := List.append_inj_left c (by rw [sl_len, sl_len, e])
      have c2 := List.append_inj_right c (by rw [sl_len, sl_len, e])
      have ets : t = s := by rw [← st_sl t, ← st_sl s, c1]
      obtain ⟨us, e1, e2⟩ := ih vs r (fun x hx => h1 x (by simp [hx])) (fun x hx => h2 x (by simp [hx])) c2
      exact ⟨us, by rw [e1, ets]; rfl, e2⟩

theorem wb_inj (ws vs : List ByteArray) (h1 : small ws) (h2 : small vs) (h : wbytes vs = wbytes ws) : vs = ws := by
  obtain ⟨us, e1, e2⟩ := wb_cancel ws vs [] h1 h2 (by simpa using h)
  rcases us with _ | ⟨u, us⟩
  · simpa using e1
  · simp [wbytes] at e2

section
variable {P : Program} {w : World}
theorem step_append_rd {ops : Array Oper} {o : Oper} {a : Act} {K : Act → World → Prop} {Q : Exit → Act → World → Prop} {E : Prop} (hgd : o.guard = none) (s x : Operand) (t : TypeId)
    (ho : o.op = .call { callee := .builtin .append, args := #[s, x], argTypes := #[t, t] })
    (base : Nat) (e : TypeId) (i : TypeInfo) (z : Value) (size bytes : Nat) (ht : P.underlying t = some (.slice e)) (hi : P.info? e = some i) (hz : i.zero = some z)
    (hsize : i.size = size) (hby : i.bytes = bytes) (hzs : z.cells.size = size) (hsz : 0 < size)
    (v : Value) (n : Nat) (xs : List Value) (hs : a.eval s = v) (hown : w.ownsRow base e size v n xs)
    (A : Option Addr) (m c : Nat) (news : List Value) (hx : a.eval x = .slice A m c) (hl : news.length = m * size) (hr : Rd w A news) (h1 : ∀ u ∈ news, u.oneCell' = true)
    (h63 : n + m ≤ maxLen) (hbytes : (n + m) * bytes ≤ 140737488355328) (hbase : base ≤ w.heap.size)
    (h : ∀ A' c' w', w'.ownsRow base e size (.slice A' (n + m) c') (n + m) (xs ++ news) → w.grownBy w' v.ownBlock → (ablk A' = v.ownBlock ∨ ablk A' = some w.heap.size) → K (a.put o.dst (.slice A' (n + m) c')) w') :
    if Region.wanted o (yielded ops a.tmps) = true then Oper.wp P o a w K Q else E := by
  have hw : Region.wanted o (yielded ops a.tmps) = true := by simp [Region.wanted, hgd]
  rw [if_pos hw]
  exact wp_append_rd w s x t ho base e i z size bytes ht hi hz hsize hby hzs hsz v n xs hs hown A m c news hx hl hr h1 h63 hbytes hbase h
end

theorem str_one (s : ByteArray) : ∀ u ∈ [Value.string s], u.oneCell' = true := by intro u hu; simp at hu; subst hu; rfl
theorem wb_ge (ws : List ByteArray) : 2 * ws.length ≤ (wbytes ws).length := by
  induction ws with
  | nil => simp
  | cons s ws ih => simp only [wbytes, List.length_cons, List.length_append]; omega
/-- The frame's block. -/
def FB (w : World) (p : Nat) (k a b : Int) (wv dv : Value) : Prop := w.heap[p]? = some (.cells #[.int .i64 k, .int .i64 a, .int .i64 b, wv, dv] 25 (0, 0))
theorem FB.cell {w : World} {p : Nat} {k a b : Int} {wv dv : Value} (h : FB w p k a b wv dv) (j : Nat) : w.cell? ⟨p, j, none⟩ = #[Value.int .i64 k, .int .i64 a, .int .i64 b, wv, dv][j]? := by
  unfold FB at h; simp [World.cell?, h]
theorem FB.free {w : World} {p : Nat} {k a b : Int} {wv dv : Value} (h : FB w p k a b wv dv) (j : Nat) : w.frozen? ⟨p, j, none⟩ = false := by
  unfold FB at h; simp [World.frozen?, h]

theorem FB.lt {w : World} {p : Nat} {k a b : Int} {wv dv : Value} (h : FB w p k a b wv dv) : p < w.heap.size := by
  rcases Nat.lt_or_ge p w.heap.size with hlt | hge
  · exact hlt
  · unfold FB at h; rw [Array.getElem?_eq_none hge] at h; cases h
theorem FB.grown {w w' : World} {p : Nat} {k a b : Int} {wv dv : Value} (h : FB w p k a b wv dv) {row : Option Nat} (hg : w.grownBy w' row) (hne : some p ≠ row) : FB w' p k a b wv dv :=
  (hg.block p h.lt hne).trans h
theorem FB.alloc {w : World} {p : Nat} {k a b : Int} {wv dv : Value} (h : FB w p k a b wv dv) (o : Obj) : FB (w.alloc o) p k a b wv dv := h.grown (World.grownBy_alloc w o none) (by simp)
theorem FB.set3 {w : World} {p : Nat} {k a b : Int} {wv dv : Value} (h : FB w p k a b wv dv) (v : Value) : FB (w.setCell ⟨p, 3, none⟩ v) p k a b v dv := by
  unfold FB at h ⊢
  simp [World.setCell, Array.getElem?_modify, h]
theorem FB.set4 {w : World} {p : Nat} {k a b : Int} {wv dv : Value} (h : FB w p k a b wv dv) (v : Value) : FB (w.setCell ⟨p, 4, none⟩ v) p k a b wv v := by
  unfold FB at h ⊢
  simp [World.setCell, Array.getElem?_modify, h]
theorem g_set {w w' : World} {p : Nat} (h : w.grownBy w' (some p)) {a : Addr} (ha : a.block = p) (v : Value) : w.grownBy (w'.setCell a v) (some p) :=
  ⟨h.os, h.tape, h.output, by simpa [World.setCell] using h.size, fun k hk hne => by
    have : k ≠ p := fun e => hne (by rw [e])
    rw [Below.heap_setCell _ _ _ _ (by rw [ha]; exact this)]
    exact h.block k hk hne⟩

def WoPost (w : World) (p : Nat) (k a b : Int) (l : List UInt8) (e : Ending) (w' : World) : Prop :=
  w.grownBy w' (some p) ∧ ((∃ ws v, small ws ∧ wbytes ws = l ∧ e = .returned (.bool true) ∧ FB w' p k a b v (.slice none 0 0) ∧ w'.ownsRow w.heap.size 9 1 v ws.length (ws.map .string)) ∨
       ((¬ ∃ ws, small ws ∧ wbytes ws = l) ∧ e = .returned (.bool false) ∧ ∃ v, FB w' p k a b v (.slice none 0 0)))

theorem wb_short (ws : List ByteArray) (r : List UInt8) (h1 : small ws) (h : r.length = 1) : ¬ ∃ vs, small vs ∧ wbytes vs = wbytes ws ++ r := by
  rintro ⟨vs, hv, e⟩
  obtain ⟨us, _, e2⟩ := wb_cancel ws vs r h1 hv e
  have := wb_ge us
  rw [e2] at this
  rcases us with _ | ⟨u, us⟩
  · simp [wbytes] at e2; subst e2; simp at h
  · simp at this; omega
theorem wb_long (ws : List ByteArray) (x y : UInt8) (r : List UInt8) (h1 : small ws) (h : r.length < x.toNat * 256 + y.toNat) : ¬ ∃ vs, small vs ∧ wbytes vs = wbytes ws ++ x :: y :: r := by
  rintro ⟨vs, hv, e⟩
  obtain ⟨us, e1, e2⟩ := wb_cancel ws vs _ h1 hv e
  rcases us with _ | ⟨u, us⟩
  · simp [wbytes] at e2
  · simp only [wbytes, List.cons.injEq] at e2
    have hu : u.size < 65536 := hv u (by rw [e1]; simp)
    have hx := x.toNat_lt; have hy := y.toNat_lt
    have := hilo_inj u.size (x.toNat * 256 + y.toNat) hu (by omega) (by rw [e2.1, (hilo x y).1]) (by rw [e2.2.1, (hilo x y).2])
    have h3 := congrArg List.length e2.2.2
    rw [List.length_append, sl_len] at h3
    omega

set_option maxHeartbeats 400000 in
theorem woRead_any (p : Nat) (k a b : Int) (A : Option Addr) (n c : Nat) (l : List UInt8) (w : World) (hl : n = l.length) (hn : n ≤ 16384) (hnc : n ≤ c) (hr : Rd w A (bs l)) (hA : ablk A ≠ some p)
    (hf : FB w p k a b (.slice none 0 0) (.slice none 0 0)) :
    Calls Try.prog 49 #[.agg #[], .pointer (some ⟨p, 0, none⟩), .slice A n c] w (WoPost w p k a b l) := by
  have hr' := Lib.hid hr; clear hr
  have hl' := Lib.hid hl; clear hl
  have hf' := Lib.hid hf; clear hf
  have hA' := Lib.hid hA; clear hA
  go_enter Try.func49, Try.ntmps49
  go_wp2_with fail
  go_loopw [2] (fun s wr => ∃ (ws : List ByteArray) (r : List UInt8) (A' : Option Addr) (c' : Nat) (v : Value), s = .slice A' r.length c' ∧ r.length ≤ n ∧ r.length ≤ c' ∧
      Hid (small ws ∧ l = wbytes ws ++ r ∧ Rd wr A' (bs r) ∧ ablk A' = ablk A ∧ w.grownBy wr (some p) ∧ FB wr p k a b v (.slice none 0 0) ∧ wr.ownsRow w.heap.size 9 1 v ws.length (ws.map .string)))
    (fun s _ => slen s)
  case atStart =>
    have e := hl'.out
    refine ⟨[], l, A, c, .slice none 0 0, by rw [e], by omega, by omega, ?_⟩
    refine ⟨(by intro s hs; cases hs), rfl, hr'.out.alloc _, rfl, ?_, hf'.out.alloc _, World.ownsRow_nil _ _ _ _⟩
    repeat (first | exact World.grownBy.refl _ _ | apply g_alloc | apply g_drew)
  case round =>
    obtain ⟨ws, r, A', c', v, rfl, hrn, hrc, H⟩ := hrel
    obtain ⟨x, r1⟩ | hr0 : (∃ x y r1, r = x :: y :: r1) ∨ r.length ≤ 1 := by
      rcases r with _ | ⟨x, _ | ⟨y, r⟩⟩
      · right; simp
      · right; simp
      · left; exact ⟨x, y, r, rfl⟩
    · obtain ⟨y, r1, rfl⟩ := r1
      obtain ⟨h1, h2, h3, h4, h5, h6, h7⟩ := H.out
      obtain ⟨bb, off, rfl, hb, hc0⟩ := h3.at_ (j := 0) (u := b8 x) (by simp [bs])
      obtain ⟨_, _, e, _, hc1⟩ := h3.at_ (j := 1) (u := b8 y) (by simp [bs])
      injection e with e; injection e with e1 e2; subst e1; subst e2
      replace h1 := Lib.hid h1; replace h2 := Lib.hid h2; replace h3 := Lib.hid h3; replace h4 := Lib.hid h4; replace h5 := Lib.hid h5; replace h6 := Lib.hid h6; replace h7 := Lib.hid h7
      generalize hm : (x :: y :: r1).length = m at *
      have hm2 : 2 ≤ m := by simp at hm; omega
      replace hm := Lib.hid hm
      clear H
      have hx := x.toNat_lt; have hy := y.toNat_lt
      unfold b8 at hc0 hc1
      simp only [Nat.add_zero] at hc0
      obtain ⟨q, hq⟩ : ∃ q : Nat, q = x.toNat * 256 + y.toNat := ⟨_, rfl⟩
      have hor := or_bytes x y
      rw [← hq] at hor
      have hq6 : q < 65536 := by omega
      replace hq := Lib.hid hq
      go_wp2_with fail
      go_quiet (fail)
      clear hor hc0 hc1 hx hy
      have k3 : Rd (wr.drewN nq) _ _ := h3.out
      have k5 : w.grownBy (wr.drewN nq) (some p) := ⟨h5.out.os, h5.out.tape, h5.out.output, h5.out.size, h5.out.block⟩
      have k6 : FB (wr.drewN nq) p k a b v (.slice none 0 0) := h6.out
      have k7 : (wr.drewN nq).ownsRow w.heap.size 9 1 v ws.length (ws.map .string) := h7.out
      generalize wr.drewN nq = W at *
      clear h3 h5 h6 h7
      by_cases hlong : m < 2 + q
      · have hlong' : (m : Int) < 2 + q := by omega
        replace k3 := Lib.hid k3; replace k5 := Lib.hid k5; replace k6 := Lib.hid k6; replace k7 := Lib.hid k7
        go_wp2_with fail
        go_ret
        refine ⟨k5.out, .inr ⟨?_, rfl, v, k6.out⟩⟩
        rw [h2.out]
        exact wb_long ws x y r1 h1.out (by rw [← hq.out]; have := hm.out; simp at this; omega)
      · have hlong' : ¬ (m : Int) < 2 + q := by omega
        have hb1 : (2 : Int) + q ≤ c' := by omega
        have hb2 : (2 : Int) ≤ 2 + q := by omega
        have c3 := k6.cell 3
        have f3 := k6.free 3
        simp at c3
        have hr1 : bs (x :: y :: r1) = b8 x :: b8 y :: bs r1 := rfl
        have hlr : r1.length + 2 = m := hm.out
        have hcv : ∀ cc, (convert 23 9 (.slice (if c' = 2 then some ⟨bb, off, none⟩ else some ⟨bb, off + 2, none⟩) q cc)).run Try.prog W.drew = .ok (.string (st (r1.take q))) W.drew := fun cc =>
          conv_str W.drew 23 9 5 Try.underlying23 Try.underlying5 Try.underlying9 _ q cc (r1.take q) (by rw [List.length_take]; omega)
            (by have := ((k3.cut 2 c' (by rw [bs_len, hm.out]; exact hrc)).take q).drew; rw [hr1] at this; simpa [bs, List.map_take] using this)
        clear hr1 hlr
        have hwl : ws.length ≤ 16384 := by
          have := wb_ge ws
          have := congrArg List.length h2.out
          rw [List.length_append] at this
          have := hl'.out
          omega
        have hw0 := k5.size
        have hbb : bb < w.heap.size := by
          obtain ⟨b0, o0, e0, hb0, _⟩ := hr'.out (by rw [h2.out]; simp [bs])
          have := h4.out
          rw [e0] at this
          injection this with this
          simp at this; omega
        have hpW : p < W.heap.size := k6.lt
        have hpw : p < w.heap.size := hf'.out.lt
        replace k3 := Lib.hid k3; replace k5 := Lib.hid k5; replace k6 := Lib.hid k6; replace k7 := Lib.hid k7
        go_wp2_with fail
        obtain ⟨i0, hi0, hz0, hz1, hz2⟩ := info_parts info9
        replace hi0 := Lib.hid hi0; replace hz0 := Lib.hid hz0; replace hz1 := Lib.hid hz1; replace hz2 := Lib.hid hz2
        have s1 : IntKind.i64.wrap (2 + (q : Int)) = 2 + (q : Int) := IntWalk.i64_in _ (by omega)
        have s3 : (2 + (q : Int)).toNat = 2 + q := by omega
        have s2 : (0 : Int) ≤ 2 + (q : Int) := by omega
        go_region_law (go_must (refine step_append_rd rfl (.tmp 33) (.tmp 39) 22 rfl w.heap.size 9 i0 _ 1 16 Try.underlying22 hi0.out hz0.out hz1.out hz2.out rfl (by omega) v ws.length _ rfl (k7.out.drew.alloc _) _ 1 1 [_] rfl rfl (Rd.new _ _ _) (str_one _) (by unfold maxLen; omega) (by omega) (by simp; omega) ?_; intro A1 c1 w1 ho1 hg1 hh1; have F1 : FB w1 p k a b v (.slice none 0 0) := (FB.alloc (w := W.drew) k6.out _).grown hg1 (fun e => by have := (k7.out.lt p e.symm).1; omega); have c4 := F1.cell 3; have f4 := F1.free 3; simp at c4))
        all_goals
          clear s1 s2 s3 hcv c3 f3
          have hs1 : small (ws ++ [st (r1.take q)]) := by
            intro s hs
            rcases List.mem_append.1 hs with h | h
            · exact h1.out s h
            · simp at h; subst h; rw [st_size, List.length_take]; omega
          have e2 : (st (r1.take q)).size = q := by rw [st_size, List.length_take]; have := hm.out; simp at this; omega
          have e3 := hilo x y
          rw [← hq.out] at e3
          have hl2 : l = wbytes (ws ++ [st (r1.take q)]) ++ r1.drop q := by
            rw [h2.out, wbytes_append]; simp [wbytes, e2, e3.1, e3.2, sl_st]
          have e4 : (r1.drop q).length = m - (2 + q) := by rw [List.length_drop]; have := hm.out; simp at this; omega
          have hrow : ablk (some ⟨bb, off, none⟩) ≠ v.ownBlock := fun e => by have := (k7.out.lt bb e.symm).1; omega
          have R1 := ((Rd.alloc (w := W) k3.out _).drew.grown hg1 (.inr hrow)).set (p := ⟨p, 3, none⟩) (.slice A1 (ws.length + 1) c1) (fun e => hA'.out (h4.out ▸ e))
          have R2 := R1.cut (2 + q) c' (by rw [bs_len, hm.out]; exact hrc)
          have e5 : (bs (x :: y :: r1)).drop (2 + q) = bs (r1.drop q) := by rw [Nat.add_comm]; simp [bs]
          rw [e5] at R2
          have G1 := g_set (g_own (g_drew (g_alloc k5.out _)) k7.out (Nat.le_refl _) hg1) (a := ⟨p, 3, none⟩) rfl (.slice A1 (ws.length + 1) c1)
          have O1 := ownsRow_setCell_below ho1 (a := ⟨p, 3, none⟩) hpw (.slice A1 (ws.length + 1) c1)
          have F2 := F1.set3 (.slice A1 (ws.length + 1) c1)
          replace hs1 := Lib.hid hs1; replace e2 := Lib.hid e2; replace e3 := Lib.hid e3; replace hl2 := Lib.hid hl2; replace e4 := Lib.hid e4; replace R2 := Lib.hid R2
          replace G1 := Lib.hid G1; replace O1 := Lib.hid O1; replace F2 := Lib.hid F2
          clear R1 hrow e5 F1 c4 f4 hg1 hh1
          go_wp2_with fail
          refine ⟨⟨ws ++ [st (r1.take q)], r1.drop q, _, _, _, by rw [e4.out], by rw [e4.out]; omega, by rw [e4.out]; omega, hs1.out, hl2.out, R2.out, ?_, G1.out, F2.out, ?_⟩, ?_⟩
          · rw [ablk_ite]; exact h4.out
          · have := O1.out
            rw [List.map_append, List.length_append]
            exact this
          · simp [slen]; omega
    · obtain ⟨h1, h2, h3, h4, h5, h6, h7⟩ := H.out
      replace h1 := Lib.hid h1; replace h2 := Lib.hid h2; replace h3 := Lib.hid h3; replace h4 := Lib.hid h4; replace h5 := Lib.hid h5; replace h6 := Lib.hid h6; replace h7 := Lib.hid h7
      clear H
      generalize hm : r.length = m at *
      replace hm := Lib.hid hm
      by_cases h0 : m = 0
      · replace h0 := Lib.hid h0
        have h0' : ¬ (0 : Int) < m := by have := h0.out; omega
        go_wp2_with fail
        go_ret
        have e : r = [] := List.eq_nil_of_length_eq_zero (by rw [hm.out, h0.out])
        refine ⟨h5.out, .inl ⟨ws, v, h1.out, ?_, rfl, h6.out, h7.out⟩⟩
        rw [h2.out, e]; simp
      · have h0' : (0 : Int) < m := by omega
        have h2' : (m : Int) < 2 := by omega
        go_wp2_with fail
        go_ret
        refine ⟨h5.out, .inr ⟨?_, rfl, v, h6.out⟩⟩
        rw [h2.out]
        exact wb_short ws r h1.out (by rw [hm.out]; omega)
end Go.Proofs.Ytdbjphabmdmjcaa
