/- The plain law and the words of the reference's Read. -/
import Derived.Test.YtdbjphabmdmjcaaG2
import Derived.Test.YtdbjphabmdmjcaaH2
namespace Go.Proofs.Ytdbjphabmdmjcaa
open Go.RowKit
set_option linter.unusedSimpArgs false
set_option linter.unusedVariables false

/-- Cells that are the frames fs as the reference has them. -/
def RfCells (base : Nat) (w : World) : List Fm → List Value → Prop
  | [], xs => xs = []
  | f :: fs, xs => ∃ wa wc ys, xs = .int .i64 f.k :: .int .i64 f.a :: .int .i64 f.b :: .slice wa f.ws.length wc :: .string (st f.d) :: ys ∧
      w.ownsRow base 9 1 (.slice wa f.ws.length wc) f.ws.length (f.ws.map .string) ∧ RfCells base w fs ys
section
variable {base : Nat} {w w' : World}
theorem RfCells.length : ∀ {fs : List Fm} {xs : List Value}, RfCells base w fs xs → xs.length = fs.length * 5
  | [], _, h => by cases h; rfl
  | f :: fs, _, ⟨_, _, ys, e, _, h⟩ => by rw [e]; simp only [List.length_cons]; rw [RfCells.length h]; omega
theorem RfCells.map (hk : ∀ n v xs, w.ownsRow base 9 1 v n xs → w'.ownsRow base 9 1 v n xs) : ∀ {fs : List Fm} {xs : List Value}, RfCells base w fs xs → RfCells base w' fs xs
  | [], _, h => h
  | f :: fs, _, ⟨wa, wc, ys, e, h1, h⟩ => ⟨wa, wc, ys, e, hk _ _ _ h1, RfCells.map hk h⟩
theorem RfCells.snoc : ∀ {fs : List Fm} {xs : List Value} (f : Fm) {wa : Option Addr} {wc : Nat}, RfCells base w fs xs →
    w.ownsRow base 9 1 (.slice wa f.ws.length wc) f.ws.length (f.ws.map .string) →
    RfCells base w (fs ++ [f]) (xs ++ [.int .i64 f.k, .int .i64 f.a, .int .i64 f.b, .slice wa f.ws.length wc, .string (st f.d)])
  | [], _, f, wa, wc, h, h1 => by cases h; exact ⟨wa, wc, [], rfl, h1, rfl⟩
  | g :: fs, _, f, wa, wc, ⟨a, b, ys, e, k1, h⟩, h1 => by
    subst e
    exact ⟨a, b, _, rfl, k1, RfCells.snoc f h h1⟩
theorem RfCells.nth : ∀ {fs : List Fm} {xs : List Value} {i : Nat} {f : Fm}, RfCells base w fs xs → fs[i]? = some f →
    ∃ wa wc, xs[i * 5]? = some (.int .i64 f.k) ∧ xs[i * 5 + 1]? = some (.int .i64 f.a) ∧ xs[i * 5 + 2]? = some (.int .i64 f.b) ∧ xs[i * 5 + 3]? = some (.slice wa f.ws.length wc) ∧ xs[i * 5 + 4]? = some (.string (st f.d)) ∧
      w.ownsRow base 9 1 (.slice wa f.ws.length wc) f.ws.length (f.ws.map .string)
  | [], _, i, f, _, hf => by simp at hf
  | g :: fs, _, 0, f, ⟨wa, wc, ys, e, h1, h⟩, hf => by
    simp at hf; subst hf; subst e
    exact ⟨wa, wc, rfl, rfl, rfl, rfl, rfl, h1⟩
  | g :: fs, _, i + 1, f, ⟨wa, wc, ys, e, h1, h⟩, hf => by
    subst e
    obtain ⟨a, b, k0, k1, k2, k3, k4, k5⟩ := RfCells.nth (i := i) h (by simpa using hf)
    have e0 : (i + 1) * 5 = i * 5 + 5 := by omega
    exact ⟨a, b, by rw [e0]; simpa using k0, by rw [e0]; simpa using k1, by rw [e0]; simpa using k2, by rw [e0]; simpa using k3, by rw [e0]; simpa using k4, k5⟩
end
theorem info33 : (Try.prog.info? 33).map (fun i => (i.zero, i.size, i.bytes)) = some (some (.agg #[.int .i64 0, .int .i64 0, .int .i64 0, .slice none 0 0, .string ByteArray.empty]), 5, 64) := by kernel_rfl
section
variable {ops : Array Oper} {rest : List Oper} {o : Oper} {a : Act} {Q : Exit → Act → World → Prop} {w : World}
theorem ap33 (hgd : o.guard = none) (s x : Operand) (ho : o.op = .call { callee := .builtin .append, args := #[s, x], argTypes := #[43, 43] })
    (base : Nat) (v : Value) (n : Nat) (xs : List Value) (hs : a.eval s = v) (hown : w.ownsRow base 33 5 v n xs)
    (A : Option Addr) (m c : Nat) (news : List Value) (hx : a.eval x = .slice A m c) (hl : news.length = m * 5) (hr : Rd w A news) (h1 : ∀ u ∈ news, u.oneCell' = true)
    (hb : n + m ≤ 1099511627776) (hbase : base ≤ w.heap.size)
    (h : ∀ A' c' w', w'.ownsRow base 33 5 (.slice A' (n + m) c') (n + m) (xs ++ news) → w.grownBy w' v.ownBlock → (ablk A' = v.ownBlock ∨ ablk A' = some w.heap.size) → wpList Try.prog ops Q rest (a.put o.dst (.slice A' (n + m) c')) w') : wpList Try.prog ops Q (o :: rest) a w := by
  obtain ⟨i0, hi0, hz0, hz1, hz2⟩ := info_parts info33
  exact wpList_append_rd w hgd s x 43 ho base 33 i0 _ 5 64 Try.underlying43 hi0 hz0 hz1 hz2 rfl (by omega) v n xs hs hown A m c news hx hl hr h1 (by unfold maxLen; omega) (by omega) hbase h
end
/-- The frames that a slice of the reference has. -/
def RfsV (base : Nat) (w : World) (v : Value) (fs : List Fm) : Prop := ∃ A c xs, v = .slice A fs.length c ∧ w.ownsRow base 33 5 (.slice A fs.length c) fs.length xs ∧ RfCells base w fs xs
theorem RfsV.keep {base : Nat} {w w' : World} {v : Value} {fs : List Fm} (h : RfsV base w v fs) (hg : w.grownBy w' none) : RfsV base w' v fs := by
  obtain ⟨A, c, xs, e, h1, h2⟩ := h
  exact ⟨A, c, xs, e, own_keep h1 hg, RfCells.map (fun _ _ _ h => own_keep h hg) h2⟩
theorem RfsV.nil (base : Nat) (w : World) : RfsV base w (.slice none 0 0) [] := ⟨none, 0, [], rfl, World.ownsRow_nil _ _ _ _, rfl⟩

/-- The one frame that bytes can be. -/
def Cand (bo : List UInt8) (f : Fm) : Prop := f.enc = bo ∧ ∀ g, Body bo g → g = f
theorem Cand.bad {bo : List UInt8} {f : Fm} (h : Cand bo f) (hr : f.right = false) : ¬ ∃ g, Body bo g := by
  rintro ⟨g, hg⟩
  rw [← h.2 g hg, hg.1] at hr; cases hr
theorem Cand.body {bo : List UInt8} {f : Fm} (h : Cand bo f) (hr : f.right = true) : Body bo f := ⟨hr, h.1⟩
theorem cand_words (zk za zb : UInt8) (ws : List ByteArray) (hk : zk.toNat = 2) (hs : small ws) : Cand (zk :: za :: zb :: wbytes ws) ⟨zk.toNat, za.toNat, zb.toNat, ws, []⟩ := by
  have hk' : ((zk.toNat : Int)) = 2 := by omega
  have hc2 : c8 2 = zk := by rw [← hk', c8_of]
  refine ⟨by simp only [Fm.enc, encB, Fm.pay, c8_of, hk', if_true, hc2], fun g hg => ?_⟩
  obtain ⟨e1, e2, e3, e4⟩ := Fm.enc_eq hg.2 hg.1
  obtain ⟨_, _, _, g2, g3, _⟩ := right_bounds hg.1
  have h2 : g.k = 2 := by rw [e1, hk']
  obtain ⟨_, gd, gl⟩ := g2 h2
  simp only [Fm.pay, h2, if_true] at e4
  have ew := wb_inj ws g.ws hs (longs_small gl) e4
  exact Fm.ext' e1 e2 e3 ew (List.eq_nil_of_length_eq_zero gd)
theorem cand_none (zk za zb : UInt8) (pl : List UInt8) (hk : zk.toNat = 2) (h : ¬ ∃ ws, small ws ∧ wbytes ws = pl) : ¬ ∃ g, Body (zk :: za :: zb :: pl) g := by
  rintro ⟨g, hg⟩
  have hk' : ((zk.toNat : Int)) = 2 := by omega
  obtain ⟨e1, e2, e3, e4⟩ := Fm.enc_eq hg.2 hg.1
  obtain ⟨_, _, _, g2, g3, _⟩ := right_bounds hg.1
  have h2 : g.k = 2 := by rw [e1, hk']
  obtain ⟨_, gd, gl⟩ := g2 h2
  simp only [Fm.pay, h2, if_true] at e4
  exact h ⟨g.ws, longs_small gl, e4⟩
theorem cand_data (zk za zb : UInt8) (pl : List UInt8) (hk : zk.toNat ≠ 2) : Cand (zk :: za :: zb :: pl) ⟨zk.toNat, za.toNat, zb.toNat, [], pl⟩ := by
  have hk' : ((zk.toNat : Int)) ≠ 2 := by omega
  refine ⟨by simp [Fm.enc, encB, Fm.pay, c8_of, hk'], fun g hg => ?_⟩
  obtain ⟨e1, e2, e3, e4⟩ := Fm.enc_eq hg.2 hg.1
  obtain ⟨_, _, _, g2, g3, _⟩ := right_bounds hg.1
  have h2 : g.k ≠ 2 := by rw [e1]; exact hk'
  simp only [Fm.pay, h2, if_false] at e4
  exact Fm.ext' e1 e2 e3 (List.eq_nil_of_length_eq_zero (g3 h2)) e4

def ReadPost (w : World) (s : ByteArray) (e : Ending) (w' : World) : Prop :=
  ∃ fs rest ok v, Run (sl s) fs rest ok ∧ rest.length ≤ s.size ∧ e = .returned (.tuple #[v, .int .i64 ((s.size - rest.length : Nat) : Int), .bool ok]) ∧ RfsV w.heap.size w' v fs ∧ w.grownBy w' none
/-- What holds at the loop's head: j bytes are read. -/
def ReadInv (w : World) (s : ByteArray) (j : Nat) (v : Value) (wr : World) : Prop :=
  ∃ fs, (∀ fs' rest ok, Run ((sl s).drop j) fs' rest ok → Run (sl s) (fs ++ fs') rest ok) ∧ RfsV w.heap.size wr v fs ∧ w.grownBy wr none ∧ fs.length ≤ j
theorem ReadInv.stop {w wr wk : World} {s : ByteArray} {j : Nat} {v : Value} {ok : Bool} (h : ReadInv w s j v wr) (hj : j ≤ s.size) (hr : Run ((sl s).drop j) [] ((sl s).drop j) ok) (hg : wr.grownBy wk none) :
    ReadPost w s (.returned (.tuple #[v, .int .i64 (j : Int), .bool ok])) wk := by
  obtain ⟨fs, h1, h2, h3, _⟩ := h
  have hl : ((sl s).drop j).length = s.size - j := by rw [List.length_drop, sl_len]
  have e : s.size - (s.size - j) = j := by omega
  refine ⟨fs, (sl s).drop j, ok, v, by simpa using h1 _ _ _ hr, by omega, by rw [hl, e], h2.keep hg, h3.trans hg⟩
theorem at_two (s : ByteArray) (j : Nat) (h0 : j < s.size) (h1 : j + 1 < s.size) : ∃ r, (sl s).drop j = s[j] :: s[j + 1] :: r ∧ r.length + 2 + j = s.size ∧ r = (sl s).drop (j + 2) := by
  have hl := sl_len s
  have e0 : (sl s)[j]'(by rw [hl]; exact h0) = s[j] := by simp [sl]; rfl
  have e1 : (sl s)[j + 1]'(by rw [hl]; exact h1) = s[j + 1] := by simp [sl]; rfl
  refine ⟨(sl s).drop (j + 2), ?_, by rw [List.length_drop]; omega, rfl⟩
  rw [List.drop_eq_getElem_cons (by rw [hl]; exact h0), List.drop_eq_getElem_cons (by rw [hl]; exact h1), e0, e1]
theorem sl_three (t : ByteArray) (h0 : 0 < t.size) (h1 : 1 < t.size) (h2 : 2 < t.size) : sl t = t[0] :: t[1] :: t[2] :: sl (t.extract 3 t.size) := by
  have hl := sl_len t
  have e0 : (sl t)[0]'(by rw [hl]; exact h0) = t[0] := by simp [sl]; rfl
  have e1 : (sl t)[1]'(by rw [hl]; exact h1) = t[1] := by simp [sl]; rfl
  have e2 : (sl t)[2]'(by rw [hl]; exact h2) = t[2] := by simp [sl]; rfl
  have e3 := sl_drop t 3
  have := List.drop_eq_getElem_cons (l := sl t) (i := 0) (by rw [hl]; exact h0)
  rw [List.drop_zero] at this
  rw [e3]
  conv => lhs; rw [this, List.drop_eq_getElem_cons (by rw [hl]; exact h1), List.drop_eq_getElem_cons (by rw [hl]; exact h2), e0, e1, e2]
end Go.Proofs.Ytdbjphabmdmjcaa
