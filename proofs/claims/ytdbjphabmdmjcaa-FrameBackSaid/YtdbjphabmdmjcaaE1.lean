/- Contract: Feed. -/
import Derived.Test.YtdbjphabmdmjcaaD3
namespace Go.Proofs.Ytdbjphabmdmjcaa
open Go.RowKit
set_option linter.unusedSimpArgs false
set_option linter.unusedVariables false

inductive Run : List UInt8 → List Fm → List UInt8 → Bool → Prop
  | wait (l : List UInt8) (h : Wait l) : Run l [] l true
  | bad (l : List UInt8) (h : Bad l) : Run l [] l false
  | take (l : List UInt8) (f : Fm) (r : List UInt8) (fs : List Fm) (rest : List UInt8) (ok : Bool) (h : Take l f r) (hr : Run r fs rest ok) : Run l (f :: fs) rest ok

theorem own_ne {w : World} {b1 b2 s1 s2 n1 n2 : Nat} {e1 e2 : TypeId} {v1 v2 : Value} {x1 x2 : List Value} (h1 : w.ownsRow b1 e1 s1 v1 n1 x1) (h2 : w.ownsRow b2 e2 s2 v2 n2 x2) (hne : e1 ≠ e2) : v1.ownBlock = none ∨ v1.ownBlock ≠ v2.ownBlock := by
  rcases h1.2 with ⟨rfl, _⟩ | ⟨g1, c1, cur1, rfl, _, hg1, _⟩
  · exact .inl rfl
  right
  rcases h2.2 with ⟨rfl, _⟩ | ⟨g2, c2, cur2, rfl, _, hg2, _⟩
  · simp [Value.ownBlock]
  · intro e
    have : g1 = g2 := by simpa [Value.ownBlock] using e
    subst this
    rw [hg1] at hg2
    injection hg2 with hg2
    injection hg2 with _ ht
    exact hne ht

/-- Cells that are the frames fs, one behind the other. -/
def FrCells (base : Nat) (w : World) : List Fm → List Value → Prop
  | [], xs => xs = []
  | f :: fs, xs => ∃ wa wc da dc ys, xs = .int .i64 f.k :: .int .i64 f.a :: .int .i64 f.b :: .slice wa f.ws.length wc :: .slice da f.d.length dc :: ys ∧
      w.ownsRow base 9 1 (.slice wa f.ws.length wc) f.ws.length (f.ws.map .string) ∧ w.ownsRow base 5 1 (.slice da f.d.length dc) f.d.length (bs f.d) ∧ FrCells base w fs ys

section
variable {base : Nat} {w w' : World}
theorem FrCells.length : ∀ {fs : List Fm} {xs : List Value}, FrCells base w fs xs → xs.length = fs.length * 5
  | [], _, h => by cases h; rfl
  | f :: fs, _, ⟨_, _, _, _, ys, e, _, _, h⟩ => by rw [e]; simp only [List.length_cons]; rw [FrCells.length h]; omega
theorem FrCells.map (hk : ∀ e n v xs, (e = 9 ∨ e = 5) → w.ownsRow base e 1 v n xs → w'.ownsRow base e 1 v n xs) : ∀ {fs : List Fm} {xs : List Value}, FrCells base w fs xs → FrCells base w' fs xs
  | [], _, h => h
  | f :: fs, _, ⟨wa, wc, da, dc, ys, e, h1, h2, h⟩ => ⟨wa, wc, da, dc, ys, e, hk _ _ _ _ (.inl rfl) h1, hk _ _ _ _ (.inr rfl) h2, FrCells.map hk h⟩
theorem FrCells.snoc : ∀ {fs : List Fm} {xs : List Value} (f : Fm) {wa da : Option Addr} {wc dc : Nat}, FrCells base w fs xs →
    w.ownsRow base 9 1 (.slice wa f.ws.length wc) f.ws.length (f.ws.map .string) → w.ownsRow base 5 1 (.slice da f.d.length dc) f.d.length (bs f.d) →
    FrCells base w (fs ++ [f]) (xs ++ [.int .i64 f.k, .int .i64 f.a, .int .i64 f.b, .slice wa f.ws.length wc, .slice da f.d.length dc])
  | [], _, f, wa, da, wc, dc, h, h1, h2 => by cases h; exact ⟨wa, wc, da, dc, [], rfl, h1, h2, rfl⟩
  | g :: fs, _, f, wa, da, wc, dc, ⟨a, b, c, d, ys, e, k1, k2, h⟩, h1, h2 => by
    subst e
    exact ⟨a, b, c, d, _, rfl, k1, k2, FrCells.snoc f h h1 h2⟩
end

theorem info25 : (Try.prog.info? 25).map (fun i => (i.zero, i.size, i.bytes)) = some (some (.agg #[.int .i64 0, .int .i64 0, .int .i64 0, .slice none 0 0, .slice none 0 0]), 5, 72) := by kernel_rfl
section
variable {ops : Array Oper} {rest : List Oper} {o : Oper} {a : Act} {Q : Exit → Act → World → Prop} {w : World}
theorem ap25 (hgd : o.guard = none) (s x : Operand) (ho : o.op = .call { callee := .builtin .append, args := #[s, x], argTypes := #[39, 39] })
    (base : Nat) (v : Value) (n : Nat) (xs : List Value) (hs : a.eval s = v) (hown : w.ownsRow base 25 5 v n xs)
    (A : Option Addr) (m c : Nat) (news : List Value) (hx : a.eval x = .slice A m c) (hl : news.length = m * 5) (hr : Rd w A news) (h1 : ∀ u ∈ news, u.oneCell' = true)
    (hb : n + m ≤ 1099511627776) (hbase : base ≤ w.heap.size)
    (h : ∀ A' c' w', w'.ownsRow base 25 5 (.slice A' (n + m) c') (n + m) (xs ++ news) → w.grownBy w' v.ownBlock → (ablk A' = v.ownBlock ∨ ablk A' = some w.heap.size) → wpList Try.prog ops Q rest (a.put o.dst (.slice A' (n + m) c')) w') : wpList Try.prog ops Q (o :: rest) a w := by
  obtain ⟨i0, hi0, hz0, hz1, hz2⟩ := info_parts info25
  exact wpList_append_rd w hgd s x 39 ho base 25 i0 _ 5 72 Try.underlying39 hi0 hz0 hz1 hz2 rfl (by omega) v n xs hs hown A m c news hx hl hr h1 (by unfold maxLen; omega) (by omega) hbase h
end

/-- The frames that a slice has. -/
def FrsV (base : Nat) (w : World) (v : Value) (fs : List Fm) : Prop := ∃ A c xs, v = .slice A fs.length c ∧ w.ownsRow base 25 5 (.slice A fs.length c) fs.length xs ∧ FrCells base w fs xs

theorem own_but {w w' : World} {base size n p : Nat} {e : TypeId} {v : Value} {xs : List Value} (h : w.ownsRow base e size v n xs) (hg : w.grownBy w' (some p)) (hp : p < base) : w'.ownsRow base e size v n xs :=
  h.kept hg (by
    rcases hv : v.ownBlock with _ | b
    · exact .inl rfl
    · right; intro e; injection e with e; have := (h.lt b hv).1; omega)
theorem FrsV.keep {base : Nat} {w w' : World} {v : Value} {fs : List Fm} (h : FrsV base w v fs) (hg : w.grownBy w' none) : FrsV base w' v fs := by
  obtain ⟨A, c, xs, e, h1, h2⟩ := h
  exact ⟨A, c, xs, e, own_keep h1 hg, FrCells.map (fun _ _ _ _ _ h => own_keep h hg) h2⟩
theorem FrsV.but {base p : Nat} {w w' : World} {v : Value} {fs : List Fm} (h : FrsV base w v fs) (hg : w.grownBy w' (some p)) (hp : p < base) : FrsV base w' v fs := by
  obtain ⟨A, c, xs, e, h1, h2⟩ := h
  exact ⟨A, c, xs, e, own_but h1 hg hp, FrCells.map (fun _ _ _ _ _ h => own_but h hg hp) h2⟩
theorem FrsV.le {base base' : Nat} {w : World} {v : Value} {fs : List Fm} (h : FrsV base w v fs) (hb : base' ≤ base) : FrsV base' w v fs := by
  obtain ⟨A, c, xs, e, h1, h2⟩ := h
  refine ⟨A, c, xs, e, own_le h1 hb, ?_⟩
  have : ∀ {fs : List Fm} {xs : List Value}, FrCells base w fs xs → FrCells base' w fs xs := by
    intro fs
    induction fs with
    | nil => intro xs h; exact h
    | cons f fs ih =>
      intro xs h
      obtain ⟨wa, wc, da, dc, ys, e, k1, k2, h⟩ := h
      exact ⟨wa, wc, da, dc, ys, e, own_le k1 hb, own_le k2 hb, ih h⟩
  exact this h2

def FeedPost (w : World) (p : Nat) (L : List UInt8) (e : Ending) (w' : World) : Prop :=
  ∃ fs rest ok v, Run L fs rest ok ∧ e = .returned (.tuple #[v, .int .i64 (if ok then 0 else 4)]) ∧ FrsV w.heap.size w' v fs ∧ w.grownBy w' (some p) ∧
    (ok = true → ∃ A c, RB w' p (.slice A rest.length c) false ∧ Rd w' A (bs rest) ∧ rest.length ≤ c ∧ ablk A ≠ some p ∧ ∀ b, ablk A = some b → w.heap.size ≤ b) ∧ (ok = false → RB w' p (.slice none 0 0) true)

set_option maxHeartbeats 400000 in
theorem feed_broken (p : Nat) (s b : Value) (w : World) (hr : RB w p s true) :
    Calls Try.prog 15 #[.pointer (some ⟨p, 0, none⟩), b] w fun e w' => e = .returned (.tuple #[.slice none 0 0, .int .i64 4]) ∧ w = w' := by
  have c1 := hr.cell 1
  simp at c1
  go_enter Try.func15, Try.ntmps15
  go_wp2_with fail
  go_ret2
  exact ⟨rfl, rfl⟩

/-- How many bytes the reader at p holds. -/
def leftOf (p : Nat) (w : World) : Nat := match w.heap[p]? with
  | some (.cells c _ _) => slen (c.getD 0 .nilIface)
  | _ => 0
theorem leftOf_RB {w : World} {p : Nat} {s : Value} {br : Bool} (h : RB w p s br) : leftOf p w = slen s := by
  unfold RB at h; simp [leftOf, h]
/-- What holds at the loop's head: w3 is the world where the bytes had been laid together. -/
def FeedInv (w w3 : World) (p : Nat) (L : List UInt8) (v : Value) (wr : World) : Prop :=
  ∃ fs l A c, (∀ fs' rest ok, Run l fs' rest ok → Run L (fs ++ fs') rest ok) ∧ RB wr p (.slice A l.length c) false ∧ Rd wr A (bs l) ∧ l.length ≤ c ∧ (∀ b, ablk A = some b → (b < w3.heap.size ∧ b ≠ p) ∧ w.heap.size ≤ b) ∧
    w.grownBy wr (some p) ∧ w3.heap.size ≤ wr.heap.size ∧ fs.length + l.length ≤ L.length ∧ FrsV w3.heap.size wr v fs

theorem FeedInv.base {w w3 : World} {p : Nat} {L : List UInt8} {v : Value} (h : FeedInv w w3 p L v w3) : p < w3.heap.size ∧ w.heap.size ≤ w3.heap.size := by
  obtain ⟨_, _, _, _, _, hRB0, _, _, _, hG0, _⟩ := h
  exact ⟨hRB0.lt, hG0.size⟩
theorem Rd.new' {w : World} (cs : Array Value) (t : TypeId) {n : Nat} (hn : n = w.heap.size) : Rd (w.alloc (.cells cs t)) (some ⟨n, 0, none⟩) cs.toList := by subst hn; exact Rd.new w cs t
def obF (f : Fm) (wa : Option Addr) (wc : Nat) (da : Option Addr) (dc : Nat) : Obj := .cells #[.int .i64 f.k, .int .i64 f.a, .int .i64 f.b, .slice wa f.ws.length wc, .slice da f.d.length dc] 25
def ob0 : Obj := .cells #[.int .i64 0, .int .i64 0, .int .i64 0, .slice none 0 0, .slice none 0 0] 25

set_option maxHeartbeats 1000000 in
theorem feed_any (p : Nat) (A B : Option Addr) (n m c d : Nat) (l bl : List UInt8) (w : World) (hr : RB w p (.slice A n c) false) (hR : Rd w A (bs l)) (hn : n = l.length) (hB : Rd w B (bs bl)) (hm : m = bl.length) (hlen : n + m ≤ 1099511627776) :
    Calls Try.prog 15 #[.pointer (some ⟨p, 0, none⟩), .slice B m d] w (FeedPost w p (l ++ bl)) := by
  have c0 := hr.cell 0
  have c1 := hr.cell 1
  have f0 := hr.free 0
  simp at c0 c1
  have hp := hr.lt
  have CL := Lib.hid (clone_any A n c l w hn (by omega) hR)
  replace hr := Lib.hid hr; replace hR := Lib.hid hR; replace hB := Lib.hid hB; replace hn := Lib.hid hn; replace hm := Lib.hid hm
  go_enter Try.func15, Try.ntmps15
  go_wp2_with (first
    | (go_at_call 27; refine CL.out.mono ?_; rintro e w1 ⟨A1, k1, rfl, O1, G1⟩; have B1 := hr.out.grown G1 (by simp); have R1 := hB.out.grown G1 (.inl rfl))
    | (at_builtin; refine ap5 rfl (.tmp 19) (.tmp 20) rfl w.heap.size (.slice A1 n k1) n _ rfl O1 B m d (bs bl) rfl (by rw [bs_len, hm.out]) R1 (bs_one _) (by omega) G1.size ?_; intro A2 k2 w2 O2 G2 hh2; have B2 := B1.grown G2 (fun e => by have := (O1.lt p e.symm).1; omega); have c2 := B2.cell 0; have f2 := B2.free 0; simp at c2)
    | fail)
  have w3def : ∃ w3, w3 = w2.setCell ⟨p, 0, none⟩ (.slice A2 (n + m) k2) := ⟨_, rfl⟩
  obtain ⟨w3, hw3⟩ := w3def
  have hI : FeedInv w w3 p (l ++ bl) (.slice none 0 0) w3 := by
    have O3 : w2.ownsRow w.heap.size 5 1 (.slice A2 (n + m) k2) (n + m) (bs (l ++ bl)) := by rw [bs_append]; exact O2
    obtain ⟨A5, c5, e5, R5, a5, k5, _⟩ := Rd.of_own O3
    injection e5 with e5 _ e6
    subst e5; subst e6
    have hL : (l ++ bl).length = n + m := by rw [List.length_append, hn.out, hm.out]
    have hb : ∀ b, ablk A2 = some b → (b < w3.heap.size ∧ b ≠ p) ∧ w.heap.size ≤ b := by
      intro b hb
      rw [a5] at hb
      have := O3.lt b hb
      exact ⟨⟨by rw [hw3]; simpa [World.setCell] using this.2, by omega⟩, this.1⟩
    have G3 : w.grownBy w2 none := g_own G1 O1 (Nat.le_refl _) G2
    refine ⟨[], l ++ bl, A2, k2, fun _ _ _ h => h, ?_, ?_, by rw [hL]; exact k5, hb, ?_, Nat.le_refl _, by simp, none, 0, [], rfl, World.ownsRow_nil _ _ _ _, rfl⟩
    · rw [hw3, hL]; exact B2.set0 _
    · rw [hw3]; exact R5.set _ (fun e => (hb p e).1.2 rfl)
    · rw [hw3]; exact g_set (G3.but _) rfl _
  replace hI := Lib.hid hI
  rw [← hw3]
  clear hw3 c2 f2 B2 O2 G2 hh2 O1 G1 B1 R1 CL c0 c1 f0
  go_wp2_with fail
  go_loopw [6] (fun v wr => Hid (FeedInv w w3 p (l ++ bl) v wr)) (fun _ wr => leftOf p wr)
  case atStart => exact hI.out
  case round =>
    obtain ⟨fs, l1, A1, k1, hRun, hRB, hRd, hle, hA, hG, hsz, hcnt, hFrs⟩ := hrel.out
    obtain ⟨hp3, hw3⟩ := FeedInv.base hI.out
    have hLen : (l ++ bl).length ≤ 1099511627776 := by rw [List.length_append, ← hn.out, ← hm.out]; exact hlen
    have hApn : ablk A1 ≠ some p := fun e => (hA p e).1.2 rfl
    have CO := Lib.hid (one_any p A1 l1.length k1 l1 wr hRB hRd rfl hle (by omega) hApn)
    have hlo := leftOf_RB hRB
    obtain ⟨Av, cv, xs, rfl, hOwn, hCells⟩ := hFrs
    replace hRun := Lib.hid hRun; replace hRB := Lib.hid hRB; replace hRd := Lib.hid hRd; replace hA := Lib.hid hA; replace hG := Lib.hid hG; replace hlo := Lib.hid hlo
    replace hOwn := Lib.hid hOwn; replace hCells := Lib.hid hCells; replace hApn := Lib.hid hApn; replace hLen := Lib.hid hLen; replace hcnt := Lib.hid hcnt
    clear hrel
    go_wp2_with fail
    refine CO.out.mono ?_
    rintro e w5 (⟨hW, rfl, g⟩ | ⟨hB5, rfl, g⟩ | ⟨f, r', v, A', c', hT, rfl, hF, g, hRB5, hR5, hl5, ha5⟩)
    · have B5 := hRB.out.grown g (by simp)
      replace B5 := Lib.hid B5; replace g := Lib.hid g
      unfold fr0
      go_wp2_with fail
      go_ret2
      have g2 := World.grownBy.trans g.out (World.grownBy_alloc w5 ob0 none)
      refine ⟨fs, l1, true, _, ?_, rfl, ((FrsV.keep ⟨Av, cv, xs, rfl, hOwn.out, hCells.out⟩ g2).le hw3), hG.out.trans (g2.but _), fun _ => ⟨A1, k1, ?_, (hRd.out.grown g2 (.inl rfl)), hle, hApn.out, fun b hb => (hA.out b hb).2⟩, fun h => by cases h⟩
      · have := hRun.out [] l1 true (.wait l1 hW)
        simpa using this
      · exact hRB.out.grown g2 (by simp)
    · have B5 := hRB.out.grown g (by simp)
      have q0 := B5.cell 0; have q1 := B5.cell 1; have f0 := B5.free 0; have f1 := B5.free 1
      have hp5 := B5.lt
      simp at q0 q1
      replace B5 := Lib.hid B5; replace g := Lib.hid g
      unfold fr0
      go_wp2_with fail
      go_ret2
      have g3 : wr.grownBy (((w5.setCell ⟨p, 1, none⟩ (.bool true)).setCell ⟨p, 0, none⟩ (.slice none 0 0)).alloc ob0) (some p) := g_alloc (g_set (a := ⟨p, 0, none⟩) (g_set (a := ⟨p, 1, none⟩) (g.out.but (some p)) rfl _) rfl _) _
      refine ⟨fs, l1, false, _, ?_, rfl, ((FrsV.but ⟨Av, cv, xs, rfl, hOwn.out, hCells.out⟩ g3 hp3).le hw3), hG.out.trans g3, (fun h => by cases h), fun _ => ?_⟩
      · have := hRun.out [] l1 false (.bad l1 hB5)
        simpa using this
      · exact ((B5.out.set1 true).set0 (.slice none 0 0)).grown (World.grownBy_alloc _ ob0 none) (by simp)
    · obtain ⟨wa, wc, da, dc, rfl, o1, o2⟩ := hF
      obtain ⟨x, y, r, hl, n1, n2, n3, hb, hr'⟩ := id hT
      have hlt : r'.length < l1.length := by rw [hl, hr', List.length_drop]; simp; omega
      have hp5 := hRB5.lt
      have hs5 := g.size
      -- the box, and the literal of one frame
      have O5 := own_but hOwn.out g hp3
      have C5 := FrCells.map (base := w3.heap.size) (fun _ _ _ _ _ h => own_but h g hp3) hCells.out
      have o1' := own_le (base' := w3.heap.size) o1 hsz
      have o2' := own_le (base' := w3.heap.size) o2 hsz
      have C6 := C5.snoc f o1' o2'
      have hone : ∀ u ∈ [Value.int .i64 f.k, .int .i64 f.a, .int .i64 f.b, .slice wa f.ws.length wc, .slice da f.d.length dc], u.oneCell' = true := by
        intro u hu
        simp only [List.mem_cons, List.not_mem_nil, or_false] at hu
        rcases hu with rfl | rfl | rfl | rfl | rfl <;> rfl
      have hlen1 : fs.length + 1 ≤ 1099511627776 := by have := hcnt.out; have := hLen.out; omega
      replace hlt := Lib.hid hlt; replace g := Lib.hid g; replace hRB5 := Lib.hid hRB5; replace hR5 := Lib.hid hR5; replace ha5 := Lib.hid ha5; replace O5 := Lib.hid O5; replace C6 := Lib.hid C6; replace o1 := Lib.hid o1; replace o2 := Lib.hid o2
      replace o1' := Lib.hid o1'; replace o2' := Lib.hid o2'; replace C5 := Lib.hid C5; replace hone := Lib.hid hone; replace hl := Lib.hid hl; replace hr' := Lib.hid hr'
      have hRl := Lib.hid (Rd.new' (w := w5.alloc (obF f wa wc da dc)) #[.int .i64 f.k, .int .i64 f.a, .int .i64 f.b, .slice wa f.ws.length wc, .slice da f.d.length dc] 25 (n := w5.heap.size + 1) (by simp))
      clear n1 n2 n3 hb
      go_wp2_with (first
        | (at_builtin; go_must (refine ap25 rfl (.tmp 41) (.tmp 43) rfl w3.heap.size (.slice Av fs.length cv) fs.length xs rfl ((O5.out.alloc _).alloc _) _ 1 1 _ rfl rfl hRl.out hone.out hlen1 (by simp; omega) ?_; intro A6 c6 w6 O6 G6 hh6))
        | fail)
      have g1 : w.grownBy ((w5.alloc (obF f wa wc da dc)).alloc (obF f wa wc da dc)) (some p) := g_alloc (g_alloc (hG.out.trans g.out) _) _
      have O7 : ((w5.alloc (obF f wa wc da dc)).alloc (obF f wa wc da dc)).ownsRow w3.heap.size 25 5 (.slice Av fs.length cv) fs.length xs := (O5.out.alloc _).alloc _
      have g6 : w.grownBy w6 (some p) := g_own g1 O7 hw3 G6
      have hpv : some p ≠ (Value.slice Av fs.length cv).ownBlock := fun e => by have := (O5.out.lt p e.symm).1; omega
      have R6 : Rd w6 A' (bs r') := by
        have R5 : Rd ((w5.alloc (obF f wa wc da dc)).alloc (obF f wa wc da dc)) A' (bs r') := (hR5.out.alloc _).alloc _
        have ha := ha5.out
        rcases A' with _ | ad
        · rw [R5.none_nil]; exact Rd.nil _ _
        · refine R5.grown G6 (.inr (fun e => ?_))
          have h1 := (hA.out ad.block (by rw [← ha]; rfl)).1.1
          have := (O5.out.lt ad.block e.symm).1
          omega
      have B6 : RB w6 p (.slice A' r'.length c') false := ((hRB5.out.grown (World.grownBy_alloc w5 (obF f wa wc da dc) none) (by simp)).grown (World.grownBy_alloc _ (obF f wa wc da dc) none) (by simp)).grown G6 hpv
      have C7 := FrCells.map (w' := w6) (fun e n v xs he h => ((h.alloc (obF f wa wc da dc)).alloc (obF f wa wc da dc)).kept G6 (own_ne ((h.alloc (obF f wa wc da dc)).alloc (obF f wa wc da dc)) O7 (by rcases he with rfl | rfl <;> decide))) C6.out
      have hs6 : w3.heap.size ≤ w6.heap.size := by have := G6.size; simp at this; omega
      have hI6 : FeedInv w w3 p (l ++ bl) (.slice A6 (fs.length + 1) c6) w6 := by
        refine ⟨fs ++ [f], r', A', c', fun fs' rest ok h => ?_, B6, R6, hl5, fun b hb => hA.out b (by rw [← ha5.out]; exact hb), g6, hs6, ?_, A6, c6, _, by simp, ?_, C7⟩
        · rw [List.append_assoc]; exact hRun.out _ _ _ (.take l1 f r' fs' rest ok hT h)
        · have h1 := hlt.out; have h2 := hcnt.out
          have e : (fs ++ [f]).length = fs.length + 1 := by simp
          omega
        · have e : (fs ++ [f]).length = fs.length + 1 := by simp
          rw [e]; exact O6
      refine ⟨hI6, ?_⟩
      rw [leftOf_RB B6, hlo.out]
      exact hlt.out
end Go.Proofs.Ytdbjphabmdmjcaa
