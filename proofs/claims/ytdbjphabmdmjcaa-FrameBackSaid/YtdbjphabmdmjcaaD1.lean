/- Contract: one frame out of a reader's bytes: the way that takes one. -/
import Derived.Test.YtdbjphabmdmjcaaC9
import Derived.Deep.RegionHeld3
namespace Go.Proofs.Ytdbjphabmdmjcaa
open Go.RowKit
set_option linter.unusedSimpArgs false
set_option linter.unusedVariables false

/-- v is the frame f, and its words and data are rows of the call's own. -/
def FrO (base : Nat) (w : World) (v : Value) (f : Fm) : Prop :=
  ∃ wa wc da dc, v = .agg #[.int .i64 f.k, .int .i64 f.a, .int .i64 f.b, .slice wa f.ws.length wc, .slice da f.d.length dc] ∧
    w.ownsRow base 9 1 (.slice wa f.ws.length wc) f.ws.length (f.ws.map .string) ∧ w.ownsRow base 5 1 (.slice da f.d.length dc) f.d.length (bs f.d)

theorem FB.s0 {w : World} {p : Nat} {k a b : Int} {wv dv : Value} (h : FB w p k a b wv dv) (v : Int) : FB (w.setCell ⟨p, 0, none⟩ (.int .i64 v)) p v a b wv dv := by
  unfold FB at h ⊢; simp [World.setCell, Array.getElem?_modify, h]
theorem FB.s1 {w : World} {p : Nat} {k a b : Int} {wv dv : Value} (h : FB w p k a b wv dv) (v : Int) : FB (w.setCell ⟨p, 1, none⟩ (.int .i64 v)) p k v b wv dv := by
  unfold FB at h ⊢; simp [World.setCell, Array.getElem?_modify, h]
theorem FB.s2 {w : World} {p : Nat} {k a b : Int} {wv dv : Value} (h : FB w p k a b wv dv) (v : Int) : FB (w.setCell ⟨p, 2, none⟩ (.int .i64 v)) p k a v wv dv := by
  unfold FB at h ⊢; simp [World.setCell, Array.getElem?_modify, h]
theorem FB.drew {w : World} {p : Nat} {k a b : Int} {wv dv : Value} (h : FB w p k a b wv dv) : FB w.drew p k a b wv dv := h
structure S4 (w W : World) (p b off : Nat) (k a bb : Int) (wv dv s : Value) (xs : List Value) : Prop where
  G : w.grownBy W none
  F : FB W w.heap.size k a bb wv dv
  B : RB W p s false
  R : Rd W (some ⟨b, off, none⟩) xs
section
variable {w W : World} {p b off : Nat} {k a bb : Int} {wv dv s : Value} {xs : List Value}
theorem S4.set (h : S4 w W p b off k a bb wv dv s xs) (hp : p ≠ w.heap.size) (hb : b ≠ w.heap.size) (j : Nat) (v : Value) :
    w.grownBy (W.setCell ⟨w.heap.size, j, none⟩ v) none ∧ RB (W.setCell ⟨w.heap.size, j, none⟩ v) p s false ∧ Rd (W.setCell ⟨w.heap.size, j, none⟩ v) (some ⟨b, off, none⟩) xs :=
  ⟨g_setn h.G _ _ (Nat.le_refl _), (Below.heap_setCell W ⟨w.heap.size, j, none⟩ v p hp).trans h.B, h.R.set v (fun e => hb (by injection e))⟩
theorem S4.s0 (h : S4 w W p b off k a bb wv dv s xs) (hp : p ≠ w.heap.size) (hb : b ≠ w.heap.size) (v : Int) : S4 w (W.setCell ⟨w.heap.size, 0, none⟩ (.int .i64 v)) p b off v a bb wv dv s xs :=
  ⟨(h.set hp hb _ _).1, h.F.s0 v, (h.set hp hb _ _).2.1, (h.set hp hb _ _).2.2⟩
theorem S4.s1 (h : S4 w W p b off k a bb wv dv s xs) (hp : p ≠ w.heap.size) (hb : b ≠ w.heap.size) (v : Int) : S4 w (W.setCell ⟨w.heap.size, 1, none⟩ (.int .i64 v)) p b off k v bb wv dv s xs :=
  ⟨(h.set hp hb _ _).1, h.F.s1 v, (h.set hp hb _ _).2.1, (h.set hp hb _ _).2.2⟩
theorem S4.s2 (h : S4 w W p b off k a bb wv dv s xs) (hp : p ≠ w.heap.size) (hb : b ≠ w.heap.size) (v : Int) : S4 w (W.setCell ⟨w.heap.size, 2, none⟩ (.int .i64 v)) p b off k a v wv dv s xs :=
  ⟨(h.set hp hb _ _).1, h.F.s2 v, (h.set hp hb _ _).2.1, (h.set hp hb _ _).2.2⟩
theorem S4.s3 (h : S4 w W p b off k a bb wv dv s xs) (hp : p ≠ w.heap.size) (hb : b ≠ w.heap.size) (v : Value) : S4 w (W.setCell ⟨w.heap.size, 3, none⟩ v) p b off k a bb v dv s xs :=
  ⟨(h.set hp hb _ _).1, h.F.set3 v, (h.set hp hb _ _).2.1, (h.set hp hb _ _).2.2⟩
theorem S4.s4 (h : S4 w W p b off k a bb wv dv s xs) (hp : p ≠ w.heap.size) (hb : b ≠ w.heap.size) (v : Value) : S4 w (W.setCell ⟨w.heap.size, 4, none⟩ v) p b off k a bb wv v s xs :=
  ⟨(h.set hp hb _ _).1, h.F.set4 v, (h.set hp hb _ _).2.1, (h.set hp hb _ _).2.2⟩
theorem S4.drew (h : S4 w W p b off k a bb wv dv s xs) : S4 w W.drew p b off k a bb wv dv s xs := ⟨g_drew h.G, h.F, h.B, h.R⟩
end

def RdPost (q : Nat) (W : World) (rd : Bool) (f : Fm) (e : Ending) (w' : World) : Prop :=
  ∃ wv dv, e = .returned (.bool rd) ∧ W.grownBy w' (some q) ∧ FB w' q f.k f.a f.b wv dv ∧ (rd = true → ∃ wa wc da dc, wv = .slice wa f.ws.length wc ∧ dv = .slice da f.d.length dc ∧ w'.ownsRow (q + 1) 9 1 (.slice wa f.ws.length wc) f.ws.length (f.ws.map .string) ∧ w'.ownsRow (q + 1) 5 1 (.slice da f.d.length dc) f.d.length (bs f.d))

def OnePost (w : World) (p b off m c q : Nat) (ok : Bool) (f : Fm) (e : Ending) (w' : World) : Prop :=
  (ok = false ∧ e = .returned (.tuple #[fr0, .bool false, .bool true]) ∧ w.grownBy w' none) ∨
  (ok = true ∧ w.grownBy w' (some p) ∧ (∃ v, e = .returned (.tuple #[v, .bool true, .bool false]) ∧ FrO w.heap.size w' v f) ∧
    RB w' p (.slice (if c = 2 + q then some ⟨b, off, none⟩ else some ⟨b, off + (2 + q), none⟩) (m - (2 + q)) (c - (2 + q))) false)

theorem onePost_no {w w' : World} {p b off m c q : Nat} {f : Fm} (h : w.grownBy w' none) : OnePost w p b off m c q false f (.returned (.tuple #[fr0, .bool false, .bool true])) w' := .inl ⟨rfl, rfl, h⟩
theorem FrO.keep {base : Nat} {w w' : World} {v : Value} {f : Fm} (h : FrO base w v f) (hg : w.grownBy w' none) : FrO base w' v f := by
  obtain ⟨wa, wc, da, dc, e, h1, h2⟩ := h
  exact ⟨wa, wc, da, dc, e, own_keep h1 hg, own_keep h2 hg⟩
theorem FrO.set {base : Nat} {w : World} {v : Value} {f : Fm} (h : FrO base w v f) {a : Addr} (ha : a.block < base) (u : Value) : FrO base (w.setCell a u) v f := by
  obtain ⟨wa, wc, da, dc, e, h1, h2⟩ := h
  exact ⟨wa, wc, da, dc, e, ownsRow_setCell_below h1 ha u, ownsRow_setCell_below h2 ha u⟩
theorem FrO.le {base base' : Nat} {w : World} {v : Value} {f : Fm} (h : FrO base w v f) (hb : base' ≤ base) : FrO base' w v f := by
  obtain ⟨wa, wc, da, dc, e, h1, h2⟩ := h
  exact ⟨wa, wc, da, dc, e, own_le h1 hb, own_le h2 hb⟩
theorem RB.far {w : World} {p : Nat} {s : Value} {br : Bool} (h : RB w p s br) {a : Addr} (ha : p ≠ a.block) (v : Value) : RB (w.setCell a v) p s br :=
  (Below.heap_setCell w a v p ha).trans h
theorem onePost_yes {w w5 : World} {p b off m c q : Nat} {f : Fm} {v s0 : Value} (G : w.grownBy w5 none) (B : RB w5 p s0 false) (O : FrO (w.heap.size + 1) w5 v f) (hp : p < w.heap.size) (v0 v1 v2 v3 v4 : Value) :
    OnePost w p b off m c q true f (.returned (.tuple #[v, .bool true, .bool false]))
      ((((((w5.setCell ⟨p, 0, none⟩ (.slice (if c = 2 + q then some ⟨b, off, none⟩ else some ⟨b, off + (2 + q), none⟩) (m - (2 + q)) (c - (2 + q)))).setCell ⟨w.heap.size, 0, none⟩ v0).setCell ⟨w.heap.size, 1, none⟩ v1).setCell ⟨w.heap.size, 2, none⟩ v2).setCell ⟨w.heap.size, 3, none⟩ v3).setCell ⟨w.heap.size, 4, none⟩ v4) := by
  refine .inr ⟨rfl, ?_, ⟨v, rfl, ?_⟩, ?_⟩
  · exact g_setn (g_setn (g_setn (g_setn (g_setn (g_set (G.but (some p)) rfl _) _ _ (Nat.le_refl _)) _ _ (Nat.le_refl _)) _ _ (Nat.le_refl _)) _ _ (Nat.le_refl _)) _ _ (Nat.le_refl _)
  · exact ((((((O.set (a := ⟨p, 0, none⟩) (by show p < _; omega) _).set (a := ⟨w.heap.size, 0, none⟩) (Nat.lt_succ_self _) _).set (a := ⟨w.heap.size, 1, none⟩) (Nat.lt_succ_self _) _).set (a := ⟨w.heap.size, 2, none⟩) (Nat.lt_succ_self _) _).set (a := ⟨w.heap.size, 3, none⟩) (Nat.lt_succ_self _) _).set (a := ⟨w.heap.size, 4, none⟩) (Nat.lt_succ_self _) _).le (Nat.le_succ _)
  · have hne : p ≠ w.heap.size := by omega
    exact (((((B.set0 _).far (a := ⟨w.heap.size, 0, none⟩) hne _).far (a := ⟨w.heap.size, 1, none⟩) hne _).far (a := ⟨w.heap.size, 2, none⟩) hne _).far (a := ⟨w.heap.size, 3, none⟩) hne _).far (a := ⟨w.heap.size, 4, none⟩) hne _
theorem g_drop {w a b : World} (h : w.grownBy a none) (k : a.grownBy b (some w.heap.size)) : w.grownBy b none :=
  ⟨k.os.trans h.os, k.tape.trans h.tape, k.output.trans h.output, Nat.le_trans h.size k.size, fun i hi _ =>
    (k.block i (Nat.lt_of_lt_of_le hi h.size) (by intro e; injection e with e; omega)).trans (h.block i hi (by simp))⟩

set_option maxRecDepth 100000 in
set_option maxHeartbeats 2000000 in
theorem one_core (T : TypeId) (v : Value) (Fr Fq : FuncId) (rd rt : Bool) (f : Fm)
    (p : Nat) (b off m c : Nat) (x y zk za zb : UInt8) (r : List UInt8) (w : World) (hr : RB w p (.slice (some ⟨b, off, none⟩) m c) false) (hR : Rd w (some ⟨b, off, none⟩) (bs (x :: y :: zk :: za :: zb :: r))) (hm : m = (x :: y :: zk :: za :: zb :: r).length)
    (hn : 3 ≤ x.toNat * 256 + y.toNat ∧ x.toNat * 256 + y.toNat ≤ 16384 ∧ 2 + (x.toNat * 256 + y.toNat) ≤ m) (hmc : m ≤ c) (hm2 : m ≤ 140737488355328) (hbp : b ≠ p)
    (hfk : f.k = zk.toNat ∧ f.a = za.toNat ∧ f.b = zb.toNat)
    (hmr : ∀ w, (method 198 T v "mullion/frame.read").run Try.prog w = .ok (Fr, v) w) (hmq : ∀ w, (method 198 T v "mullion/frame.right").run Try.prog w = .ok (Fq, v) w)
    (hna : ∀ w, (nilAhead 198 T v "mullion/frame.read").run Try.prog w = .ok (some false) w)
    (hcr : ∀ args w, (callFunc Fr args).run Try.prog w = .ok (.enter Fr args) w) (hcq : ∀ args w, (callFunc Fq args).run Try.prog w = .ok (.enter Fq args) w)
    (hcod : codecOf f.k = .iface T v)
    (hrd : ∀ W A n c, w.grownBy W none → n = x.toNat * 256 + y.toNat - 3 → n ≤ c → Rd W A (bs (r.take n)) → ablk A ≠ some w.heap.size → FB W w.heap.size f.k f.a f.b (.slice none 0 0) (.slice none 0 0) →
      Calls Try.prog Fr #[v, .pointer (some ⟨w.heap.size, 0, none⟩), .slice A n c] W (RdPost w.heap.size W rd f))
    (hrq : ∀ W v', rd = true → FrO (w.heap.size + 1) W v' f → Calls Try.prog Fq #[v, v'] W fun e w' => e = .returned (.bool rt) ∧ W.grownBy w' none) :
    Calls Try.prog 28 #[.pointer (some ⟨p, 0, none⟩)] w (OnePost w p b off m c (x.toNat * 256 + y.toNat) (rd && rt) f) := by
  obtain ⟨c, rfl⟩ : ∃ c', c = c' + 2 := ⟨c - 2, by simp at hm; omega⟩
  have c0 := hr.cell 0
  simp at c0
  have hp := hr.lt
  obtain ⟨_, _, e, hb, hc0⟩ := hR.at_ (j := 0) (u := b8 x) (by simp [bs])
  injection e with e; injection e with e1 e2; subst e1; subst e2
  obtain ⟨_, _, e, _, hc1⟩ := hR.at_ (j := 1) (u := b8 y) (by simp [bs])
  injection e with e; injection e with e1 e2; subst e1; subst e2
  unfold b8 at hc0 hc1
  simp only [Nat.add_zero] at hc0
  have hm1 : 2 ≤ m := by simp at hm; omega
  replace hm := Lib.hid hm
  replace hr := Lib.hid hr; replace hR := Lib.hid hR; replace hrd := Lib.hid hrd; replace hrq := Lib.hid hrq; replace hfk := Lib.hid hfk
  have C := Lib.hid (fun W => hcod ▸ of_any f.k W)
  clear hcod
  have hx := x.toNat_lt; have hy := y.toNat_lt
  obtain ⟨q, hq⟩ : ∃ q : Nat, q = x.toNat * 256 + y.toNat := ⟨_, rfl⟩
  have hor := or_bytes x y
  rw [← hq] at hor hn
  have hq6 : q < 65536 := by omega
  replace hq := Lib.hid hq
  have i1 : (1 : Int) < m := by omega
  have i0 : (0 : Int) < m := by omega
  go_enter Try.func28, Try.ntmps28
  go_wp2_with fail
  go_quiet (fail)
  clear hor hc0 hc1 hx hy
  have F1 : FB ((w.alloc (.cells #[.int .i64 0, .int .i64 0, .int .i64 0, .slice none 0 0, .slice none 0 0] 25)).drewN nq) w.heap.size 0 0 0 (.slice none 0 0) (.slice none 0 0) := heap_alloc_new w _
  have G1 : w.grownBy ((w.alloc (.cells #[.int .i64 0, .int .i64 0, .int .i64 0, .slice none 0 0, .slice none 0 0] 25)).drewN nq) none := by
    have := World.grownBy_alloc w (.cells #[.int .i64 0, .int .i64 0, .int .i64 0, .slice none 0 0, .slice none 0 0] 25) none
    exact ⟨this.os, this.tape, this.output, this.size, this.block⟩
  generalize (w.alloc (.cells #[.int .i64 0, .int .i64 0, .int .i64 0, .slice none 0 0, .slice none 0 0] 25)).drewN nq = W at *
  have q0 := F1.cell 0; have q1 := F1.cell 1; have q2 := F1.cell 2; have q3 := F1.cell 3; have q4 := F1.cell 4
  have f0 := F1.free 0; have f1 := F1.free 1; have f2 := F1.free 2; have f3 := F1.free 3; have f4 := F1.free 4
  simp at q0 q1 q2 q3 q4
  replace F1 := Lib.hid F1; replace G1 := Lib.hid G1
  obtain ⟨n1, n2, n3⟩ := hn
  have hn' : ¬ (q : Int) < 3 := by omega
  have hn2 : ¬ (16384 : Int) < q := by omega
  have c1 : W.cell? ⟨p, 0, none⟩ = some (.slice (some ⟨b, off, none⟩) m (c + 2)) := G1.out.cell c0 (by simp)
  have n4 : ¬ (m : Int) - 2 < q := by omega
  have n5 : (2 : Int) + q ≤ c + 2 := by omega
  have hc2 : ¬ c = 0 := by omega
  have RW := hR.out.grown G1.out (.inl rfl)
  obtain ⟨_, _, e, _, k0⟩ := RW.at_ (j := 2) (u := b8 zk) (by simp [bs])
  injection e with e; injection e with e1 e2; subst e1; subst e2
  obtain ⟨_, _, e, _, k1⟩ := RW.at_ (j := 3) (u := b8 za) (by simp [bs])
  injection e with e; injection e with e1 e2; subst e1; subst e2
  obtain ⟨_, _, e, _, k2⟩ := RW.at_ (j := 4) (u := b8 zb) (by simp [bs])
  injection e with e; injection e with e1 e2; subst e1; subst e2
  unfold b8 at k0 k1 k2
  obtain ⟨y0, y1, y2⟩ := hfk.out
  have hz0 := zk.toNat_lt; have hz1 := za.toNat_lt; have hz2 := zb.toNat_lt
  rw [← y0] at k0; rw [← y1] at k1; rw [← y2] at k2
  have v0 : 0 ≤ f.k ∧ f.k ≤ 255 := by omega
  have v1 : 0 ≤ f.a ∧ f.a ≤ 255 := by omega
  have v2 : 0 ≤ f.b ∧ f.b ≤ 255 := by omega
  clear hz0 hz1 hz2 y0 y1 y2
  obtain ⟨v00, v01⟩ := v0; obtain ⟨v10, v11⟩ := v1; obtain ⟨v20, v21⟩ := v2
  replace RW := Lib.hid RW
  go_wp2_with fail
  have j0 : (0 : Int) < q := by omega
  have j1 : (1 : Int) < q := by omega
  have j2 : (2 : Int) < q := by omega
  have j3 : 0 < q := by omega
  have z0 : IntKind.i64.wrap f.k = f.k := IntWalk.i64_in _ (by omega)
  have z1 : IntKind.i64.wrap f.a = f.a := IntWalk.i64_in _ (by omega)
  have z2 : IntKind.i64.wrap f.b = f.b := IntWalk.i64_in _ (by omega)
  have hbne : ¬ b = w.heap.size := by omega
  have hbne' : ¬ w.heap.size = b := by omega
  go_region_held3 (fun w' => w'.cell? ⟨b, off + 2, none⟩ = some (.int .u8 f.k) ∧ w'.cell? ⟨b, off + 3, none⟩ = some (.int .u8 f.a) ∧ w'.cell? ⟨b, off + 4, none⟩ = some (.int .u8 f.b)) (first | go_keep | fail) (fail)
  go_wp2_with (go_at_call 25; refine (C.out _).mono ?_; rintro e w' ⟨rfl, rfl⟩)
  clear k0 k1 k2 z0 z1 z2 q0 q1 q2 q3 q4 f0 f1 f2 f3 f4
  have S3 := (((((S4.mk (w := w) (W := W) (p := p) (b := b) G1.out F1.out (hr.out.grown G1.out (by simp)) RW.out).s0 (by omega) hbne f.k).s1 (by omega) hbne f.a).s2 (by omega) hbne f.b).s3 (by omega) hbne (.slice none 0 0)).s4 (by omega) hbne (.slice none 0 0) |>.drew
  generalize (((((W.setCell ⟨w.heap.size, 0, none⟩ (.int .i64 f.k)).setCell ⟨w.heap.size, 1, none⟩ (.int .i64 f.a)).setCell ⟨w.heap.size, 2, none⟩ (.int .i64 f.b)).setCell ⟨w.heap.size, 3, none⟩ (.slice none 0 0)).setCell ⟨w.heap.size, 4, none⟩ (.slice none 0 0)).drew = W3 at *
  obtain ⟨G3, F3, B3, R3⟩ := S3
  have x1 : (3 : Int) ≤ q := by omega
  have x2 : (q : Int) ≤ c := by omega
  replace G3 := Lib.hid G3; replace F3 := Lib.hid F3; replace B3 := Lib.hid B3; replace R3 := Lib.hid R3
  have R5 : Rd W3.drew (if c = 3 then some ⟨b, off + 2, none⟩ else some ⟨b, off + 2 + 3, none⟩) (bs (r.take (q - 3))) := by
    have h1 := (((R3.out.drop 2 rfl).take q).cut 3 c (by rw [List.length_take]; omega)).drew
    have h2 : (((bs (x :: y :: zk :: za :: zb :: r)).drop 2).take q).drop 3 = bs (r.take (q - 3)) := by
      obtain ⟨q3, rfl⟩ : ∃ q3, q = q3 + 3 := ⟨q - 3, by omega⟩
      simp [bs, List.map_take]
    rw [h2] at h1
    exact h1
  have hA5 : ablk (if c = 3 then some ⟨b, off + 2, none⟩ else some ⟨b, off + 2 + 3, none⟩) ≠ some w.heap.size := by rw [ablk_ite]; simpa using hbne
  obtain ⟨A5, hite⟩ : ∃ A5, (if c = 3 then some (⟨b, off + 2, none⟩ : Addr) else some ⟨b, off + 2 + 3, none⟩) = A5 := ⟨_, rfl⟩
  rw [hite] at R5 hA5
  replace R5 := Lib.hid R5; replace hA5 := Lib.hid hA5
  have CR := Lib.hid (hrd.out _ _ (q - 3) (c - 3) (g_drew G3.out) (by rw [hq.out]) (by omega) R5.out hA5.out F3.out)
  cases rd
  · first | (go_region_with (first | (refine CR.out.mono ?_; rintro e w4 ⟨wv, dv, rfl, G4, F4, hx⟩; clear hx) | fail)) | fail
    all_goals
      clear hite
      have q0 := F4.cell 0; have q1 := F4.cell 1; have q2 := F4.cell 2; have q3 := F4.cell 3; have q4 := F4.cell 4
      have f0 := F4.free 0; have f1 := F4.free 1; have f2 := F4.free 2; have f3 := F4.free 3; have f4 := F4.free 4
      simp at q0 q1 q2 q3 q4
      have G5 : w.grownBy w4 none := g_drop (g_drew G3.out) G4
      replace G4 := Lib.hid G4; replace F4 := Lib.hid F4; replace G5 := Lib.hid G5
      go_wp2_with fail
      refine bodyPost_ret (v := .tuple #[fr0, .bool false, .bool true]) (by simp [results, Try.results28, go_sem, fr0, q0, q1, q2, q3, q4]) rfl (onePost_no ?_)
      exact g_setn (g_setn (g_setn (g_setn (g_setn G5.out _ _ (Nat.le_refl _)) _ _ (Nat.le_refl _)) _ _ (Nat.le_refl _)) _ _ (Nat.le_refl _)) _ _ (Nat.le_refl _)
  · cases rt
    · first | (go_region_with (first | (refine CR.out.mono ?_; rintro e w4 ⟨wv, dv, rfl, G4, F4, hx⟩; obtain ⟨wa, wc, da, dc, rfl, rfl, o1, o2⟩ := hx rfl; have O4 := Lib.hid (⟨wa, wc, da, dc, rfl, o1, o2⟩ : FrO (w.heap.size + 1) w4 (.agg #[.int .i64 f.k, .int .i64 f.a, .int .i64 f.b, .slice wa f.ws.length wc, .slice da f.d.length dc]) f); have CQ := Lib.hid (hrq.out w4 _ rfl O4.out); clear hx o1 o2; have q0 := F4.cell 0; have q1 := F4.cell 1; have q2 := F4.cell 2; have q3 := F4.cell 3; have q4 := F4.cell 4; simp at q0 q1 q2 q3 q4) | (refine CQ.out.mono ?_; rintro e w5 ⟨rfl, G6⟩) | fail)) | fail
      all_goals
        clear hite
        have G5 : w.grownBy w5 none := (g_drop (g_drew G3.out) G4).trans G6
        have F5 := F4.grown G6 (by simp)
        clear q0 q1 q2 q3 q4
        have q0 := F5.cell 0; have q1 := F5.cell 1; have q2 := F5.cell 2; have q3 := F5.cell 3; have q4 := F5.cell 4
        have f0 := F5.free 0; have f1 := F5.free 1; have f2 := F5.free 2; have f3 := F5.free 3; have f4 := F5.free 4
        simp at q0 q1 q2 q3 q4
        replace G4 := Lib.hid G4; replace F5 := Lib.hid F5; replace G5 := Lib.hid G5
        clear G6 F4
        go_wp2_with fail
        refine bodyPost_ret (v := .tuple #[fr0, .bool false, .bool true]) (by simp [results, Try.results28, go_sem, fr0, q0, q1, q2, q3, q4]) rfl (onePost_no ?_)
        exact g_setn (g_setn (g_setn (g_setn (g_setn G5.out _ _ (Nat.le_refl _)) _ _ (Nat.le_refl _)) _ _ (Nat.le_refl _)) _ _ (Nat.le_refl _)) _ _ (Nat.le_refl _)
    · first | (go_region_with (first | (refine CR.out.mono ?_; rintro e w4 ⟨wv, dv, rfl, G4, F4, hx⟩; obtain ⟨wa, wc, da, dc, rfl, rfl, o1, o2⟩ := hx rfl; have O4 := Lib.hid (⟨wa, wc, da, dc, rfl, o1, o2⟩ : FrO (w.heap.size + 1) w4 (.agg #[.int .i64 f.k, .int .i64 f.a, .int .i64 f.b, .slice wa f.ws.length wc, .slice da f.d.length dc]) f); have CQ := Lib.hid (hrq.out w4 _ rfl O4.out); clear hx o1 o2; have q0 := F4.cell 0; have q1 := F4.cell 1; have q2 := F4.cell 2; have q3 := F4.cell 3; have q4 := F4.cell 4; simp at q0 q1 q2 q3 q4) | (refine CQ.out.mono ?_; rintro e w5 ⟨rfl, G6⟩) | fail)) | fail
      all_goals
        clear hite
        have G5 : w.grownBy w5 none := (g_drop (g_drew G3.out) G4).trans G6
        have F5 := F4.grown G6 (by simp)
        have B5 := (B3.out.grown (g_drew (World.grownBy.refl _ none)) (by simp)).grown G4 (by simp; omega)
        replace B5 := B5.grown G6 (by simp)
        have O5 : FrO (w.heap.size + 1) w5 (.agg #[.int .i64 f.k, .int .i64 f.a, .int .i64 f.b, .slice wa f.ws.length wc, .slice da f.d.length dc]) f := FrO.keep O4.out G6
        clear q0 q1 q2 q3 q4
        have q0 := F5.cell 0; have q1 := F5.cell 1; have q2 := F5.cell 2; have q3 := F5.cell 3; have q4 := F5.cell 4
        have f0 := F5.free 0; have f1 := F5.free 1; have f2 := F5.free 2; have f3 := F5.free 3; have f4 := F5.free 4
        have b0 := B5.cell 0; have b1 := B5.free 0
        simp at q0 q1 q2 q3 q4 b0
        have hpne : ¬ w.heap.size = p := by omega
        have hpne' : ¬ p = w.heap.size := by omega
        have x3 : (2 : Int) + q ≤ m := by omega
        obtain ⟨A6, hite6⟩ : ∃ A6, (if c + 2 = 2 + q then some (⟨b, off, none⟩ : Addr) else some ⟨b, off + (2 + q), none⟩) = A6 := ⟨_, rfl⟩
        replace G4 := Lib.hid G4; replace F5 := Lib.hid F5; replace G5 := Lib.hid G5; replace B5 := Lib.hid B5; replace O5 := Lib.hid O5
        clear G6 F4
        go_wp2_with fail
        · refine bodyPost_ret (v := .tuple #[.agg #[.int .i64 f.k, .int .i64 f.a, .int .i64 f.b, .slice wa f.ws.length wc, .slice da f.d.length dc], .bool true, .bool false]) (by simp [results, Try.results28, go_sem, q0, q1, q2, q3, q4, hpne, hpne']) rfl ?_
          rw [← hq.out]
          have A6e : A6 = some ⟨b, off, none⟩ := by rw [← hite6, if_pos (by omega)]
          have Z := onePost_yes (b := b) (off := off) (m := m) (c := 2 + q) (q := q) G5.out B5.out O5.out hp (.int .i64 f.k) (.int .i64 f.a) (.int .i64 f.b) (.slice wa f.ws.length wc) (.slice da f.d.length dc)
          rw [if_pos rfl, Nat.sub_self, ← A6e] at Z
          exact Z
        · refine bodyPost_ret (v := .tuple #[.agg #[.int .i64 f.k, .int .i64 f.a, .int .i64 f.b, .slice wa f.ws.length wc, .slice da f.d.length dc], .bool true, .bool false]) (by simp [results, Try.results28, go_sem, q0, q1, q2, q3, q4, hpne, hpne']) rfl ?_
          rw [← hq.out, ← hite6]
          exact onePost_yes (b := b) (off := off) (m := m) (c := c + 2) (q := q) G5.out B5.out O5.out hp _ _ _ _ _
end Go.Proofs.Ytdbjphabmdmjcaa
