/- Contract: one frame out of a reader's bytes, whatever they are. -/
import Derived.Test.YtdbjphabmdmjcaaD2
namespace Go.Proofs.Ytdbjphabmdmjcaa
open Go.RowKit
set_option linter.unusedSimpArgs false
set_option linter.unusedVariables false

def Body (bo : List UInt8) (f : Fm) : Prop := f.right = true ∧ f.enc = bo
def Wait (l : List UInt8) : Prop := l.length < 2 ∨ ∃ x y r, l = x :: y :: r ∧ 3 ≤ x.toNat * 256 + y.toNat ∧ x.toNat * 256 + y.toNat ≤ 16384 ∧ r.length < x.toNat * 256 + y.toNat
def Bad (l : List UInt8) : Prop := ∃ x y r, l = x :: y :: r ∧ (x.toNat * 256 + y.toNat < 3 ∨ 16384 < x.toNat * 256 + y.toNat ∨ (x.toNat * 256 + y.toNat ≤ r.length ∧ ¬ ∃ f, Body (r.take (x.toNat * 256 + y.toNat)) f))
def Take (l : List UInt8) (f : Fm) (r' : List UInt8) : Prop := ∃ x y r, l = x :: y :: r ∧ 3 ≤ x.toNat * 256 + y.toNat ∧ x.toNat * 256 + y.toNat ≤ 16384 ∧ x.toNat * 256 + y.toNat ≤ r.length ∧ Body (r.take (x.toNat * 256 + y.toNat)) f ∧ r' = r.drop (x.toNat * 256 + y.toNat)

def OneAll (w : World) (p : Nat) (A : Option Addr) (l : List UInt8) (e : Ending) (w' : World) : Prop :=
  (Wait l ∧ e = .returned (.tuple #[fr0, .bool false, .bool false]) ∧ w.grownBy w' none) ∨
  (Bad l ∧ e = .returned (.tuple #[fr0, .bool false, .bool true]) ∧ w.grownBy w' none) ∨
  (∃ f r' v A' c', Take l f r' ∧ e = .returned (.tuple #[v, .bool true, .bool false]) ∧ FrO w.heap.size w' v f ∧ w.grownBy w' (some p) ∧
    RB w' p (.slice A' r'.length c') false ∧ Rd w' A' (bs r') ∧ r'.length ≤ c' ∧ ablk A' = ablk A)

theorem m_d74 (v : Value) (w : World) : (method 198 74 v "mullion/frame.read").run Try.prog w = .ok (46, v) w := by kernel_rfl
theorem m_d75 (v : Value) (w : World) : (method 198 75 v "mullion/frame.read").run Try.prog w = .ok (49, v) w := by kernel_rfl
theorem m_d77 (v : Value) (w : World) : (method 198 77 v "mullion/frame.read").run Try.prog w = .ok (55, v) w := by kernel_rfl
theorem na74 (v : Value) (w : World) : (nilAhead 198 74 v "mullion/frame.read").run Try.prog w = .ok (some false) w := by kernel_rfl
theorem na75 (v : Value) (w : World) : (nilAhead 198 75 v "mullion/frame.read").run Try.prog w = .ok (some false) w := by kernel_rfl
theorem na77 (v : Value) (w : World) : (nilAhead 198 77 v "mullion/frame.read").run Try.prog w = .ok (some false) w := by kernel_rfl
theorem cf46 (args : Array Value) (w : World) : (callFunc 46 args).run Try.prog w = .ok (.enter 46 args) w := by kernel_rfl
theorem cf49 (args : Array Value) (w : World) : (callFunc 49 args).run Try.prog w = .ok (.enter 49 args) w := by kernel_rfl
theorem cf55 (args : Array Value) (w : World) : (callFunc 55 args).run Try.prog w = .ok (.enter 55 args) w := by kernel_rfl
theorem cf47 (args : Array Value) (w : World) : (callFunc 47 args).run Try.prog w = .ok (.enter 47 args) w := by kernel_rfl
theorem cf50 (args : Array Value) (w : World) : (callFunc 50 args).run Try.prog w = .ok (.enter 50 args) w := by kernel_rfl
theorem cf56 (args : Array Value) (w : World) : (callFunc 56 args).run Try.prog w = .ok (.enter 56 args) w := by kernel_rfl

theorem c8_of (z : UInt8) : c8 (z.toNat : Int) = z := by
  unfold c8; rw [Int.toNat_natCast]; simp

theorem Fm.enc_eq {f : Fm} {zk za zb : UInt8} {pl : List UInt8} (h : f.enc = zk :: za :: zb :: pl) (hR : f.right = true) :
    f.k = zk.toNat ∧ f.a = za.toNat ∧ f.b = zb.toNat ∧ f.pay = pl := by
  obtain ⟨⟨k0, k1⟩, ⟨a0, a1⟩, ⟨b0, b1⟩, _⟩ := right_bounds hR
  simp only [Fm.enc, encB, List.cons.injEq] at h
  obtain ⟨e1, e2, e3, e4⟩ := h
  have g : ∀ (x : Int) (z : UInt8), 0 ≤ x → x ≤ 255 → c8 x = z → x = z.toNat := by
    intro x z h0 h1 e
    have := congrArg UInt8.toNat e
    unfold c8 at this
    rw [UInt8.toNat_ofNat'] at this
    omega
  exact ⟨g _ _ k0 k1 e1, g _ _ a0 a1 e2, g _ _ b0 b1 e3, e4⟩

theorem szRead_post (W : World) (q : Nat) (A : Option Addr) (n c : Nat) (k a b : Int) (h : FB W q k a b (.slice none 0 0) (.slice none 0 0)) :
    Calls Try.prog 46 #[.agg #[], .pointer (some ⟨q, 0, none⟩), .slice A n c] W (RdPost q W (decide (n = 0)) ⟨k, a, b, [], []⟩) := by
  refine (szRead_any _ A n c W).mono ?_
  rintro e w' ⟨rfl, hg⟩
  exact ⟨_, _, rfl, hg.but _, h.grown hg (by simp), fun _ => ⟨none, 0, none, 0, rfl, rfl, World.ownsRow_nil _ _ _ _, World.ownsRow_nil _ _ _ _⟩⟩
theorem fiRead_post (co da : Bool) (W : World) (q : Nat) (A : Option Addr) (n c : Nat) (k a b : Int) (l : List UInt8) (h : FB W q k a b (.slice none 0 0) (.slice none 0 0)) (hl : n = l.length) (hn : n ≤ 16384) (hr : Rd W A (bs l)) :
    Calls Try.prog 55 #[.agg #[.bool co, .bool da], .pointer (some ⟨q, 0, none⟩), .slice A n c] W (RdPost q W true ⟨k, a, b, [], l⟩) := by
  have hq := h.lt
  refine (fiRead_any co da q k a b _ _ A n c l W hl hn hr h).mono ?_
  rintro e w' ⟨v, rfl, hg, hf, ho⟩
  subst hl
  obtain ⟨A', c', rfl, _⟩ := Rd.of_own ho
  exact ⟨_, _, rfl, hg, hf, fun _ => ⟨none, 0, A', c', rfl, rfl, World.ownsRow_nil _ _ _ _, own_le ho (by omega)⟩⟩
theorem woRead_yes (W : World) (q : Nat) (A : Option Addr) (n c : Nat) (k a b : Int) (l : List UInt8) (ws : List ByteArray) (h : FB W q k a b (.slice none 0 0) (.slice none 0 0)) (hl : n = l.length) (hn : n ≤ 16384) (hnc : n ≤ c) (hr : Rd W A (bs l)) (hA : ablk A ≠ some q)
    (hs : small ws) (hw : wbytes ws = l) :
    Calls Try.prog 49 #[.agg #[], .pointer (some ⟨q, 0, none⟩), .slice A n c] W (RdPost q W true ⟨k, a, b, ws, []⟩) := by
  have hq := h.lt
  refine (woRead_any q k a b A n c l W hl hn hnc hr hA h).mono ?_
  rintro e w' ⟨hg, ⟨vs, v, h1, h2, rfl, h4, h5⟩ | ⟨h1, _⟩⟩
  · have e := wb_inj ws vs hs h1 (by rw [h2, hw])
    subst e
    obtain ⟨A', c', rfl, _⟩ := Rd.of_own h5
    exact ⟨_, _, rfl, hg, h4, fun _ => ⟨A', c', none, 0, rfl, rfl, own_le h5 (by omega), World.ownsRow_nil _ _ _ _⟩⟩
  · exact absurd ⟨ws, hs, hw⟩ h1
theorem woRead_no (W : World) (q : Nat) (A : Option Addr) (n c : Nat) (k a b : Int) (l : List UInt8) (h : FB W q k a b (.slice none 0 0) (.slice none 0 0)) (hl : n = l.length) (hn : n ≤ 16384) (hnc : n ≤ c) (hr : Rd W A (bs l)) (hA : ablk A ≠ some q)
    (hw : ¬ ∃ ws, small ws ∧ wbytes ws = l) :
    Calls Try.prog 49 #[.agg #[], .pointer (some ⟨q, 0, none⟩), .slice A n c] W (RdPost q W false ⟨k, a, b, [], []⟩) := by
  refine (woRead_any q k a b A n c l W hl hn hnc hr hA h).mono ?_
  rintro e w' ⟨hg, ⟨vs, v, h1, h2, rfl, h4, h5⟩ | ⟨h1, rfl, v, h3⟩⟩
  · exact absurd ⟨vs, h1, h2⟩ hw
  · exact ⟨_, _, rfl, hg, h3, fun h => by cases h⟩

theorem longs_small {ws : List ByteArray} (h : longs ws = false) : small ws := fun s hs => by have := longs_false h s hs; omega
theorem longs_nil : longs [] = false := by simp [longs]

theorem one_go (p : Nat) (b off m c : Nat) (x y zk za zb : UInt8) (r : List UInt8) (w : World) (hr : RB w p (.slice (some ⟨b, off, none⟩) m c) false) (hR : Rd w (some ⟨b, off, none⟩) (bs (x :: y :: zk :: za :: zb :: r))) (hm : m = (x :: y :: zk :: za :: zb :: r).length)
    (hn : 3 ≤ x.toNat * 256 + y.toNat ∧ x.toNat * 256 + y.toNat ≤ 16384 ∧ 2 + (x.toNat * 256 + y.toNat) ≤ m) (hmc : m ≤ c) (hm2 : m ≤ 140737488355328) (hbp : b ≠ p) :
    (∃ f, Body (zk :: za :: zb :: r.take (x.toNat * 256 + y.toNat - 3)) f ∧ Calls Try.prog 28 #[.pointer (some ⟨p, 0, none⟩)] w (OnePost w p b off m c (x.toNat * 256 + y.toNat) true f)) ∨
    ((¬ ∃ f, Body (zk :: za :: zb :: r.take (x.toNat * 256 + y.toNat - 3)) f) ∧ ∃ f, Calls Try.prog 28 #[.pointer (some ⟨p, 0, none⟩)] w (OnePost w p b off m c (x.toNat * 256 + y.toNat) false f)) := by
  have hzk := c8_of zk; have hza := c8_of za; have hzb := c8_of zb
  have hpl : (r.take (x.toNat * 256 + y.toNat - 3)).length = x.toNat * 256 + y.toNat - 3 := by
    rw [List.length_take]; simp at hm; omega
  have hq0 : (zk :: za :: zb :: r).take (x.toNat * 256 + y.toNat) = zk :: za :: zb :: r.take (x.toNat * 256 + y.toNat - 3) := by
    obtain ⟨q, hq⟩ : ∃ q, x.toNat * 256 + y.toNat = q + 3 := ⟨x.toNat * 256 + y.toNat - 3, by omega⟩
    rw [hq]; simp
  rcases cod_cases (zk.toNat : Int) with ⟨hc, hk, hrt⟩ | ⟨hc, hk, hrt⟩ | ⟨co, dt, hc, hk, hrt⟩ | ⟨hc, hrt⟩
  · -- of a size
    have CC := fun rt hrt' => one_core 74 (.agg #[]) 46 47 (decide (r.take (x.toNat * 256 + y.toNat - 3) = [])) rt ⟨zk.toNat, za.toNat, zb.toNat, [], []⟩ p b off m c x y zk za zb r w hr hR hm hn hmc hm2 hbp ⟨rfl, rfl, rfl⟩
      (m_d74 _) (m_r74 _) (na74 _) cf46 cf47 hc
      (fun W A n c hW hn' hnc hRd hA hF => by
        have h1 := szRead_post W _ A n c _ _ _ hF
        have e : decide (n = 0) = decide (r.take (x.toNat * 256 + y.toNat - 3) = []) := by
          rw [hn', ← hpl]; simp
        rw [e] at h1
        exact h1) hrt'
    by_cases hp : r.take (x.toNat * 256 + y.toNat - 3) = []
    · have C2 := CC (szR za.toNat zb.toNat 0 0) (fun W v' _ hO => by
        obtain ⟨wa, wc, da, dc, rfl, _⟩ := hO
        exact (szR_any _ _ _ wa da 0 wc 0 dc W (by omega) (by omega)))
      rw [hp] at C2 ⊢
      simp only [decide_true, Bool.true_and] at C2
      cases hs : szR za.toNat zb.toNat 0 0
      · rw [hs] at C2
        refine .inr ⟨?_, _, C2⟩
        rintro ⟨g, hg, he⟩
        obtain ⟨e1, e2, e3, e4⟩ := Fm.enc_eq he hg
        have := hg
        unfold Fm.right at this
        rw [e1, hrt, e2, e3] at this
        simp [szR] at this hs
        omega
      · rw [hs] at C2
        refine .inl ⟨_, ⟨?_, ?_⟩, C2⟩
        · show rightN _ _ _ _ _ _ = true
          rw [hrt]; exact hs
        · simp [Fm.enc, encB, Fm.pay, hk, hzk, hza, hzb]
    · have C2 := CC false (fun W v' h _ => by simp [hp] at h)
      rw [decide_eq_false hp, Bool.false_and] at C2
      refine .inr ⟨?_, _, C2⟩
      rintro ⟨g, hg, he⟩
      obtain ⟨e1, e2, e3, e4⟩ := Fm.enc_eq he hg
      have := hg
      unfold Fm.right at this
      rw [e1, hrt, e2, e3] at this
      simp [szR] at this
      have e5 : g.d = [] := by simpa using this.2
      have e6 : g.pay = g.d := by simp [Fm.pay, e1, hk]
      exact hp (by rw [← e4, e6, e5])
  · -- of words
    have hle : r.take (x.toNat * 256 + y.toNat - 3) = r.take (x.toNat * 256 + y.toNat - 3) := rfl
    by_cases hw : ∃ ws, small ws ∧ wbytes ws = r.take (x.toNat * 256 + y.toNat - 3)
    · obtain ⟨ws, hs, hw⟩ := hw
      have hwl : ws.length ≤ 16384 := by have := wb_ge ws; rw [hw, hpl] at this; omega
      have CC := one_core 75 (.agg #[]) 49 50 true (woR za.toNat zb.toNat ws.length 0 (longs ws)) ⟨zk.toNat, za.toNat, zb.toNat, ws, []⟩ p b off m c x y zk za zb r w hr hR hm hn hmc hm2 hbp ⟨rfl, rfl, rfl⟩
        (m_d75 _) (m_r75 _) (na75 _) cf49 cf50 hc
        (fun W A n c hW hn' hnc hRd hA hF => by
          subst hn'
          exact woRead_yes W _ A _ c _ _ _ _ ws hF hpl.symm (by omega) hnc hRd hA hs hw)
        (fun W v' _ hO => by
          obtain ⟨wa, wc, da, dc, rfl, o1, o2⟩ := hO
          obtain ⟨A5, c5, e5, R5, _, _⟩ := Rd.of_own o1
          injection e5 with e5 _ e6
          subst e5; subst e6
          exact (woR_any _ _ _ wa da ws.length wc 0 dc ws W rfl (by omega) (by omega) R5 (fun s h => by have := hs s h; omega)))
      simp only [Bool.true_and] at CC
      cases hb : woR za.toNat zb.toNat ws.length 0 (longs ws)
      · rw [hb] at CC
        refine .inr ⟨?_, _, CC⟩
        rintro ⟨g, hg, he⟩
        obtain ⟨e1, e2, e3, e4⟩ := Fm.enc_eq he hg
        have h2 : g.k = 2 := by rw [e1, hk]
        have e6 : g.pay = wbytes g.ws := by simp [Fm.pay, h2]
        obtain ⟨_, _, _, b2, _⟩ := right_bounds hg
        obtain ⟨_, d0, lg⟩ := b2 h2
        have e7 := wb_inj ws g.ws hs (longs_small lg) (by rw [← e6, e4, hw])
        have := hg
        unfold Fm.right at this
        rw [e1, hrt, e2, e3, e7, d0, hb] at this
        cases this
      · rw [hb] at CC
        refine .inl ⟨_, ⟨?_, ?_⟩, CC⟩
        · show rightN _ _ _ _ _ _ = true
          rw [hrt]; exact hb
        · simp [Fm.enc, encB, Fm.pay, hk, hza, hzb, hw]
          rw [← hk]; exact hzk
    · have CC := one_core 75 (.agg #[]) 49 50 false false ⟨zk.toNat, za.toNat, zb.toNat, [], []⟩ p b off m c x y zk za zb r w hr hR hm hn hmc hm2 hbp ⟨rfl, rfl, rfl⟩
        (m_d75 _) (m_r75 _) (na75 _) cf49 cf50 hc
        (fun W A n c hW hn' hnc hRd hA hF => by
          subst hn'
          exact woRead_no W _ A _ c _ _ _ _ hF hpl.symm (by omega) hnc hRd hA hw)
        (fun W v' h _ => by cases h)
      refine .inr ⟨?_, _, CC⟩
      rintro ⟨g, hg, he⟩
      obtain ⟨e1, e2, e3, e4⟩ := Fm.enc_eq he hg
      have h2 : g.k = 2 := by rw [e1, hk]
      have e6 : g.pay = wbytes g.ws := by simp [Fm.pay, h2]
      obtain ⟨_, _, _, b2, _⟩ := right_bounds hg
      obtain ⟨_, d0, lg⟩ := b2 h2
      exact hw ⟨g.ws, longs_small lg, by rw [← e6, e4]⟩
  · -- of data
    have CC := one_core 77 (.agg #[.bool co, .bool dt]) 55 56 true (fiR co dt za.toNat zb.toNat 0 (r.take (x.toNat * 256 + y.toNat - 3)).length) ⟨zk.toNat, za.toNat, zb.toNat, [], r.take (x.toNat * 256 + y.toNat - 3)⟩ p b off m c x y zk za zb r w hr hR hm hn hmc hm2 hbp ⟨rfl, rfl, rfl⟩
      (m_d77 _) (m_r77 _) (na77 _) cf55 cf56 hc
      (fun W A n c hW hn' hnc hRd hA hF => by
        subst hn'
        exact fiRead_post co dt W _ A _ c _ _ _ _ hF hpl.symm (by omega) hRd)
      (fun W v' _ hO => by
        obtain ⟨wa, wc, da, dc, rfl, o1, o2⟩ := hO
        exact (fiR_any co dt _ _ _ wa da 0 wc _ dc W))
    simp only [Bool.true_and] at CC
    cases hb : fiR co dt za.toNat zb.toNat 0 (r.take (x.toNat * 256 + y.toNat - 3)).length
    · rw [hb] at CC
      refine .inr ⟨?_, _, CC⟩
      rintro ⟨g, hg, he⟩
      obtain ⟨e1, e2, e3, e4⟩ := Fm.enc_eq he hg
      have h2 : g.k ≠ 2 := by rw [e1]; exact hk
      have e6 : g.pay = g.d := by simp [Fm.pay, h2]
      obtain ⟨_, _, _, _, b3, _⟩ := right_bounds hg
      have n0 := b3 h2
      have := hg
      unfold Fm.right at this
      rw [e1, hrt, e2, e3, n0, ← e6, e4, hb] at this
      cases this
    · rw [hb] at CC
      refine .inl ⟨_, ⟨?_, ?_⟩, CC⟩
      · show rightN _ _ _ _ _ _ = true
        rw [hrt]; exact hb
      · simp [Fm.enc, encB, Fm.pay, hk, hzk, hza, hzb]
  · -- of none
    have CC := one_nil ⟨zk.toNat, za.toNat, zb.toNat, [], []⟩ p b off m c x y zk za zb r w hr hR hm hn hmc hm2 hbp ⟨rfl, rfl, rfl⟩ hc
    refine .inr ⟨?_, _, CC⟩
    rintro ⟨g, hg, he⟩
    obtain ⟨e1, e2, e3, e4⟩ := Fm.enc_eq he hg
    have := hg
    unfold Fm.right at this
    rw [e1, hrt] at this
    cases this

theorem one_any (p : Nat) (A : Option Addr) (n c : Nat) (l : List UInt8) (w : World) (hr : RB w p (.slice A n c) false) (hR : Rd w A (bs l)) (hm : n = l.length) (hmc : n ≤ c) (hm2 : n ≤ 140737488355328) (hA : ablk A ≠ some p) :
    Calls Try.prog 28 #[.pointer (some ⟨p, 0, none⟩)] w (OneAll w p A l) := by
  by_cases h2 : l.length < 2
  · refine (one_short p A n c w hr (by omega)).mono ?_
    rintro e w' ⟨rfl, hg⟩
    exact .inl ⟨.inl h2, rfl, hg⟩
  obtain ⟨x, y, r, rfl⟩ : ∃ x y r, l = x :: y :: r := by
    rcases l with _ | ⟨x, _ | ⟨y, r⟩⟩
    · simp at h2
    · simp at h2
    · exact ⟨x, y, r, rfl⟩
  obtain ⟨b, off, rfl, _, _⟩ := hR (by simp [bs])
  have hbp : b ≠ p := fun e => hA (by rw [e]; rfl)
  by_cases hN : x.toNat * 256 + y.toNat < 3 ∨ 16384 < x.toNat * 256 + y.toNat
  · refine (one_bad p b off n c x y r w hr hR hm hN hm2).mono ?_
    rintro e w' ⟨rfl, hg⟩
    exact .inr (.inl ⟨⟨x, y, r, rfl, by omega⟩, rfl, hg⟩)
  have hlen : n = r.length + 2 := by rw [hm]; rfl
  by_cases hS : n < 2 + (x.toNat * 256 + y.toNat)
  · refine (one_wait p b off n c x y r w hr hR hm ⟨by omega, by omega, hS⟩ hm2).mono ?_
    rintro e w' ⟨rfl, hg⟩
    exact .inl ⟨.inr ⟨x, y, r, rfl, by omega, by omega, by omega⟩, rfl, hg⟩
  obtain ⟨zk, za, zb, r3, rfl⟩ : ∃ zk za zb r3, r = zk :: za :: zb :: r3 := by
    rcases r with _ | ⟨zk, _ | ⟨za, _ | ⟨zb, r⟩⟩⟩
    · simp at hlen; omega
    · simp at hlen; omega
    · simp at hlen; omega
    · exact ⟨_, _, _, _, rfl⟩
  have hq0 : (zk :: za :: zb :: r3).take (x.toNat * 256 + y.toNat) = zk :: za :: zb :: r3.take (x.toNat * 256 + y.toNat - 3) := by
    obtain ⟨q, hq⟩ : ∃ q, x.toNat * 256 + y.toNat = q + 3 := ⟨x.toNat * 256 + y.toNat - 3, by omega⟩
    rw [hq]; simp
  rcases one_go p b off n c x y zk za zb r3 w hr hR hm ⟨by omega, by omega, by omega⟩ hmc hm2 hbp with ⟨f, hf, C⟩ | ⟨hf, f, C⟩
  · refine C.mono ?_
    rintro e w' (⟨h, _⟩ | ⟨_, hg, ⟨v, rfl, hv⟩, hB⟩)
    · cases h
    have hd : ((zk :: za :: zb :: r3).drop (x.toNat * 256 + y.toNat)).length = n - (2 + (x.toNat * 256 + y.toNat)) := by rw [List.length_drop]; omega
    refine .inr (.inr ⟨f, (zk :: za :: zb :: r3).drop (x.toNat * 256 + y.toNat), v, _, _, ⟨x, y, _, rfl, by omega, by omega, by omega, by rw [hq0]; exact hf, rfl⟩, rfl, hv, hg, by rw [hd]; exact hB, ?_, by rw [hd]; omega, ablk_ite⟩)
    have h1 := (hR.grown hg (.inr hA)).cut (2 + (x.toNat * 256 + y.toNat)) c (by rw [bs_len, ← hm]; exact hmc)
    have h3 : (bs (x :: y :: zk :: za :: zb :: r3)).drop (2 + (x.toNat * 256 + y.toNat)) = bs ((zk :: za :: zb :: r3).drop (x.toNat * 256 + y.toNat)) := by
      rw [Nat.add_comm]; simp [bs]
    rw [h3] at h1
    exact h1
  · refine C.mono ?_
    rintro e w' (⟨_, rfl, hg⟩ | ⟨h, _⟩)
    · exact .inr (.inl ⟨⟨x, y, _, rfl, .inr (.inr ⟨by omega, by rw [hq0]; exact hf⟩)⟩, rfl, hg⟩)
    · cases h
end Go.Proofs.Ytdbjphabmdmjcaa
