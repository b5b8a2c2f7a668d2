/- Contract: Encode, of any frame. -/
import Derived.Test.YtdbjphabmdmjcaaC7
namespace Go.Proofs.Ytdbjphabmdmjcaa
open Go.RowKit
set_option linter.unusedSimpArgs false
set_option linter.unusedVariables false

structure Fm where
  k : Int
  a : Int
  b : Int
  ws : List ByteArray
  d : List UInt8

def Fm.right (f : Fm) : Bool := rightN f.k f.a f.b f.ws.length f.d.length (longs f.ws)
def Fm.pay (f : Fm) : List UInt8 := if f.k = 2 then wbytes f.ws else f.d
def Fm.enc (f : Fm) : List UInt8 := encB f.k f.a f.b f.pay
structure Fm.Fits (f : Fm) : Prop where
  ws : f.ws.length ≤ 140737488351232
  d : f.d.length ≤ 140737488351232
  s : ∀ s ∈ f.ws, s.size ≤ 140737488351232

/-- The value v is the frame f, in world w. -/
def FrV (w : World) (v : Value) (f : Fm) : Prop :=
  ∃ wa wc da dc, v = .agg #[.int .i64 f.k, .int .i64 f.a, .int .i64 f.b, .slice wa f.ws.length wc, .slice da f.d.length dc] ∧ Rd w wa (f.ws.map .string) ∧ Rd w da (bs f.d)

theorem right_bounds {k a b : Int} {n dn : Nat} {lg : Bool} (h : rightN k a b n dn lg = true) :
    (0 ≤ k ∧ k ≤ 255) ∧ (0 ≤ a ∧ a ≤ 255) ∧ (0 ≤ b ∧ b ≤ 255) ∧ (k = 2 → n ≤ 256 ∧ dn = 0 ∧ lg = false) ∧ (k ≠ 2 → n = 0) ∧ ((k = 1 ∨ k = 4) → dn = 0) := by
  unfold rightN at h
  repeat' split at h
  all_goals first | (cases h; done) | skip
  all_goals
    simp [szR, woR, fiR] at h
    refine ⟨⟨?_, ?_⟩, ⟨?_, ?_⟩, ⟨?_, ?_⟩, ?_, ?_, ?_⟩ <;> first | omega | (intro _; omega) | (intro _; refine ⟨by omega, by omega, ?_⟩; simp_all)
set_option maxHeartbeats 400000 in
theorem Encode_no (f : Fm) (v : Value) (w : World) (hv : FrV w v f) (hf : f.Fits) (hR : f.right = false) :
    Calls Try.prog 9 #[v] w fun e w' => e = .returned (.tuple #[.slice none 0 0, .int .i64 1]) ∧ w.grownBy w' none := by
  obtain ⟨wa, wc, da, dc, rfl, r1, r2⟩ := hv
  have hR' : rightN f.k f.a f.b f.ws.length f.d.length (longs f.ws) = false := hR
  have C := Lib.hid (fun (W : World) (hW : w.grownBy W none) => hR' ▸ Right_any f.k f.a f.b wa da f.ws.length wc f.d.length dc f.ws W rfl (by have := hf.ws; omega) (by have := hf.d; omega) (r1.grown hW (.inl rfl)) (fun s hs => by have := hf.s s hs; omega))
  clear r1 r2 hR hR' hf
  go_enter Try.func9, Try.ntmps9
  go_wp2_with (go_at_call 12; refine (C.out _ (World.grownBy_alloc _ _ _)).mono ?_; rintro e w1 ⟨rfl, G1⟩)
  go_ret2
  exact ⟨rfl, (World.grownBy_alloc w _ none).trans G1⟩

theorem m_w74 (v : Value) (w : World) : (method 198 74 v "mullion/frame.write").run Try.prog w = .ok (48, v) w := by kernel_rfl
theorem m_w75 (v : Value) (w : World) : (method 198 75 v "mullion/frame.write").run Try.prog w = .ok (51, v) w := by kernel_rfl
theorem m_w77 (v : Value) (w : World) : (method 198 77 v "mullion/frame.write").run Try.prog w = .ok (57, v) w := by kernel_rfl
theorem cf48 (args : Array Value) (w : World) : (callFunc 48 args).run Try.prog w = .ok (.enter 48 args) w := by kernel_rfl
theorem cf51 (args : Array Value) (w : World) : (callFunc 51 args).run Try.prog w = .ok (.enter 51 args) w := by kernel_rfl
theorem cf57 (args : Array Value) (w : World) : (callFunc 57 args).run Try.prog w = .ok (.enter 57 args) w := by kernel_rfl

theorem longs_false {ws : List ByteArray} (h : longs ws = false) : ∀ s ∈ ws, s.size ≤ 8192 := by
  intro s hs
  simp only [longs, decide_eq_false_iff_not] at h
  rcases Nat.lt_or_ge 8192 s.size with h1 | h1
  · exact absurd ⟨s, hs, h1⟩ h
  · exact h1

theorem Encode_yes (f : Fm) (v : Value) (w : World) (hv : FrV w v f) (hf : f.Fits) (hR : f.right = true) :
    Calls Try.prog 9 #[v] w (OkPost w f.enc) := by
  obtain ⟨wa, wc, da, dc, rfl, r1, r2⟩ := hv
  have hR' : rightN f.k f.a f.b f.ws.length f.d.length (longs f.ws) = true := hR
  have C := (fun (W : World) (hW : w.grownBy W none) => hR' ▸ Right_any f.k f.a f.b wa da f.ws.length wc f.d.length dc f.ws W rfl (by have := hf.ws; omega) (by have := hf.d; omega) (r1.grown hW (.inl rfl)) (fun s hs => by have := hf.s s hs; omega))
  obtain ⟨bk, ba, bb, b2, b3, b4⟩ := right_bounds hR'
  rcases cod_cases f.k with ⟨hc, hk, hr⟩ | ⟨hc, hk, hr⟩ | ⟨co, dt, hc, hk, hr⟩ | ⟨hc, hr⟩
  · have hd : f.d = [] := by
      rw [hr] at hR'
      simp [szR] at hR'
      exact hR'.2
    refine enc_core 74 (.agg #[]) 48 f.k f.a f.b _ _ f.pay w bk ba bb ?_ (m_w74 _) hc cf48 C ?_
    · simp [Fm.pay, hk, hd]
    · intro W hW
      refine (szW_any f.k f.a f.b _ _ W).mono ?_
      rintro e w' ⟨rfl, hg⟩
      exact ⟨none, 0, by simp [Fm.pay, hk, hd], by simp [Fm.pay, hk, hd, bs]; exact Rd.nil _ _, hg⟩
  · obtain ⟨n1, n2, n3⟩ := b2 hk
    have hs := longs_false n3
    have hp : f.pay = wbytes f.ws := by simp [Fm.pay, hk]
    refine enc_core 75 (.agg #[]) 51 f.k f.a f.b _ _ f.pay w bk ba bb ?_ (m_w75 _) hc cf51 C ?_
    · rw [hp]; have := wbytes_len f.ws hs; omega
    · intro W hW
      refine (woW_any f.k f.a f.b wa _ _ wc f.ws W rfl n1 (r1.grown hW (.inl rfl)) hs).mono ?_
      rintro e w' ⟨A, c, rfl, ho, hg⟩
      obtain ⟨A5, c5, e5, R5, _, _⟩ := Rd.of_own ho
      injection e5 with e5 _ e6
      subst e5; subst e6
      exact ⟨A, c, by rw [hp], by rw [hp]; exact R5, hg⟩
  · have hp : f.pay = f.d := by simp [Fm.pay, hk]
    refine enc_core 77 (.agg #[.bool co, .bool dt]) 57 f.k f.a f.b _ _ f.pay w bk ba bb ?_ (m_w77 _) hc cf57 C ?_
    · rw [hp]; exact hf.d
    · intro W hW
      refine (fiW_any co dt f.k f.a f.b _ _ W).mono ?_
      rintro e w' ⟨rfl, hg⟩
      exact ⟨da, dc, by rw [hp], by rw [hp]; exact (r2.grown hW (.inl rfl)).grown hg (.inl rfl), hg⟩
  · rw [hr] at hR'; cases hR'
end Go.Proofs.Ytdbjphabmdmjcaa
