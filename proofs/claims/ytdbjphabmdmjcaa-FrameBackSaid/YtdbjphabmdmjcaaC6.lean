/- Contracts: the filled codec's read; Right. -/
import Derived.Test.YtdbjphabmdmjcaaC5
namespace Go.Proofs.Ytdbjphabmdmjcaa
open Go.RowKit
set_option linter.unusedSimpArgs false
set_option linter.unusedVariables false

set_option maxHeartbeats 400000 in
theorem fiRead_any (co da : Bool) (p : Nat) (k a b : Int) (wv dv : Value) (A : Option Addr) (n c : Nat) (l : List UInt8) (w : World) (hl : n = l.length) (hn : n ≤ 16384) (hr : Rd w A (bs l)) 
    (hf : FB w p k a b wv dv) :
    Calls Try.prog 55 #[.agg #[.bool co, .bool da], .pointer (some ⟨p, 0, none⟩), .slice A n c] w fun e w' => ∃ v, e = .returned (.bool true) ∧
      w.grownBy w' (some p) ∧ FB w' p k a b wv v ∧ w'.ownsRow w.heap.size 5 1 v n (bs l) := by
  have C := Lib.hid (fun (W : World) (hW : w.grownBy W none) => clone_any A n c l W hl (by omega) (hr.grown hW (.inl rfl)))
  clear hl hr
  have hp := hf.lt
  have hf' := Lib.hid hf; clear hf
  go_enter Try.func55, Try.ntmps55
  go_wp2_with (go_at_call 27; refine (C.out _ (by repeat (first | exact World.grownBy.refl _ _ | apply g_alloc | apply g_drew))).mono ?_; rintro e w1 ⟨A1, c1, rfl, ho, hg⟩; have G1 : w.grownBy w1 none := (g_alloc (World.grownBy.refl w none) _).trans hg; have F1 := hf'.out.grown G1 (by simp); have c4 := F1.cell 4; have f4 := F1.free 4; simp at c4)
  go_ret
  refine ⟨.slice A1 n c1, rfl, g_set (G1.but (some p)) rfl _, F1.set4 _, ?_⟩
  exact ownsRow_setCell_below (own_le ho (by simp)) hp _

def rightN (k a b : Int) (n dn : Nat) (lg : Bool) : Bool :=
  if k = 1 then szR a b n dn else if k = 4 then szR a b n dn else if k = 2 then woR a b n dn lg
  else if k = 3 then fiR false true a b n dn else if k = 6 then fiR false true a b n dn
  else if k = 7 then fiR false true a b n dn else if k = 8 then fiR false true a b n dn
  else if k = 5 then fiR false false a b n dn else if k = 9 then fiR true true a b n dn else false

theorem cod_cases (k : Int) :
    (codecOf k = .iface 74 (.agg #[]) ∧ k ≠ 2 ∧ ∀ a b n dn lg, rightN k a b n dn lg = szR a b n dn) ∨
    (codecOf k = .iface 75 (.agg #[]) ∧ k = 2 ∧ ∀ a b n dn lg, rightN k a b n dn lg = woR a b n dn lg) ∨
    (∃ co da, codecOf k = .iface 77 (.agg #[.bool co, .bool da]) ∧ k ≠ 2 ∧ ∀ a b n dn lg, rightN k a b n dn lg = fiR co da a b n dn) ∨
    (codecOf k = .nilIface ∧ ∀ a b n dn lg, rightN k a b n dn lg = false) := by
  by_cases h1 : k = 1
  · subst h1; exact .inl ⟨rfl, by decide, fun _ _ _ _ _ => rfl⟩
  by_cases h4 : k = 4
  · subst h4; exact .inl ⟨rfl, by decide, fun _ _ _ _ _ => rfl⟩
  by_cases h2 : k = 2
  · subst h2; exact .inr (.inl ⟨rfl, rfl, fun _ _ _ _ _ => rfl⟩)
  by_cases h3 : k = 3
  · subst h3; exact .inr (.inr (.inl ⟨_, _, rfl, by decide, fun _ _ _ _ _ => rfl⟩))
  by_cases h6 : k = 6
  · subst h6; exact .inr (.inr (.inl ⟨_, _, rfl, by decide, fun _ _ _ _ _ => rfl⟩))
  by_cases h7 : k = 7
  · subst h7; exact .inr (.inr (.inl ⟨_, _, rfl, by decide, fun _ _ _ _ _ => rfl⟩))
  by_cases h8 : k = 8
  · subst h8; exact .inr (.inr (.inl ⟨_, _, rfl, by decide, fun _ _ _ _ _ => rfl⟩))
  by_cases h5 : k = 5
  · subst h5; exact .inr (.inr (.inl ⟨_, _, rfl, by decide, fun _ _ _ _ _ => rfl⟩))
  by_cases h9 : k = 9
  · subst h9; exact .inr (.inr (.inl ⟨_, _, rfl, by decide, fun _ _ _ _ _ => rfl⟩))
  · exact .inr (.inr (.inr ⟨by simp [codecOf, *], fun _ _ _ _ _ => by simp [rightN, *]⟩))

theorem m_r74 (v : Value) (w : World) : (method 198 74 v "mullion/frame.right").run Try.prog w = .ok (47, v) w := by kernel_rfl
theorem m_r75 (v : Value) (w : World) : (method 198 75 v "mullion/frame.right").run Try.prog w = .ok (50, v) w := by kernel_rfl
theorem m_r77 (v : Value) (w : World) : (method 198 77 v "mullion/frame.right").run Try.prog w = .ok (56, v) w := by kernel_rfl

set_option maxHeartbeats 400000 in
theorem Right_any (k a b : Int) (wa da : Option Addr) (n c dn dc : Nat) (ws : List ByteArray) (w : World) (hl : n = ws.length) (hn : n ≤ 140737488355328) (hd : dn ≤ 140737488355328) (hr : Rd w wa (ws.map .string))
    (hs : ∀ s ∈ ws, s.size ≤ 140737488355328) :
    Calls Try.prog 12 #[.agg #[.int .i64 k, .int .i64 a, .int .i64 b, .slice wa n c, .slice da dn dc]] w fun e w' =>
      e = .returned (.bool (rightN k a b n dn (longs ws))) ∧ w.grownBy w' none := by
  have hl' := Lib.hid hl; have hr' := Lib.hid hr; have hs' := Lib.hid hs
  clear hl hr hs
  rcases cod_cases k with ⟨hc, hk, hR⟩ | ⟨hc, hk, hR⟩ | ⟨co, dt, hc, hk, hR⟩ | ⟨hc, hR⟩
  · have C := Lib.hid (fun W => hc ▸ of_any k W)
    replace hR := Lib.hid hR
    clear hc hk
    have m1 := m_r74
    go_enter Try.func12, Try.ntmps12
    go_wp2_with (first
      | (go_at_call 25; refine (C.out _).mono ?_; rintro e w' ⟨rfl, rfl⟩)
      | (go_at_call 47; refine (szR_any k a b wa da n c dn dc _ hn hd).mono ?_; rintro e w1 ⟨rfl, G⟩))
    go_ret
    exact ⟨ret_bool (by rw [hR.out]), (g_alloc (World.grownBy.refl w none) _).trans G⟩
  · have C := Lib.hid (fun W => hc ▸ of_any k W)
    replace hR := Lib.hid hR
    clear hc hk
    have m1 := m_r75
    go_enter Try.func12, Try.ntmps12
    go_wp2_with (first
      | (go_at_call 25; refine (C.out _).mono ?_; rintro e w' ⟨rfl, rfl⟩)
      | (go_at_call 50; refine (woR_any k a b wa da n c dn dc ws _ hl'.out hn hd (hr'.out.alloc _) hs'.out).mono ?_; rintro e w1 ⟨rfl, G⟩))
    go_ret
    exact ⟨ret_bool (by rw [hR.out]), (g_alloc (World.grownBy.refl w none) _).trans G⟩
  · have C := Lib.hid (fun W => hc ▸ of_any k W)
    replace hR := Lib.hid hR
    clear hc hk
    have m1 := m_r77
    go_enter Try.func12, Try.ntmps12
    go_wp2_with (first
      | (go_at_call 25; refine (C.out _).mono ?_; rintro e w' ⟨rfl, rfl⟩)
      | (go_at_call 56; refine (fiR_any co dt k a b wa da n c dn dc _).mono ?_; rintro e w1 ⟨rfl, G⟩))
    go_ret
    exact ⟨ret_bool (by rw [hR.out]), (g_alloc (World.grownBy.refl w none) _).trans G⟩
  · have C := Lib.hid (fun W => hc ▸ of_any k W)
    replace hR := Lib.hid hR
    clear hc
    go_enter Try.func12, Try.ntmps12
    go_wp2_with (go_at_call 25; refine (C.out _).mono ?_; rintro e w' ⟨rfl, rfl⟩)
    go_ret
    exact ⟨ret_bool (by rw [hR.out]), g_alloc (World.grownBy.refl w none) _⟩
end Go.Proofs.Ytdbjphabmdmjcaa
