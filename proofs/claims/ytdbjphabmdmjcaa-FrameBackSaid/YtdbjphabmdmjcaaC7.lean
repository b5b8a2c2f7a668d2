/- Contract: Encode. -/
import Derived.Test.YtdbjphabmdmjcaaC6
import Derived.Deep.RegionHeld3
namespace Go.Proofs.Ytdbjphabmdmjcaa
open Go.RowKit
set_option linter.unusedSimpArgs false
set_option linter.unusedVariables false

def c8 (k : Int) : UInt8 := UInt8.ofNat k.toNat
theorem c8_eq (k : Int) (h0 : 0 ≤ k) (h1 : k ≤ 255) : Value.int .u8 k = b8 (c8 k) := by
  have : k = ((c8 k).toNat : Int) := by unfold c8; rw [UInt8.toNat_ofNat']; omega
  unfold b8; rw [← this]

def encB (k a b : Int) (pay : List UInt8) : List UInt8 := c8 k :: c8 a :: c8 b :: pay

def OkPost (w : World) (l : List UInt8) (e : Ending) (w' : World) : Prop :=
  w.grownBy w' none ∧ ((16384 < l.length ∧ e = .returned (.tuple #[.slice none 0 0, .int .i64 2])) ∨
    (l.length ≤ 16384 ∧ ∃ A c, e = .returned (.tuple #[.slice A (l.length + 2) c, .int .i64 0]) ∧ w'.ownsRow w.heap.size 5 1 (.slice A (l.length + 2) c) (l.length + 2) (bs (hi8 l.length :: lo8 l.length :: l))))

set_option maxRecDepth 100000 in
set_option maxHeartbeats 1000000 in
theorem enc_core (T : TypeId) (v : Value) (F : FuncId) (k a b : Int) (wv dv : Value) (pay : List UInt8) (w : World)
    (hk : 0 ≤ k ∧ k ≤ 255) (ha : 0 ≤ a ∧ a ≤ 255) (hb : 0 ≤ b ∧ b ≤ 255) (hp : pay.length ≤ 140737488351232)
    (hm : ∀ w, (method 198 T v "mullion/frame.write").run Try.prog w = .ok (F, v) w) (hcod : codecOf k = .iface T v)
    (hcf : ∀ args w, (callFunc F args).run Try.prog w = .ok (.enter F args) w)
    (hR : ∀ W, w.grownBy W none → Calls Try.prog 12 #[.agg #[.int .i64 k, .int .i64 a, .int .i64 b, wv, dv]] W fun e w' => e = .returned (.bool true) ∧ W.grownBy w' none)
    (hW : ∀ W, w.grownBy W none → Calls Try.prog F #[v, .agg #[.int .i64 k, .int .i64 a, .int .i64 b, wv, dv]] W fun e w' => ∃ A c, e = .returned (.slice A pay.length c) ∧ Rd w' A (bs pay) ∧ W.grownBy w' none) :
    Calls Try.prog 9 #[.agg #[.int .i64 k, .int .i64 a, .int .i64 b, wv, dv]] w (OkPost w (encB k a b pay)) := by
  obtain ⟨k0, k1⟩ := hk; obtain ⟨a0, a1⟩ := ha; obtain ⟨b0, b1⟩ := hb
  replace hR := Lib.hid hR; replace hW := Lib.hid hW
  have C := Lib.hid (fun W => hcod ▸ of_any k W)
  clear hcod
  have F0 : FB (w.alloc (.cells #[.int .i64 k, .int .i64 a, .int .i64 b, wv, dv] 25)) w.heap.size k a b wv dv := heap_alloc_new w _
  replace F0 := Lib.hid F0
  go_enter Try.func9, Try.ntmps9
  go_wp2_with (go_at_call 12; refine (hR.out _ (World.grownBy_alloc _ _ _)).mono ?_; rintro e w1 ⟨rfl, G1⟩)
  have G2 : w.grownBy w1 none := (World.grownBy_alloc w _ none).trans G1
  have F1 := F0.out.grown G1 (by simp)
  have q0 := F1.cell 0; have q1 := F1.cell 1; have q2 := F1.cell 2; have q3 := F1.cell 3; have q4 := F1.cell 4
  simp at q0 q1 q2 q3 q4
  replace G1 := Lib.hid G1; replace G2 := Lib.hid G2; replace F1 := Lib.hid F1
  have hsz := F1.out.lt
  go_wp2_with fail
  obtain ⟨i0, hi0, hz0, hz1, hz2⟩ := info_parts info5
  replace hi0 := Lib.hid hi0; replace hz0 := Lib.hid hz0; replace hz1 := Lib.hid hz1; replace hz2 := Lib.hid hz2
  have s1 : IntKind.u8.wrap k = k := IntWalk.u8_in _ (by omega)
  have s2 : IntKind.u8.wrap a = a := IntWalk.u8_in _ (by omega)
  have s3 : IntKind.u8.wrap b = b := IntWalk.u8_in _ (by omega)
  have L0 := Lib.hid (World.ownsRow_lit (base := w.heap.size) (e := 5) (size := 1) w1 #[.int .u8 k, .int .u8 a, .int .u8 b] 3 (by omega) (by decide) rfl)
  have S0 : w.heap.size ≤ ((w1.alloc (.cells #[.int .u8 k, .int .u8 a, .int .u8 b] 5)).drew).heap.size := by simp; omega
  have S1 : w.heap.size ≤ w1.drew.heap.size := G2.out.size
  have p1 : 0 < 1 := by omega
  have p2 : (bs pay).length = pay.length * 1 := by rw [bs_len, Nat.mul_one]
  have p3 : 3 + pay.length ≤ maxLen := by unfold maxLen; omega
  have p4 : (3 + pay.length) * 1 ≤ 140737488355328 := by omega
  go_region_held3 (fun w' => w'.cell? ⟨w.heap.size, 0, none⟩ = some (.int .i64 k) ∧ w'.cell? ⟨w.heap.size, 1, none⟩ = some (.int .i64 a) ∧ w'.cell? ⟨w.heap.size, 2, none⟩ = some (.int .i64 b) ∧ w'.cell? ⟨w.heap.size, 3, none⟩ = some wv ∧ w'.cell? ⟨w.heap.size, 4, none⟩ = some dv)
    (first
      | go_keep
      | (go_split_ands
         refine ⟨?_, ?_, ?_, ?_, ?_⟩ <;> (refine G3.cell ?_ ?_ <;> first | assumption | simp))
      | (go_split_ands
         refine ⟨?_, ?_, ?_, ?_, ?_⟩ <;> (refine G4.cell ?_ ?_ <;> first | assumption | (simp [Value.ownBlock]; omega)))
      | fail)
    ((first
      | (go_at_call 25; refine (C.out _).mono ?_; rintro e w' ⟨rfl, rfl⟩)
      | (refine (hW.out _ (g_drew (g_alloc G2.out _))).mono ?_; rintro e w2 ⟨A2, c2, rfl, R2, G3⟩; have L3 := own_keep (L0.out.drew) G3; have S3 := Nat.le_trans S0 G3.size; have G3' := (g_drew (g_alloc G2.out _)).trans G3)
      | (refine (hW.out _ (g_drew G2.out)).mono ?_; rintro e w2 ⟨A2, c2, rfl, R2, G3⟩; have L3b := World.ownsRow_lit (base := w.heap.size) (e := 5) (size := 1) w2 #[.int .u8 k, .int .u8 a, .int .u8 b] 3 (Nat.le_trans S1 G3.size) (by decide) rfl; have S3 := Nat.le_trans S1 (Nat.le_trans G3.size (World.grownBy_alloc w2 (.cells #[.int .u8 k, .int .u8 a, .int .u8 b] 5) none).size); have G3' := (g_drew G2.out).trans G3; have S4 : w.heap.size < w2.heap.size := Nat.lt_of_lt_of_le hsz G3.size)
      | (refine step_append_rd (by rfl) (.tmp 17) (.tmp 22) 23 (by rfl) w.heap.size 5 i0 _ 1 1 Try.underlying23 hi0.out hz0.out hz1.out hz2.out rfl p1 (.slice (some ⟨w1.heap.size, 0, none⟩) 3 3) 3 [.int .u8 k, .int .u8 a, .int .u8 b] (by rfl) L3 A2 pay.length c2 (bs pay) (by rfl) p2 R2 (bs_one pay) p3 p4 S3 ?_; intro A4 c4 w4 O4 G4 hh4; have G5 := g_own G3' L3 (Nat.le_refl _) G4)
      | (refine step_append_rd (by rfl) (.tmp 17) (.tmp 22) 23 (by rfl) w.heap.size 5 i0 _ 1 1 Try.underlying23 hi0.out hz0.out hz1.out hz2.out rfl p1 (.slice (some ⟨w2.heap.size, 0, none⟩) 3 3) 3 [.int .u8 k, .int .u8 a, .int .u8 b] (by rfl) L3b A2 pay.length c2 (bs pay) (by rfl) p2 (R2.alloc _) (bs_one pay) p3 p4 S3 ?_; intro A4 c4 w4 O4 G4 hh4; have G5 := g_own (g_alloc G3' _) L3b (Nat.le_refl _) G4)
      | fail))
  all_goals
    have hxs : [Value.int .u8 k, .int .u8 a, .int .u8 b] ++ bs pay = bs (encB k a b pay) := by
      rw [c8_eq k k0 k1, c8_eq a a0 a1, c8_eq b b0 b1]; rfl
    rw [hxs] at O4
    clear hxs s1 s2 s3 p1 p2 p3 p4 S0 S1 S3 L0
    clear G4 G3 hh4 R2 q0 q1 q2 q3 q4 hsz
    have hL : (encB k a b pay).length = 3 + pay.length := by simp [encB]; omega
    replace O4 := Lib.hid O4; replace G5 := Lib.hid G5
    by_cases hlen : 16384 < 3 + pay.length
    · have hlen' : (16384 : Int) < 3 + (pay.length : Int) := by omega
      replace hL := Lib.hid hL
      go_wp2_with fail
      go_ret2
      exact ⟨G5.out, .inl ⟨by rw [hL.out]; exact hlen, rfl⟩⟩
    · have hlen' : ¬ (16384 : Int) < 3 + (pay.length : Int) := by omega
      have hle : 3 + pay.length ≤ 16384 := by omega
      have R5 := Rd.of_own O4.out
      obtain ⟨A5, c5, e5, R5, _, _⟩ := R5
      injection e5 with e5 _ e6
      subst e5; subst e6
      have hlit : ([b8 (hi8 (3 + pay.length)), b8 (lo8 (3 + pay.length))] : List Value) = bs [hi8 (3 + pay.length), lo8 (3 + pay.length)] := rfl
      have h1 := hi8_u8 (3 + pay.length) (by omega)
      have h2 := lo8_u8 (3 + pay.length)
      have O6 := World.ownsRow_lit (base := w.heap.size) (e := 5) (size := 1) w4 #[.int .u8 (((3 + pay.length : Nat) : Int) / 256), .int .u8 (((3 + pay.length : Nat) : Int) % 256)] 2 G5.out.size (by decide) rfl
      replace hL := Lib.hid hL; replace R5 := Lib.hid R5; replace O6 := Lib.hid O6; replace h1 := Lib.hid h1; replace h2 := Lib.hid h2; replace hlit := Lib.hid hlit
      go_wp2_with (at_builtin; go_must (refine ap5 rfl (.tmp 34) (.tmp 35) rfl w.heap.size (.slice (some ⟨w4.heap.size, 0, none⟩) 2 2) 2 _ rfl O6.out A4 (3 + pay.length) c4 _ rfl (by rw [bs_len, hL.out]) (R5.out.alloc _) (bs_one _) (by omega) (by have := G5.out.size; simp; omega) ?_; intro A7 c7 w7 O7 G7 _))
      go_ret2
      refine ⟨g_own (g_alloc G5.out _) O6.out (Nat.le_refl _) G7, .inr ⟨by rw [hL.out]; exact hle, A7, c7, ?_, ?_⟩⟩
      · rw [hL.out, Nat.add_comm]; rfl
      · rw [hL.out, Nat.add_comm (3 + pay.length) 2]
        have e : bs (hi8 (3 + pay.length) :: lo8 (3 + pay.length) :: encB k a b pay) = [Value.int .u8 (((3 + pay.length : Nat) : Int) / 256), .int .u8 (((3 + pay.length : Nat) : Int) % 256)] ++ bs (encB k a b pay) := by
          rw [h1.out, h2.out]; rfl
        rw [e]
        exact O7
end Go.Proofs.Ytdbjphabmdmjcaa
