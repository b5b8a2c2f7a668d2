/- Layout: the reference's size, add, path (to the first leaf). -/
import Derived.Test.YtcklmkjlbpjojaaGreatDoorRD
import Derived.Test.YtcklmkjlbpjojaaGreatDoorD3
namespace Go.Proofs.YtcklmkjlbpjojaaGreatDoor
open Go.RowKit
set_option linter.unusedSimpArgs false
set_option linter.unusedVariables false

theorem infoR : (Tryz.prog.info? 55).map (fun i => (i.size)) = some 7 := by kernel_rfl
theorem eqR_same (g : Nat) (w : World) : Sem.run Tryz.prog (binOp .eql 52 (.pointer (some ⟨g, 0, none⟩)) (.pointer (some ⟨g, 0, none⟩))) w = .ok (.bool true) w := by
  have h := infoR
  cases hi : Tryz.prog.info? 55 with
  | none => rw [hi] at h; cases h
  | some j => exact run_eql_ptr_same w ⟨g, 0, none⟩ Tryz.underlying52 hi
theorem eqR_other {a b : Nat} (w : World) (hne : a ≠ b) (ha : IsC w a) (hb : IsC w b) : Sem.run Tryz.prog (binOp .eql 52 (.pointer (some ⟨a, 0, none⟩)) (.pointer (some ⟨b, 0, none⟩))) w = .ok (.bool false) w := by
  have h := infoR
  cases hi : Tryz.prog.info? 55 with
  | none => rw [hi] at h; cases h
  | some j =>
    rw [hi] at h
    obtain ⟨c1, t1, h1⟩ := ha
    obtain ⟨c2, t2, h2⟩ := hb
    exact run_eql_ptr_other (a := ⟨a, 0, none⟩) (b := ⟨b, 0, none⟩) w Tryz.underlying52 hi (by simp at h; omega) (by intro e; injection e; contradiction) h1 h2
theorem sizeR (g : Nat) (a b : Int) (bd : Bool) (w : World) (h3 : w.cell? ⟨g, 3, none⟩ = some (.int .i64 a)) (h4 : w.cell? ⟨g, 4, none⟩ = some (.int .i64 b)) :
    Calls Tryz.prog 36 #[ptr g, .bool bd] w fun e w' => e = .returned (.int .i64 (if bd = true then a else b)) ∧ w' = w := by
  unfold ptr
  cases bd with
  | true =>
    go_enter Tryz.func36, Tryz.ntmps36
    go_wp2_with fail
    go_ret
    exact ⟨rfl, rfl⟩
  | false =>
    go_enter Tryz.func36, Tryz.ntmps36
    go_wp2_with fail
    go_ret
    exact ⟨rfl, rfl⟩
theorem addR (g : Nat) (a b z : Int) (bd : Bool) (w : World) (h3 : w.cell? ⟨g, 3, none⟩ = some (.int .i64 a)) (h4 : w.cell? ⟨g, 4, none⟩ = some (.int .i64 b)) (f : ∀ j, w.frozen? ⟨g, j, none⟩ = false) :
    Calls Tryz.prog 37 #[ptr g, .bool bd, .int .i64 z] w fun e w' => e = .returned (.tuple #[]) ∧ w' = if bd = true then w.setCell ⟨g, 3, none⟩ (.int .i64 (wrap64 (a + z))) else w.setCell ⟨g, 4, none⟩ (.int .i64 (wrap64 (b + z))) := by
  have f3 := f 3
  have f4 := f 4
  clear f
  unfold ptr
  cases bd with
  | true =>
    go_enter Tryz.func37, Tryz.ntmps37
    go_wp2_with fail
    go_end0
    exact ⟨rfl, rfl⟩
  | false =>
    go_enter Tryz.func37, Tryz.ntmps37
    go_wp2_with fail
    go_end0
    exact ⟨rfl, rfl⟩
/-- The first leaf, and what lies above it. -/
def T.lm : T → T
  | .mk n [] => .mk n []
  | .mk _ (k :: _) => k.lm
def T.spine : T → List T
  | .mk n [] => [.mk n []]
  | .mk n (k :: ks) => .mk n (k :: ks) :: k.spine
theorem T.lm_nil (n : Nd) : (T.mk n []).lm = .mk n [] := by rw [T.lm]
theorem T.lm_cons (n : Nd) (k : T) (ks : List T) : (T.mk n (k :: ks)).lm = k.lm := by rw [T.lm]
theorem T.spine_nil (n : Nd) : (T.mk n []).spine = [.mk n []] := by rw [T.spine]
theorem T.spine_cons (n : Nd) (k : T) (ks : List T) : (T.mk n (k :: ks)).spine = .mk n (k :: ks) :: k.spine := by rw [T.spine]
theorem lm_bl (t : T) : t.lm.g ∈ t.bl := by
  induction t using T.ind with
  | h n ks ih =>
    cases ks with
    | nil => rw [T.lm_nil]; exact T.g_mem _
    | cons k ks =>
      rw [T.lm_cons, T.bl_mk, blL_cons]
      have := ih k (by simp)
      simp [this]
theorem spine_pos (t : T) : 0 < t.spine.length := by
  cases t with
  | mk n ks =>
    cases ks with
    | nil => rw [T.spine_nil]; simp
    | cons k ks => rw [T.spine_cons]; simp
theorem RP.isC {w : World} {t : T} (h : RP w t) : IsC w t.g := by
  cases t with
  | mk n ks => exact ⟨_, _, h.at_.h⟩
theorem lm_RP (t : T) (w : World) (h : RP w t) : RP w t.lm := by
  induction t using T.ind with
  | h n ks ih =>
    cases ks with
    | nil => rw [T.lm_nil]; exact h
    | cons k ks =>
      rw [T.lm_cons]
      exact ih k (by simp) (RPs_iff.1 h.kids k (by simp))
set_option maxHeartbeats 1000000 in
set_option maxRecDepth 100000 in
theorem pathR_any : ∀ (t : T) (gz : Nat) (w : World), RP w t → t.bl.Nodup → t.lm.g = gz → t.spine.length ≤ 100000 →
    Calls Tryz.prog 38 #[ptr t.g, ptr gz] w fun e w' => ∃ A c, e = .returned (.slice A t.spine.length c) ∧ w'.ownsRow w.heap.size 52 1 (.slice A t.spine.length c) t.spine.length (ptrs t.spine) ∧ w.grownBy w' none := by
  intro t
  induction t using T.ind with
  | h n ks ih =>
    intro gz w hT hN hto hlen
    have hAt := hT.at_
    have hK := hT.kids
    have c6 := hAt.c6
    have hsm := hAt.small
    show Calls Tryz.prog 38 #[ptr n.g, ptr gz] w _
    cases ks with
    | nil =>
      rw [T.lm_nil] at hto
      have hto' : n.g = gz := hto
      subst hto'
      rw [T.spine_nil]
      have he := eqR_same n.g w
      clear hsm hK ih hT hAt hlen c6 hto
      unfold ptr
      go_enter Tryz.func38, Tryz.ntmps38
      go_wp2_with fail
      go_ret
      refine ⟨some ⟨w.heap.size, 0, none⟩, 1, rfl, ?_, World.grownBy_alloc w _ none⟩
      exact ⟨by simp [ptrs], .inr ⟨w.heap.size, 1, #[ptr n.g], rfl, Nat.le_refl _, heap_alloc_new w _, Nat.le_refl _, by decide, rfl, rfl⟩⟩
    | cons k ks =>
      rw [T.lm_cons] at hto
      rw [T.spine_cons] at hlen ⊢
      have hkT : RP w k := RPs_iff.1 hK k (by simp)
      rw [T.bl_mk, blL_cons] at hN
      have hne : n.g ≠ gz := fun e => (List.nodup_cons.1 hN).1 (by have := lm_bl k; rw [hto] at this; simp [e, this])
      have hkN : k.bl.Nodup := (List.nodup_append.1 ((List.nodup_append.1 (List.nodup_cons.1 hN).2).2.1)).1
      have hC : IsC w n.g := ⟨_, _, hAt.h⟩
      have hCt : IsC w gz := by
        have := (lm_RP k w hkT).isC
        rw [hto] at this; exact this
      have he := eqR_other w hne hC hCt
      obtain ⟨b, hA, hc⟩ := hAt.kid (i := 0) (k := k) rfl
      simp only [List.length_cons] at hlen
      have CK := Lib.hid (ih k (by simp) gz w hkT hkN hto (by omega))
      have hAb : adr n.A = some ⟨b, 0, none⟩ := by rw [hA]; rfl
      rw [hAb] at c6
      obtain ⟨len, hln⟩ : ∃ len, len = (k :: ks).length := ⟨_, rfl⟩
      rw [← hln] at c6 hsm
      have hpos : 0 < len := by rw [hln]; simp
      obtain ⟨m, hm⟩ : ∃ m, m = k.spine.length := ⟨_, rfl⟩
      have hmp := spine_pos k
      rw [← hm] at CK hmp hlen
      have hglt : n.g < w.heap.size := hAt.lt _ (by simp)
      replace hln := Lib.hid hln; replace hm := Lib.hid hm; replace hAt := Lib.hid hAt
      clear hT hK ih hkT hN hne hkN hC hCt hAb hto
      unfold ptr at he hc CK ⊢
      go_enter Tryz.func38, Tryz.ntmps38
      go_wp2_with fail
      go_loopw [5] (fun iv wr => iv = .int .i64 0 ∧ wr = w) (fun _ _ => 0)
      case atStart => exact ⟨rfl, rfl⟩
      case round =>
        obtain ⟨rfl, rfl⟩ := hrel
        go_wp2_with fail
        refine CK.out.mono ?_
        rintro e w1 ⟨A2, c2, rfl, O2, g2⟩
        have R2 := own_Rd O2
        have hsz : wr.heap.size ≤ w1.heap.size := g2.size
        have OA : (w1.alloc (.cells #[.pointer (some ⟨n.g, 0, none⟩)] 52)).ownsRow wr.heap.size 52 1 (.slice (some ⟨w1.heap.size, 0, none⟩) 1 1) 1 [ptr n.g] :=
          ⟨by simp, .inr ⟨w1.heap.size, 1, #[ptr n.g], rfl, hsz, heap_alloc_new w1 _, Nat.le_refl _, by decide, rfl, rfl⟩⟩
        have RA := R2.grown (World.grownBy_alloc w1 (.cells #[.pointer (some ⟨n.g, 0, none⟩)] 52) none) (.inl rfl)
        have hsz2 : wr.heap.size ≤ (w1.alloc (.cells #[.pointer (some ⟨n.g, 0, none⟩)] 52)).heap.size := by simp; omega
        replace O2 := Lib.hid O2; replace g2 := Lib.hid g2; replace OA := Lib.hid OA; replace RA := Lib.hid RA; replace R2 := Lib.hid R2
        go_wp2_with (at_builtin; refine apR rfl (.tmp 34) (.tmp 35) rfl wr.heap.size (.slice (some ⟨w1.heap.size, 0, none⟩) 1 1) 1 _ rfl OA.out A2 m c2 (ptrs k.spine) rfl (by rw [ptrs_len, hm.out]) RA.out (ptrs_one _) (by omega) hsz2 ?_; intro A3 c3 w3 O3 G3 hh3; replace O3 := Lib.hid O3; replace G3 := Lib.hid G3; replace hh3 := Lib.hid hh3)
        go_ret
        have e1 : k.spine.length + 1 = 1 + m := by rw [hm.out]; omega
        rw [e1]
        refine ⟨A3, c3, rfl, O3.out, ?_⟩
        exact grown_own (g2.out.trans (World.grownBy_alloc w1 _ none)) G3.out fun b hb => (OA.out.lt b hb).1
end Go.Proofs.YtcklmkjlbpjojaaGreatDoor
