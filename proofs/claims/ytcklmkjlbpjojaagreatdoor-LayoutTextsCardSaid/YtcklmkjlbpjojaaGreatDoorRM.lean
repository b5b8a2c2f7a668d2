/- Layout: the reference's sign, Read. Layout: the reference's Read: a node's kids, one more. No walk. -/
import Derived.Test.YtcklmkjlbpjojaaGreatDoorRD
import Derived.Test.YtcklmkjlbpjojaaGreatDoorRF
import Derived.Test.YtcklmkjlbpjojaaGreatDoorR7
namespace Go.Proofs.YtcklmkjlbpjojaaGreatDoor
open Go.RowKit
set_option linter.unusedSimpArgs false
set_option linter.unusedVariables false

def TV (r : Nat × List UInt8 × Bool) : Ending := .returned (.tuple #[.int .i64 (r.1 : Int), .string (st r.2.1), .bool (!r.2.2)])
set_option maxHeartbeats 1000000 in
set_option maxRecDepth 100000 in
theorem signR_any (s : List UInt8) (c : UInt8) (w : World) (hs : s.length ≤ 5000) :
    Calls Tryz.prog 88 #[.string (st s), .int .u8 c.toNat] w fun e w' => e = TV (sg c s false) ∧ ∃ k, w' = w.drewN k := by
  cases s with
  | nil =>
    rw [sg_nil]
    have hl : (st ([] : List UInt8)).toList.isEmpty = true := by rw [st_tl]; rfl
    have hZ : (st ([] : List UInt8)).size = 0 := rfl
    go_enter Tryz.func88, Tryz.ntmps88
    go_wp2_with fail
    go_ret3
    exact ⟨rfl, 0, rfl⟩
  | cons d r =>
    obtain ⟨S, hS⟩ : ∃ S, S = st (d :: r) := ⟨_, rfl⟩
    have hZ : S.size = r.length + 1 := by rw [hS, st_size]; rfl
    have hl : S.toList.isEmpty = false := by rw [hS, st_tl]; rfl
    have hG : ∀ h, S[0]'h = d := by subst hS; intro h; rfl
    have hX : S.extract 1 (r.length + 1) = st r := by rw [hS]; exact st_drop (d :: r) 1 _ rfl
    rw [← hS]
    simp only [List.length_cons] at hs
    obtain ⟨len, hlen⟩ : ∃ len, len = r.length := ⟨_, rfl⟩
    rw [← hlen] at hZ hX hs
    have CN := Lib.hid (numberR_any r w (by omega))
    by_cases h : d = c
    · subst h
      rw [sg_hit]
      replace hS := Lib.hid hS; replace hlen := Lib.hid hlen
      go_enter Tryz.func88, Tryz.ntmps88
      go_wp2_with fail
      refine CN.out.mono ?_
      rintro e w2 ⟨he, k, hk⟩
      unfold numV at he
      subst he
      go_wp2_with fail

      go_ret3
      exact ⟨rfl, k, rfl⟩
    · rw [sg_miss c d r h]
      have hne : ((d.toNat : Int) == (c.toNat : Int)) = false := beq_eq_false_iff_ne.2 (fun e => h (UInt8.toNat_inj.1 (by omega)))
      have hne2 : ((d.toNat : Int) != (c.toNat : Int)) = true := by rw [bne, hne]; rfl
      replace hS := Lib.hid hS; replace hlen := Lib.hid hlen; replace h := Lib.hid h
      go_enter Tryz.func88, Tryz.ntmps88
      go_wp2_with fail
      go_ret3
      exact ⟨rfl, 0, rfl⟩
end Go.Proofs.YtcklmkjlbpjojaaGreatDoor
namespace Go.Proofs.YtcklmkjlbpjojaaGreatDoor
open Go.RowKit
set_option linter.unusedSimpArgs false
set_option linter.unusedVariables false

/-- A node of the reader's own with the kids ks. -/
structure KJ (w : World) (gn : Nat) (x y a b : Int) (bs : Bool) (A : Option Nat) (c : Nat) (ks : List T) (wr : World) : Prop where
  h : wr.heap[gn]? = some (.cells #[.int .i64 0, .int .i64 x, .int .i64 y, .int .i64 a, .int .i64 b, .bool bs, .slice (adr A) ks.length c] 55 (0, 0))
  r : wr.ownsRow w.heap.size 52 1 (.slice (adr A) ks.length c) ks.length (ptrs ks)
  k : RPs wr ks
  o : w.grownBy wr none
  b : w.heap.size ≤ gn ∧ ∀ b ∈ blL ks, w.heap.size ≤ b
  d : (gn :: (A.toList ++ blL ks)).Nodup
theorem ob_adr {A : Option Nat} {n c : Nat} : (Value.slice (adr A) n c).ownBlock = A := by cases A <;> rfl
theorem KJ.A_lt {w wr : World} {gn : Nat} {x y a b : Int} {bs : Bool} {A : Option Nat} {c : Nat} {ks : List T} (h : KJ w gn x y a b bs A c ks wr) : ∀ g, A = some g → w.heap.size ≤ g ∧ g < wr.heap.size ∧ g ≠ gn ∧ g ∉ blL ks := fun g hg => by
  have h1 := h.r.lt g (by rw [ob_adr]; exact hg)
  have h2 := h.d
  subst hg
  simp only [Option.toList_some, List.cons_append, List.nil_append, List.nodup_cons, List.mem_cons, not_or] at h2
  exact ⟨h1.1, h1.2, fun e => h2.1.1 e.symm, h2.2.1⟩
theorem KJ.kid_lt {w wr : World} {gn : Nat} {x y a b : Int} {bs : Bool} {A : Option Nat} {c : Nat} {ks : List T} (h : KJ w gn x y a b bs A c ks wr) : ∀ g, g ∈ blL ks → w.heap.size ≤ g ∧ g < wr.heap.size ∧ g ≠ gn := fun g hg => by
  obtain ⟨k, hk, hb⟩ := mem_blL.1 hg
  have h2 := (List.nodup_cons.1 h.d).1
  refine ⟨h.b.2 g hg, RP.lt k (RPs_iff.1 h.k k hk) g hb, ?_⟩
  rintro rfl
  exact h2 (List.mem_append.2 (.inr hg))
theorem KJ.call {w wr w1 : World} {gn : Nat} {x y a b : Int} {bs : Bool} {A : Option Nat} {c : Nat} {ks : List T} (h : KJ w gn x y a b bs A c ks wr) (g : wr.grownBy w1 none) : KJ w gn x y a b bs A c ks w1 :=
  ⟨(g.block gn (lt_of_heap h.h) (by simp)).trans h.h, own_kept h.r g, h.k.grown g, h.o.trans g, h.b, h.d⟩
theorem KJ.push {w wr w1 w2 W3 : World} {gn len : Nat} {x y a b : Int} {bs : Bool} {A : Option Nat} {c : Nat} {ks : List T} {tk : T} {A' : Option Addr} {c' : Nat} {ob : Obj}
    (h : KJ w gn x y a b bs A c ks wr) (hlen : len = ks.length) (hT : RP w1 tk) (o1 : wr.grownBy w1 none) (hb : ∀ b ∈ tk.bl, wr.heap.size ≤ b) (hd : tk.bl.Nodup)
    (O2 : w2.ownsRow w.heap.size 52 1 (.slice A' (len + 1) c') (len + 1) (ptrs ks ++ [ptr tk.g])) (G2 : (w1.alloc ob).grownBy w2 (Value.slice (adr A) len c).ownBlock)
    (hh2 : ablk A' = (Value.slice (adr A) len c).ownBlock ∨ ablk A' = some (w1.alloc ob).heap.size) (hW3 : W3 = w2.setCell ⟨gn, 6, none⟩ (.slice A' (len + 1) c')) :
    ∃ b2, A' = adr (some b2) ∧ KJ w gn x y a b bs (some b2) c' (ks ++ [tk]) W3 := by
  have hwr := h.o.size
  have h1 := o1.size
  have hAl := h.A_lt
  have hkl := h.kid_lt
  have htl : ∀ b ∈ tk.bl, b < w1.heap.size := RP.lt _ hT
  have hgl : gn < wr.heap.size := lt_of_heap h.h
  have hgb := h.b.1
  rw [ob_adr] at G2 hh2
  have g0 : w1.grownBy (w1.alloc ob) none := World.grownBy_alloc _ _ _
  have hsa : (w1.alloc ob).heap.size = w1.heap.size + 1 := by simp
  have hs2 := G2.size
  obtain ⟨b2, hb2⟩ : ∃ b2, A' = some ⟨b2, 0, none⟩ := by
    rcases O2.2 with ⟨h, _⟩ | ⟨g', cap, cur, h, _⟩
    · injection h with _ h; omega
    · injection h with h; exact ⟨g', h⟩
  subst hb2
  have hb2n : w.heap.size ≤ b2 ∧ b2 ≠ gn ∧ b2 ∉ blL ks ∧ b2 ∉ tk.bl := by
    rcases hh2 with h3 | h3
    · have h3' : A = some b2 := h3.symm
      obtain ⟨q1, q2, q3, q4⟩ := hAl b2 h3'
      exact ⟨q1, q3, q4, fun hm => by have := hb b2 hm; omega⟩
    · injection h3 with h3
      have e : b2 = (w1.alloc ob).heap.size := h3
      refine ⟨by omega, by omega, fun hm => ?_, fun hm => ?_⟩
      · have := (hkl b2 hm).2.1; omega
      · have := htl b2 hm; omega
  have keep1 : ∀ b, b < w1.heap.size → b ≠ gn → A ≠ some b → W3.heap[b]? = w1.heap[b]? := fun b hl q2 q3 => by
    have e3 := g0.block b hl (by simp)
    have e4 := G2.block b (by omega) (fun e => q3 e.symm)
    have e5 : W3.heap[b]? = w2.heap[b]? := by
      rw [hW3]
      exact (Off.set w2 ⟨gn, 6, none⟩ _).block b (by omega) (by simpa using q2)
    exact e5.trans (e4.trans e3)
  have hgg : w2.heap[gn]? = wr.heap[gn]? := by
    have e1 := o1.block gn hgl (by simp)
    have e3 := g0.block gn (by omega) (by simp)
    have e4 := G2.block gn (by omega) (fun e => (hAl gn e.symm).2.2.1 rfl)
    exact e4.trans (e3.trans e1)
  have hnew := heap_set (j := 6) (hgg.trans h.h) (.slice (some ⟨b2, 0, none⟩) (len + 1) c')
  rw [← hW3] at hnew
  have hlen2 : (ks ++ [tk]).length = len + 1 := by simp [hlen]
  refine ⟨b2, rfl, ?_, ?_, ?_, ?_, ⟨hgb, fun b hm => ?_⟩, ?_⟩
  · rw [hlen2]; exact hnew
  · rw [hlen2, show ptrs (ks ++ [tk]) = ptrs ks ++ [ptr tk.g] by simp [ptrs]]
    exact own_same (own_le O2 (Nat.le_refl _)) fun b hb => by
      have e : b = b2 := by
        injection hb with hb
        exact hb.symm
      subst e
      rw [hW3]
      exact (Off.set w2 ⟨gn, 6, none⟩ _).block b ((O2.lt b rfl).2) (by simpa using hb2n.2.1)
  · refine RPs_iff.2 fun k hk => ?_
    rcases List.mem_append.1 hk with hk | hk
    · refine (RPs_iff.1 h.k k hk).same _ fun b hb => ?_
      have hbk : b ∈ blL ks := mem_blL.2 ⟨k, hk, hb⟩
      obtain ⟨q1, q2, q3⟩ := hkl b hbk
      exact (keep1 b (by omega) q3 (fun e => (hAl b e).2.2.2 hbk)).trans (o1.block b q2 (by simp))
    · simp only [List.mem_singleton] at hk
      subst hk
      exact hT.same _ fun b hm => keep1 b (htl b hm) (by have := hb b hm; omega) (fun e => by have := (hAl b e).2.1; have := hb b hm; omega)
  · have z2 : w.grownBy w2 none := grown_own ((h.o.trans o1).trans g0) G2 fun g hg => (hAl g hg).1
    refine grown_own (r := some gn) z2 ?_ (fun g hg => by injection hg with hg; omega)
    rw [hW3]
    have oo := Off.set w2 ⟨gn, 6, none⟩ (.slice (some ⟨b2, 0, none⟩) (len + 1) c')
    exact ⟨oo.os, oo.tape, oo.output, oo.size, fun b hb hr => oo.block b hb (by simpa using fun e => hr (by rw [e]))⟩
  · rw [blL_app, blL_cons, blL_nil, List.append_nil] at hm
    rcases List.mem_append.1 hm with hm | hm
    · exact (hkl b hm).1
    · have := hb b hm; omega
  · rw [blL_app, blL_cons, blL_nil, List.append_nil]
    have hd0 : (blL ks).Nodup := (List.nodup_append.1 (List.nodup_cons.1 h.d).2).2.1
    simp only [Option.toList_some, List.cons_append, List.nil_append]
    refine List.nodup_cons.2 ⟨?_, List.nodup_cons.2 ⟨?_, List.nodup_append.2 ⟨hd0, hd, ?_⟩⟩⟩
    · simp only [List.mem_cons, List.mem_append, not_or]
      exact ⟨fun e => hb2n.2.1 e.symm, fun hm => (hkl gn hm).2.2 rfl, fun hm => by have := hb gn hm; omega⟩
    · simp only [List.mem_append, not_or]
      exact ⟨hb2n.2.2.1, hb2n.2.2.2⟩
    · rintro x hx y hy rfl
      have := (hkl x hx).2.1
      have := hb x hy
      omega
end Go.Proofs.YtcklmkjlbpjojaaGreatDoor
