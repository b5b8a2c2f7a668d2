/- Layout: the reference's Split of the first leaf, where it makes a split of its own. -/
import Derived.Test.YtcklmkjlbpjojaaGreatDoorRE
import Derived.Test.YtcklmkjlbpjojaaGreatDoorD6
import Derived.Deep.RegionHeld3
namespace Go.Proofs.YtcklmkjlbpjojaaGreatDoor
open Go.RowKit
set_option linter.unusedSimpArgs false
set_option linter.unusedVariables false

/-- Another tree in the first leaf's place. -/
def T.setL : T → T → T
  | .mk _ [], u => u
  | .mk n (k :: ks), u => .mk n (k.setL u :: ks)
theorem setL_nil (n : Nd) (u : T) : (T.mk n []).setL u = u := by rw [T.setL]
theorem setL_cons (n : Nd) (k : T) (ks : List T) (u : T) : (T.mk n (k :: ks)).setL u = .mk n (k.setL u :: ks) := by rw [T.setL]
theorem setL_g (t u : T) (h : u.g = t.lm.g) : (t.setL u).g = t.g := by
  cases t with
  | mk n ks =>
    cases ks with
    | nil => rw [setL_nil, h, T.lm_nil]
    | cons k ks => rw [setL_cons]; rfl
theorem setL_bl (t u : T) : ∀ b ∈ (t.setL u).bl, b ∈ t.bl ∨ b ∈ u.bl := by
  induction t using T.ind with
  | h n ks ih =>
    intro b hb
    cases ks with
    | nil => rw [setL_nil] at hb; exact .inr hb
    | cons k ks =>
      rw [setL_cons, T.bl_mk, blL_cons] at hb
      rw [T.bl_mk, blL_cons]
      simp only [List.mem_cons, List.mem_append] at hb ⊢
      rcases hb with hb | hb | hb | hb
      · exact .inl (.inl hb)
      · exact .inl (.inr (.inl hb))
      · rcases ih k (by simp) b hb with h | h
        · exact .inl (.inr (.inr (.inl h)))
        · exact .inr h
      · exact .inl (.inr (.inr (.inr hb)))
theorem setL_nd (t u : T) (hN : t.bl.Nodup) (hu : u.bl.Nodup) (hd : ∀ b ∈ u.bl, b = t.lm.g ∨ b ∉ t.bl) : (t.setL u).bl.Nodup := by
  induction t using T.ind with
  | h n ks ih =>
    cases ks with
    | nil => rw [setL_nil]; exact hu
    | cons k ks =>
      rw [setL_cons]
      rw [T.lm_cons] at hd
      rw [T.bl_mk, blL_cons] at hN hd ⊢
      obtain ⟨h1, h2⟩ := List.nodup_cons.1 hN
      obtain ⟨h3, h4, h5⟩ := List.nodup_append.1 h2
      obtain ⟨h6, h7, h8⟩ := List.nodup_append.1 h4
      have hk : ∀ b ∈ u.bl, b = k.lm.g ∨ b ∉ k.bl := fun b hb => (hd b hb).imp id (fun h hm => h (by simp [hm]))
      have hm : ∀ b ∈ (k.setL u).bl, b ∈ k.bl ∨ (b ∉ n.g :: (n.A.toList ++ (k.bl ++ blL ks))) := fun b hb => by
        rcases setL_bl k u b hb with h | h
        · exact .inl h
        · rcases hd b h with e | e
          · rw [e]; exact .inl (lm_bl k)
          · exact .inr e
      refine List.nodup_cons.2 ⟨?_, List.nodup_append.2 ⟨h3, List.nodup_append.2 ⟨ih k (by simp) h6 hk, h7, ?_⟩, ?_⟩⟩
      · simp only [List.mem_append] at h1 ⊢
        rintro (h | h | h)
        · exact h1 (.inl h)
        · rcases hm _ h with e | e
          · exact h1 (.inr (.inl e))
          · exact e (by simp)
        · exact h1 (.inr (.inr h))
      · rintro x hx y hy rfl
        rcases hm x hx with e | e
        · exact h8 x e x hy rfl
        · exact e (by simp [hy])
      · rintro x hx y hy rfl
        rcases List.mem_append.1 hy with h | h
        · rcases hm x h with e | e
          · exact h5 x hx x (by simp [e]) rfl
          · exact e (by simp [List.mem_append] at hx ⊢; simp [hx])
        · exact h5 x hx x (by simp [h]) rfl
theorem RP_setL (t u : T) (w w' : World) (hT : RP w t) (hN : t.bl.Nodup) (hu : RP w' u) (hg : u.g = t.lm.g) (ho : Off [t.lm.g] w w') : RP w' (t.setL u) := by
  induction t using T.ind with
  | h n ks ih =>
    cases ks with
    | nil => rw [setL_nil]; exact hu
    | cons k ks =>
      rw [setL_cons]
      rw [T.lm_cons] at hg ho
      rw [T.bl_mk, blL_cons] at hN
      obtain ⟨h1, h2⟩ := List.nodup_cons.1 hN
      obtain ⟨h3, h4, h5⟩ := List.nodup_append.1 h2
      obtain ⟨h6, h7, h8⟩ := List.nodup_append.1 h4
      have hlm := lm_bl k
      have hAt := hT.at_.same (w' := w') fun b hb => ho.block b (hT.at_.lt b hb) (by
        simp only [List.mem_singleton]
        rintro rfl
        rcases List.mem_cons.1 hb with e | e
        · exact h1 (by rw [← e]; simp [hlm])
        · exact h5 _ e _ (by simp [hlm]) rfl)
      have hp : ptrs (k.setL u :: ks) = ptrs (k :: ks) := by simp only [ptrs, List.map_cons, setL_g k u hg]
      refine .mk ⟨?_, ?_⟩ ?_
      · have := hAt.h
        simp only [List.length_cons] at this ⊢
        exact this
      · have := hAt.r
        rw [hp]
        simp only [List.length_cons] at this ⊢
        exact this
      · rw [RPs]
        have hK := hT.kids
        rw [RPs] at hK
        exact ⟨ih k (by simp) hK.1 h6 hg ho, hK.2.off ho fun b hb => by simp; rintro rfl; exact h8 _ hlm _ hb rfl⟩
theorem setL_w01 (t u : T) (ht : t.w01) (hu : u.w01) : (t.setL u).w01 := by
  induction t using T.ind with
  | h n ks ih =>
    cases ks with
    | nil => rw [setL_nil]; exact hu
    | cons k ks =>
      rw [setL_cons]
      intro m hm
      rw [T.nds_mk, ndsL_cons] at hm
      simp only [List.mem_cons, List.mem_append] at hm
      rcases hm with rfl | hm | hm
      · exact ht.n
      · exact ih k (by simp) (ht.k (by simp)) m hm
      · exact ht m (by rw [T.nds_mk, ndsL_cons]; simp [hm])
/-- The split that stands for the leaf nl behind. -/
def oldN (nl : Nd) (bd : Bool) (go : Nat) : Nd := ⟨go, none, 0, nl.p, 0, 0, if bd = true then nl.a - 2 else nl.a, if bd = true then nl.b else nl.b - 2, 0⟩
def newN (nl : Nd) (bd : Bool) (gf : Nat) (other : Int) : Nd := ⟨gf, none, 0, other, 0, 0, if bd = true then 1 else nl.a, if bd = true then nl.b else 1, 0⟩
def splN (nl : Nd) (bd : Bool) (B go gf : Nat) (other : Int) : T := .mk ⟨nl.g, some B, 2, 0, nl.x, nl.y, nl.a, nl.b, if bd = true then 0 else 1⟩ [.mk (oldN nl bd go) [], .mk (newN nl bd gf other) []]
theorem splN_bl (nl : Nd) (bd : Bool) (B go gf : Nat) (other : Int) : (splN nl bd B go gf other).bl = [nl.g, B, go, gf] := by
  simp [splN, oldN, newN, T.bl_mk, blL_cons, blL_nil]
theorem splN_w01 (nl : Nd) (bd : Bool) (B go gf : Nat) (other : Int) : (splN nl bd B go gf other).w01 := by
  intro m hm
  simp only [splN, T.nds_mk, ndsL_cons, ndsL_nil, List.mem_cons, List.mem_append, List.not_mem_nil, or_false, List.append_nil] at hm
  rcases hm with rfl | rfl | rfl
  · cases bd <;> simp
  · exact .inl rfl
  · exact .inl rfl
theorem spine_RP (t : T) (w : World) (h : RP w t) : ∀ s ∈ t.spine, RP w s := by
  induction t using T.ind with
  | h n ks ih =>
    intro s hs
    cases ks with
    | nil => rw [T.spine_nil] at hs; simp only [List.mem_singleton] at hs; subst hs; exact h
    | cons k ks =>
      rw [T.spine_cons] at hs
      rcases List.mem_cons.1 hs with rfl | hs
      · exact h
      · exact ih k (by simp) (RPs_iff.1 h.kids k (by simp)) s hs
/-- What stands behind the last store. -/
theorem split_fin {tr : Nat} {t : T} {nl : Nd} {other : Int} {bd : Bool} {w w9 : World} {B go gf : Nat} (hT : RTr w tr t) (hlm : t.lm = .mk nl []) (hRl : RAt w nl []) (o9 : Off [] w w9) (hB : B = w9.heap.size)
    (hgo : w.heap.size ≤ go) (hgf : w.heap.size ≤ gf) (hne : go ≠ gf)
    (h1 : w9.heap[go]? = some (.cells #[.int .i64 nl.p, .int .i64 0, .int .i64 0, .int .i64 (oldN nl bd go).a, .int .i64 (oldN nl bd go).b, .bool false, .slice none 0 0] 55 (0, 0)))
    (h2 : w9.heap[gf]? = some (.cells #[.int .i64 other, .int .i64 0, .int .i64 0, .int .i64 (newN nl bd gf other).a, .int .i64 (newN nl bd gf other).b, .bool false, .slice none 0 0] 55 (0, 0)))
    (W : World) (hW : W = (((w9.setCell ⟨nl.g, 0, none⟩ (.int .i64 0)).setCell ⟨nl.g, 5, none⟩ (.bool bd)).alloc (.cells #[ptr go, ptr gf] 52)).setCell ⟨nl.g, 6, none⟩ (.slice (some ⟨B, 0, none⟩) 2 2)) :
    RTr W tr (t.setL (splN nl bd B go gf other)) ∧ Off [nl.g] w W ∧ w.heap.size ≤ B := by
  have hgl : nl.g < w.heap.size := hRl.lt _ (by simp)
  have h9s : w.heap.size ≤ w9.heap.size := o9.size
  have hBw : w.heap.size ≤ B := by omega
  have hgo9 := lt_of_heap h1
  have hgf9 := lt_of_heap h2
  have hl9 : w9.heap[nl.g]? = some (.cells #[.int .i64 nl.p, .int .i64 nl.x, .int .i64 nl.y, .int .i64 nl.a, .int .i64 nl.b, .bool false, nl.row 0] 55 (0, 0)) := by
    rw [o9.block _ hgl (by simp), hRl.h]; rfl
  obtain ⟨w10, h10⟩ : ∃ W, W = (w9.setCell ⟨nl.g, 0, none⟩ (.int .i64 0)).setCell ⟨nl.g, 5, none⟩ (.bool bd) := ⟨_, rfl⟩
  have o10 : Off [nl.g] w9 w10 := by rw [h10]; exact (Off.set w9 ⟨nl.g, 0, none⟩ _).trans (Off.set _ ⟨nl.g, 5, none⟩ _) (by simp)
  have hl10 : w10.heap[nl.g]? = some (.cells #[.int .i64 0, .int .i64 nl.x, .int .i64 nl.y, .int .i64 nl.a, .int .i64 nl.b, .bool bd, nl.row 0] 55 (0, 0)) := by
    rw [h10, heap_set (heap_set hl9 _) _]; rfl
  have hs10 : w10.heap.size = w9.heap.size := by rw [h10]; simp
  rw [← h10] at hW
  obtain ⟨w11, h11⟩ : ∃ W, W = w10.alloc (.cells #[ptr go, ptr gf] 52) := ⟨_, rfl⟩
  have g11 : w10.grownBy w11 none := by rw [h11]; exact World.grownBy_alloc _ _ _
  have hB11 : w11.heap[B]? = some (.cells #[ptr go, ptr gf] 52 (0, 0)) := by rw [h11, hB, ← hs10]; exact heap_alloc_new _ _
  rw [← h11] at hW
  have hl11 := (g11.block nl.g (by omega) (by simp)).trans hl10
  have o12 : Off [nl.g] w11 W := by rw [hW]; exact Off.set w11 ⟨nl.g, 6, none⟩ _
  have hs11 : w10.heap.size ≤ w11.heap.size := g11.size
  have oA : Off [nl.g] w9 W := (o10.trans (S' := []) (Off.of_grown g11) (by simp)).trans o12 (by simp)
  have oW : Off [nl.g] w W := (o9.sub (by simp)).trans oA (by simp)
  have hl12 : W.heap[nl.g]? = some (.cells #[.int .i64 0, .int .i64 nl.x, .int .i64 nl.y, .int .i64 nl.a, .int .i64 nl.b, .bool bd, .slice (some ⟨B, 0, none⟩) 2 2] 55 (0, 0)) := by
    rw [hW, heap_set hl11 _]; rfl
  have hB12 : W.heap[B]? = some (.cells #[ptr go, ptr gf] 52 (0, 0)) := (o12.block B (lt_of_heap hB11) (by simp; omega)).trans hB11
  have hgo12 := (oA.block go hgo9 (by simp; omega)).trans h1
  have hgf12 := (oA.block gf hgf9 (by simp; omega)).trans h2
  have hlmg : t.lm.g = nl.g := by rw [hlm]; rfl
  have hlt := RP.lt t hT.p
  have hgB : go < B ∧ gf < B := by omega
  have hubl := splN_bl nl bd B go gf other
  have hu : RP W (splN nl bd B go gf other) := by
    unfold splN
    refine .mk ⟨?_, ?_⟩ ?_
    · have e : bsd (⟨nl.g, some B, 2, 0, nl.x, nl.y, nl.a, nl.b, if bd = true then 0 else 1⟩ : Nd) 2 = bd := by cases bd <;> rfl
      simp only [List.length_cons, List.length_nil]
      rw [e]
      exact hl12
    · exact ⟨by simp [ptrs], .inr ⟨B, 2, #[ptr go, ptr gf], rfl, Nat.zero_le _, hB12, Nat.le_refl _, by decide, rfl, rfl⟩⟩
    · rw [RPs, RPs, RPs]
      refine ⟨.mk ⟨hgo12, World.ownsRow_nil _ _ _ _⟩ (by rw [RPs]; trivial), .mk ⟨hgf12, World.ownsRow_nil _ _ _ _⟩ (by rw [RPs]; trivial), trivial⟩
  have hnew : ∀ b ∈ (splN nl bd B go gf other).bl, b = nl.g ∨ w.heap.size ≤ b := by
    intro b hb
    rw [hubl] at hb
    simp only [List.mem_cons, List.not_mem_nil, or_false] at hb
    rcases hb with rfl | rfl | rfl | rfl
    · exact .inl rfl
    · exact .inr hBw
    · exact .inr hgo
    · exact .inr hgf
  have hgS : (t.setL (splN nl bd B go gf other)).g = t.g := setL_g t _ (by rw [hlmg]; rfl)
  refine ⟨⟨?_, RP_setL t _ w W hT.p hT.nd hu (by rw [hlmg]; rfl) (by rw [hlmg]; exact oW), ?_, ?_⟩, oW, hBw⟩
  · have := hT.lt
    have hne2 : tr ≠ nl.g := fun e => hT.nt (by rw [e, ← hlmg]; exact lm_bl t)
    rw [oW.block tr hT.lt (by simpa using hne2), hT.h, hgS]
  · refine setL_nd t _ hT.nd ?_ ?_
    · rw [hubl]
      simp only [List.nodup_cons, List.mem_cons, List.not_mem_nil, or_false, not_or, not_false_eq_true, List.nodup_nil, and_true]
      omega
    · intro b hb
      rw [hlmg]
      rcases hnew b hb with h | h
      · exact .inl h
      · exact .inr fun hm => by have := hlt b hm; omega
  · intro hm
    rcases setL_bl t _ tr hm with h | h
    · exact hT.nt h
    · rcases hnew tr h with e | e
      · exact hT.nt (by rw [e, ← hlmg]; exact lm_bl t)
      · have := hT.lt; omega
theorem old_fin {nl : Nd} {bd : Bool} {go : Nat} {all : Int} {W8 W9 : World} (hO8 : W8.heap[go]? = some (.cells #[.int .i64 nl.p, .int .i64 0, .int .i64 0, .int .i64 nl.a, .int .i64 nl.b, .bool false, .slice none 0 0] 55 (0, 0)))
    (ha : all = if bd = true then nl.a else nl.b) (hz : 3 ≤ all ∧ all ≤ 1000)
    (h9 : W9 = if bd = true then W8.setCell ⟨go, 3, none⟩ (.int .i64 (wrap64 (nl.a + -2))) else W8.setCell ⟨go, 4, none⟩ (.int .i64 (wrap64 (nl.b + -2)))) :
    W9.heap[go]? = some (.cells #[.int .i64 nl.p, .int .i64 0, .int .i64 0, .int .i64 (oldN nl bd go).a, .int .i64 (oldN nl bd go).b, .bool false, .slice none 0 0] 55 (0, 0)) ∧ Off [go] W8 W9 := by
  subst h9
  cases bd
  · simp only [Bool.false_eq_true, if_false] at ha ⊢
    refine ⟨?_, Off.set W8 ⟨go, 4, none⟩ _⟩
    rw [heap_set hO8]
    have : wrap64 (nl.b + -2) = nl.b - 2 := by unfold wrap64; omega
    rw [this]; rfl
  · simp only [if_true] at ha ⊢
    refine ⟨?_, Off.set W8 ⟨go, 3, none⟩ _⟩
    rw [heap_set hO8]
    have : wrap64 (nl.a + -2) = nl.a - 2 := by unfold wrap64; omega
    rw [this]; rfl
set_option maxHeartbeats 2000000 in
set_option maxRecDepth 100000 in
theorem splitR (tr : Nat) (t : T) (nl : Nd) (other : Int) (bd : Bool) (w : World) (hT : RTr w tr t) (hlm : t.lm = .mk nl []) (hf1 : t.find 1 = some t.lm) (hf2 : t.find other = none) (ho : 1 ≤ other) (hlv : t.leaves.length < 32)
    (hs : 3 ≤ (if bd = true then nl.a else nl.b)) (hab : nl.a ≤ 1000 ∧ nl.b ≤ 1000) (hw : t.w01) (hsp : t.spine.length ≤ 100000)
    (hpar : ∀ s, 1 < t.spine.length → t.spine[t.spine.length - 2]? = some s → bsd s.n s.ks.length = !bd) :
    Calls Tryz.prog 10 #[ptr tr, .int .i64 1, .int .i64 other, .bool bd, .int .i64 1, .bool false] w fun e w' => e = .returned (.int .i64 0) ∧
      ∃ B go gf, w.heap.size ≤ B ∧ w.heap.size ≤ go ∧ w.heap.size ≤ gf ∧ RTr w' tr ((t.setL (splN nl bd B go gf other)).place 0 0) ∧ Off (tr :: t.bl) w w' := by
  have CL1 := Lib.hid (fun W (g : w.grownBy W none) => leafR_any tr t 1 W (hT.grown g) (by omega))
  have CL2 := Lib.hid (fun W (g : w.grownBy W none) => leafR_any tr t other W (hT.grown g) (by omega))
  have CLv := Lib.hid (fun W (g : w.grownBy W none) => leavesR_any t W (hT.grown g).p (by omega))
  rw [hf1] at CL1
  rw [hf2] at CL2
  rw [hlm] at CL1
  have hRl : RAt w nl [] := by
    have := lm_RP t w hT.p
    rw [hlm] at this
    exact this.at_
  have c0 := hT.c0
  obtain ⟨n, hn⟩ : ∃ n, n = t.leaves.length := ⟨_, rfl⟩
  rw [← hn] at CLv hlv
  have hz := hs
  replace hT := Lib.hid hT; replace hn := Lib.hid hn; replace hlm := Lib.hid hlm; replace hf1 := Lib.hid hf1; replace hf2 := Lib.hid hf2; replace hRl := Lib.hid hRl; replace hw := Lib.hid hw; replace hsp := Lib.hid hsp; replace hpar := Lib.hid hpar
  simp only [Option.map_some, Option.map_none, uptr, T.g, T.n] at CL1 CL2
  unfold ptr at *
  go_enter Tryz.func10, Tryz.ntmps10
  go_wp2_with fail
  refine (CL1.out _ (World.grownBy.refl _ _)).mono ?_
  rintro e w1 ⟨rfl, g1⟩
  have c01 := g1.cell c0 (by simp)
  go_wp2_with fail
  refine (CL2.out _ g1).mono ?_
  rintro e w2 ⟨rfl, g2⟩
  have G2 := g1.trans g2
  have c02 := G2.cell c0 (by simp)
  go_wp2_with fail
  refine (CLv.out _ G2).mono ?_
  rintro e w3 ⟨Av, cv, rfl, Ov, g3⟩
  have G3 := G2.trans g3
  have c03 := G3.cell c0 (by simp)
  have l3 := G3.cell hRl.out.c3 (by simp)
  have l4 := G3.cell hRl.out.c4 (by simp)
  have l0 := G3.cell hRl.out.c0 (by simp)
  have CS := Lib.hid (sizeR nl.g nl.a nl.b bd w3 l3 l4)
  replace Ov := Lib.hid Ov; replace g1 := Lib.hid g1; replace g2 := Lib.hid g2; replace g3 := Lib.hid g3; replace G2 := Lib.hid G2; replace G3 := Lib.hid G3
  clear CL1 CL2 CLv c01 c02 c0 Ov
  unfold ptr at CS
  obtain ⟨all, hall⟩ : ∃ all, all = (if bd = true then nl.a else nl.b) := ⟨_, rfl⟩
  rw [← hall] at CS hz
  have hall1 : all ≤ 1000 := by rw [hall]; split <;> omega
  replace hall := Lib.hid hall
  clear hs
  go_wp2_with fail
  refine CS.out.mono ?_
  rintro e w4 ⟨rfl, h4⟩
  subst h4
  go_wp2_with fail
  go_region_held3 (fun w' => w'.cell? ⟨nl.g, 3, none⟩ = some (.int .i64 nl.a) ∧ w'.cell? ⟨nl.g, 4, none⟩ = some (.int .i64 nl.b))
    (first | go_keep | fail)
    ((fail))
  clear CS
  obtain ⟨gf, hgf⟩ : ∃ gf, gf = w4.heap.size := ⟨_, rfl⟩
  obtain ⟨W5, hW5⟩ : ∃ W, W = (w4.alloc (.cells #[.int .i64 other, .int .i64 0, .int .i64 0, .int .i64 nl.a, .int .i64 nl.b, .bool false, .slice none 0 0] 55)).drew := ⟨_, rfl⟩
  rw [← hgf, ← hW5]
  have hF5 : W5.heap[gf]? = some (.cells #[.int .i64 other, .int .i64 0, .int .i64 0, .int .i64 nl.a, .int .i64 nl.b, .bool false, .slice none 0 0] 55 (0, 0)) := by
    rw [hW5, hgf]; exact heap_alloc_new w4 _
  have g45 : w4.grownBy W5 none := by rw [hW5]; exact g_drew (World.grownBy_alloc w4 _ none)
  have CA := addR gf nl.a nl.b (1 - all) bd W5 (by rw [cell_of_heap hF5]; rfl) (by rw [cell_of_heap hF5]; rfl) (fun j => free_of_heap hF5 j)
  have hF6 : ∀ W6, W6 = (if bd = true then W5.setCell ⟨gf, 3, none⟩ (.int .i64 (wrap64 (nl.a + (1 - all)))) else W5.setCell ⟨gf, 4, none⟩ (.int .i64 (wrap64 (nl.b + (1 - all))))) →
      W6.heap[gf]? = some (.cells #[.int .i64 other, .int .i64 0, .int .i64 0, .int .i64 (newN nl bd gf other).a, .int .i64 (newN nl bd gf other).b, .bool false, .slice none 0 0] 55 (0, 0)) ∧ Off [gf] W5 W6 := by
    rintro W6 rfl
    have ha := hall.out
    cases bd
    · simp only [Bool.false_eq_true, if_false] at ha ⊢
      refine ⟨?_, Off.set W5 ⟨gf, 4, none⟩ _⟩
      rw [heap_set hF5, ha]
      have : wrap64 (nl.b + (1 - nl.b)) = 1 := by unfold wrap64; omega
      rw [this]; rfl
    · simp only [if_true] at ha ⊢
      refine ⟨?_, Off.set W5 ⟨gf, 3, none⟩ _⟩
      rw [heap_set hF5, ha]
      have : wrap64 (nl.a + (1 - nl.a)) = 1 := by unfold wrap64; omega
      rw [this]; rfl
  replace hW5 := Lib.hid hW5; replace hgf := Lib.hid hgf; replace hF5 := Lib.hid hF5; replace g45 := Lib.hid g45; replace CA := Lib.hid CA; replace hF6 := Lib.hid hF6
  clear c03 l3 l4 l0
  unfold ptr at CA
  go_wp2_with fail
  refine CA.out.mono ?_
  rintro e w6 ⟨rfl, hw6⟩
  obtain ⟨hG6, o56⟩ := hF6.out w6 hw6
  clear hw6 CA
  have hgw : w.heap.size ≤ gf := by rw [hgf.out]; exact G3.out.size
  have g05 := G3.out.trans g45.out
  have hlt := RP.lt t hT.out.p
  have hT6 : RTr w6 tr t := (hT.out.grown g05).off o56 (by have := hT.out.lt; simp; omega) fun b hb => by have := hlt b hb; simp; omega
  have c06 := hT6.c0
  have CP := pathR_any t nl.g w6 hT6.p hT.out.nd (by rw [hlm.out]; rfl) hsp.out
  obtain ⟨m, hm⟩ : ∃ m, m = t.spine.length := ⟨_, rfl⟩
  rw [← hm] at CP
  have hmpos := spine_pos t
  rw [← hm] at hmpos
  have hm5 : m ≤ 100000 := by rw [hm]; exact hsp.out
  replace hm := Lib.hid hm; replace CP := Lib.hid CP; replace hT6 := Lib.hid hT6; replace hG6 := Lib.hid hG6; replace o56 := Lib.hid o56; replace g05 := Lib.hid g05; replace hlt := Lib.hid hlt
  unfold ptr at c06 CP
  go_wp2_with fail
  refine CP.out.mono ?_
  rintro e w7 ⟨Ap, cp, rfl, Op, g7⟩
  have Rp := own_Rd Op
  have hT7 := hT6.out.grown g7
  have hRl7 : RAt w7 nl [] := by
    have := lm_RP t w7 hT7.p
    rw [hlm.out] at this
    exact this.at_
  have l0 := hRl7.c0; have l3 := hRl7.c3; have l4 := hRl7.c4; have f0 := hRl7.free 0; have f5 := hRl7.free 5; have f6 := hRl7.free 6
  have l5 := hRl7.c5; have l6 := hRl7.c6
  replace Op := Lib.hid Op; replace g7 := Lib.hid g7; replace Rp := Lib.hid Rp; replace hRl7 := Lib.hid hRl7
  clear CP c06
  have tail : Hid (m = 1 ∨ ∃ k b off sg, m = k + 2 ∧ Ap = some ⟨b, off, none⟩ ∧ w7.cell? ⟨b, off + k, none⟩ = some (.pointer (some ⟨sg, 0, none⟩)) ∧ w7.cell? ⟨sg, 5, none⟩ = some (.bool (!bd))) := Lib.hid (by
    by_cases h1 : m = 1
    · exact .inl h1
    · right
      obtain ⟨k, hk⟩ : ∃ k, m = k + 2 := ⟨m - 2, by omega⟩
      obtain ⟨s, hs⟩ : ∃ s, t.spine[k]? = some s := ⟨t.spine[k]'(by rw [← hm.out]; omega), List.getElem?_eq_getElem _⟩
      obtain ⟨b, off, hA, _, hc⟩ := Rp.out.at_ (j := k) (u := ptr s.g) (by simp [ptrs, hs])
      have hR := spine_RP t w7 hT7.p s (List.mem_of_getElem? hs)
      have hc5 : w7.cell? ⟨s.g, 5, none⟩ = some (.bool (bsd s.n s.ks.length)) := by cases s with | mk a l => exact hR.at_.c5
      rw [hpar.out s (by rw [← hm.out]; omega) (by rw [← hm.out, hk]; exact hs)] at hc5
      exact ⟨k, b, off, s.g, hk, hA, hc, hc5⟩)
  replace hT7 := Lib.hid hT7
  have hbe : ((!bd) == bd) = false := by cases bd <;> rfl
  rcases tail.out with h1 | ⟨k, b, off, sg, h1, h2, h3, h4⟩
  · subst h1
    go_wp2_with fail
    go_region_held3 (fun w' => w'.cell? ⟨nl.g, 0, none⟩ = some (.int .i64 nl.p) ∧ w'.cell? ⟨nl.g, 3, none⟩ = some (.int .i64 nl.a) ∧ w'.cell? ⟨nl.g, 4, none⟩ = some (.int .i64 nl.b))
      (first | go_keep | fail)
      ((fail))
    obtain ⟨go, hgo⟩ : ∃ go, go = w7.heap.size := ⟨_, rfl⟩
    obtain ⟨W8, hW8⟩ : ∃ W, W = (w7.alloc (.cells #[.int .i64 nl.p, .int .i64 0, .int .i64 0, .int .i64 nl.a, .int .i64 nl.b, .bool false, .slice none 0 0] 55)).drew := ⟨_, rfl⟩
    rw [← hgo, ← hW8]
    have hO8 : W8.heap[go]? = some (.cells #[.int .i64 nl.p, .int .i64 0, .int .i64 0, .int .i64 nl.a, .int .i64 nl.b, .bool false, .slice none 0 0] 55 (0, 0)) := by
      rw [hW8, hgo]; exact heap_alloc_new w7 _
    have g78 : w7.grownBy W8 none := by rw [hW8]; exact g_drew (World.grownBy_alloc w7 _ none)
    have CB := addR go nl.a nl.b (-2) bd W8 (by rw [cell_of_heap hO8]; rfl) (by rw [cell_of_heap hO8]; rfl) (fun j => free_of_heap hO8 j)
    replace hW8 := Lib.hid hW8; replace hgo := Lib.hid hgo; replace hO8 := Lib.hid hO8; replace g78 := Lib.hid g78; replace CB := Lib.hid CB
    clear l0 l3 l4 f0 f5 f6 l5 l6
    unfold ptr at CB
    go_wp2_with fail
    refine CB.out.mono ?_
    rintro e w9 ⟨rfl, hw9⟩
    obtain ⟨hO9, o89⟩ := old_fin hO8.out hall.out ⟨hz, hall1⟩ hw9
    clear CB hw9
    have g07 := g7.out.trans g78.out
    have hgow : w.heap.size ≤ go := by rw [hgo.out]; exact Nat.le_trans g05.out.size (Nat.le_trans o56.out.size g7.out.size)
    have hgfl := lt_of_heap hG6.out
    have hne : go ≠ gf := by have := g7.out.size; have := hgo.out; omega
    have hG9 := (o89.block gf (by have := g7.out.size; have := g78.out.size; omega) (by simpa using hne.symm)).trans ((g07.block gf hgfl (by simp)).trans hG6.out)
    have o9 : Off [] w w9 := by
      have oa : Off [] w w6 := (Off.of_grown (S := []) g05.out).trans o56.out (by simp; exact hgw)
      exact (oa.trans (Off.of_grown (S := []) g07) (by simp)).trans o89 (by simp; exact hgow)
    have hRl9 := hRl.out.same fun b hb => o9.block b (hRl.out.lt b hb) (by simp)
    have hT9 := hT.out.off o9 (by simp) (by simp)
    have l0 := hRl9.c0; have l5 := hRl9.c5; have l6 := hRl9.c6; have f0 := hRl9.free 0; have f5 := hRl9.free 5; have f6 := hRl9.free 6
    have c09 := hT9.c0
    have hfin := @split_fin tr t nl other bd w w9 w9.heap.size go gf hT.out hlm.out hRl.out o9 rfl hgow hgw hne hO9 hG9
    have hne3 : tr ≠ nl.g := fun e => hT.out.nt (by rw [e]; have := lm_bl t; rw [hlm.out] at this; exact this)
    replace hfin := Lib.hid hfin; replace hO9 := Lib.hid hO9; replace o89 := Lib.hid o89; replace hG9 := Lib.hid hG9; replace o9 := Lib.hid o9; replace hRl9 := Lib.hid hRl9; replace hT9 := Lib.hid hT9; replace hne := Lib.hid hne
    have hgl9 : nl.g < w9.heap.size := hRl9.out.lt _ (by simp)
    unfold ptr at c09
    go_upto_region 29 with fail
    obtain ⟨W10, hW10⟩ : ∃ W, W = (w9.setCell ⟨nl.g, 0, none⟩ (.int .i64 0)).setCell ⟨nl.g, 5, none⟩ (.bool bd) := ⟨_, rfl⟩
    rw [← hW10]
    have hs10 : W10.heap.size = w9.heap.size := by rw [hW10]; simp
    have q6 : (W10.alloc (.cells #[.pointer (some ⟨go, 0, none⟩), .pointer (some ⟨gf, 0, none⟩)] 52)).cell? ⟨nl.g, 6, none⟩ = some (.slice (adr nl.A) 0 nl.c) ∧ (W10.alloc (.cells #[.pointer (some ⟨go, 0, none⟩), .pointer (some ⟨gf, 0, none⟩)] 52)).frozen? ⟨nl.g, 6, none⟩ = false := by
      have hh : W10.heap[nl.g]? = some (.cells #[.int .i64 0, .int .i64 nl.x, .int .i64 nl.y, .int .i64 nl.a, .int .i64 nl.b, .bool bd, nl.row 0] 55 (0, 0)) := by
        rw [hW10, heap_set (heap_set hRl9.out.h _) _]; rfl
      have hh2 := ((World.grownBy_alloc W10 (.cells #[.pointer (some ⟨go, 0, none⟩), .pointer (some ⟨gf, 0, none⟩)] 52) none).block nl.g (by omega) (by simp)).trans hh
      exact ⟨by rw [cell_of_heap hh2]; rfl, free_of_heap hh2 6⟩
    obtain ⟨q6, q7⟩ := q6
    have hfin2 := fun W (hW : W = (W10.alloc (.cells #[ptr go, ptr gf] 52)).setCell ⟨nl.g, 6, none⟩ (.slice (some ⟨w9.heap.size, 0, none⟩) 2 2)) => hfin.out W (by rw [hW10] at hW; exact hW)
    rw [← hs10] at hfin2
    replace hfin2 := Lib.hid hfin2
    clear l0 l5 l6 f0 f5 f6 c09 hfin
    replace hW10 := Lib.hid hW10; replace hs10 := Lib.hid hs10
    go_upto_region 32 with fail
    obtain ⟨W12, hW12⟩ : ∃ W, W = (W10.alloc (.cells #[ptr go, ptr gf] 52)).setCell ⟨nl.g, 6, none⟩ (.slice (some ⟨W10.heap.size, 0, none⟩) 2 2) := ⟨_, rfl⟩
    obtain ⟨hT12, o12, hBw⟩ := hfin2.out W12 hW12
    unfold ptr at hW12
    rw [← hW12]
    have c012 := hT12.c0
    have hgS : (t.setL (splN nl bd W10.heap.size go gf other)).g = t.g := setL_g t _ (by rw [hlm.out]; rfl)
    have CPl := placeR_any (t.setL (splN nl bd W10.heap.size go gf other)) 0 0 W12 hT12.p hT12.nd (setL_w01 t _ hw.out (splN_w01 nl bd _ go gf other))
    rw [hgS] at c012 CPl
    replace hW12 := Lib.hid hW12; replace hT12 := Lib.hid hT12; replace o12 := Lib.hid o12; replace CPl := Lib.hid CPl; replace hgS := Lib.hid hgS
    clear q6 q7 hfin2
    unfold ptr at c012 CPl
    go_wp2_with fail
    refine CPl.out.mono ?_
    rintro e w13 ⟨rfl, hp13, o13⟩
    replace hp13 := Lib.hid hp13; replace o13 := Lib.hid o13
    clear CPl
    go_wp2_with fail
    go_ret
    refine ⟨rfl, W10.heap.size, go, gf, hBw, hgow, hgw, ⟨?_, hp13.out, ?_, ?_⟩, ?_⟩
    · rw [o13.out.block tr hT12.out.lt hT12.out.nt, hT12.out.h, T.place_g]
    · rw [T.place_bl]; exact hT12.out.nd
    · rw [T.place_bl]; exact hT12.out.nt
    · have hlmg : nl.g ∈ t.bl := by have := lm_bl t; rw [hlm.out] at this; exact this
      refine (o12.out.sub (S' := tr :: t.bl) (by intro b hb; simp only [List.mem_singleton] at hb; subst hb; exact .inl (by simp [hlmg]))).trans o13.out fun b hb => ?_
      rcases setL_bl t _ b hb with h | h
      · exact .inl (by simp [h])
      · rw [splN_bl] at h
        simp only [List.mem_cons, List.not_mem_nil, or_false] at h
        rcases h with rfl | rfl | rfl | rfl
        · exact .inl (by simp [hlmg])
        · exact .inr hBw
        · exact .inr hgow
        · exact .inr hgw
  · subst h1
    subst h2
    go_wp2_with fail
    go_region_held3 (fun w' => w'.cell? ⟨nl.g, 0, none⟩ = some (.int .i64 nl.p) ∧ w'.cell? ⟨nl.g, 3, none⟩ = some (.int .i64 nl.a) ∧ w'.cell? ⟨nl.g, 4, none⟩ = some (.int .i64 nl.b))
      (first | go_keep | fail)
      ((fail))
    obtain ⟨go, hgo⟩ : ∃ go, go = w7.heap.size := ⟨_, rfl⟩
    obtain ⟨W8, hW8⟩ : ∃ W, W = (w7.alloc (.cells #[.int .i64 nl.p, .int .i64 0, .int .i64 0, .int .i64 nl.a, .int .i64 nl.b, .bool false, .slice none 0 0] 55)).drew := ⟨_, rfl⟩
    rw [← hgo, ← hW8]
    have hO8 : W8.heap[go]? = some (.cells #[.int .i64 nl.p, .int .i64 0, .int .i64 0, .int .i64 nl.a, .int .i64 nl.b, .bool false, .slice none 0 0] 55 (0, 0)) := by
      rw [hW8, hgo]; exact heap_alloc_new w7 _
    have g78 : w7.grownBy W8 none := by rw [hW8]; exact g_drew (World.grownBy_alloc w7 _ none)
    have CB := addR go nl.a nl.b (-2) bd W8 (by rw [cell_of_heap hO8]; rfl) (by rw [cell_of_heap hO8]; rfl) (fun j => free_of_heap hO8 j)
    replace hW8 := Lib.hid hW8; replace hgo := Lib.hid hgo; replace hO8 := Lib.hid hO8; replace g78 := Lib.hid g78; replace CB := Lib.hid CB
    clear l0 l3 l4 f0 f5 f6 l5 l6
    unfold ptr at CB
    go_wp2_with fail
    refine CB.out.mono ?_
    rintro e w9 ⟨rfl, hw9⟩
    obtain ⟨hO9, o89⟩ := old_fin hO8.out hall.out ⟨hz, hall1⟩ hw9
    clear CB hw9
    have g07 := g7.out.trans g78.out
    have hgow : w.heap.size ≤ go := by rw [hgo.out]; exact Nat.le_trans g05.out.size (Nat.le_trans o56.out.size g7.out.size)
    have hgfl := lt_of_heap hG6.out
    have hne : go ≠ gf := by have := g7.out.size; have := hgo.out; omega
    have hG9 := (o89.block gf (by have := g7.out.size; have := g78.out.size; omega) (by simpa using hne.symm)).trans ((g07.block gf hgfl (by simp)).trans hG6.out)
    have o9 : Off [] w w9 := by
      have oa : Off [] w w6 := (Off.of_grown (S := []) g05.out).trans o56.out (by simp; exact hgw)
      exact (oa.trans (Off.of_grown (S := []) g07) (by simp)).trans o89 (by simp; exact hgow)
    have hRl9 := hRl.out.same fun b hb => o9.block b (hRl.out.lt b hb) (by simp)
    have hT9 := hT.out.off o9 (by simp) (by simp)
    have l0 := hRl9.c0; have l5 := hRl9.c5; have l6 := hRl9.c6; have f0 := hRl9.free 0; have f5 := hRl9.free 5; have f6 := hRl9.free 6
    have c09 := hT9.c0
    have hfin := @split_fin tr t nl other bd w w9 w9.heap.size go gf hT.out hlm.out hRl.out o9 rfl hgow hgw hne hO9 hG9
    have hne3 : tr ≠ nl.g := fun e => hT.out.nt (by rw [e]; have := lm_bl t; rw [hlm.out] at this; exact this)
    replace hfin := Lib.hid hfin; replace hO9 := Lib.hid hO9; replace o89 := Lib.hid o89; replace hG9 := Lib.hid hG9; replace o9 := Lib.hid o9; replace hRl9 := Lib.hid hRl9; replace hT9 := Lib.hid hT9; replace hne := Lib.hid hne
    have hgl9 : nl.g < w9.heap.size := hRl9.out.lt _ (by simp)
    unfold ptr at c09
    go_upto_region 29 with fail
    obtain ⟨W10, hW10⟩ : ∃ W, W = (w9.setCell ⟨nl.g, 0, none⟩ (.int .i64 0)).setCell ⟨nl.g, 5, none⟩ (.bool bd) := ⟨_, rfl⟩
    rw [← hW10]
    have hs10 : W10.heap.size = w9.heap.size := by rw [hW10]; simp
    have q6 : (W10.alloc (.cells #[.pointer (some ⟨go, 0, none⟩), .pointer (some ⟨gf, 0, none⟩)] 52)).cell? ⟨nl.g, 6, none⟩ = some (.slice (adr nl.A) 0 nl.c) ∧ (W10.alloc (.cells #[.pointer (some ⟨go, 0, none⟩), .pointer (some ⟨gf, 0, none⟩)] 52)).frozen? ⟨nl.g, 6, none⟩ = false := by
      have hh : W10.heap[nl.g]? = some (.cells #[.int .i64 0, .int .i64 nl.x, .int .i64 nl.y, .int .i64 nl.a, .int .i64 nl.b, .bool bd, nl.row 0] 55 (0, 0)) := by
        rw [hW10, heap_set (heap_set hRl9.out.h _) _]; rfl
      have hh2 := ((World.grownBy_alloc W10 (.cells #[.pointer (some ⟨go, 0, none⟩), .pointer (some ⟨gf, 0, none⟩)] 52) none).block nl.g (by omega) (by simp)).trans hh
      exact ⟨by rw [cell_of_heap hh2]; rfl, free_of_heap hh2 6⟩
    obtain ⟨q6, q7⟩ := q6
    have hfin2 := fun W (hW : W = (W10.alloc (.cells #[ptr go, ptr gf] 52)).setCell ⟨nl.g, 6, none⟩ (.slice (some ⟨w9.heap.size, 0, none⟩) 2 2)) => hfin.out W (by rw [hW10] at hW; exact hW)
    rw [← hs10] at hfin2
    replace hfin2 := Lib.hid hfin2
    clear l0 l5 l6 f0 f5 f6 c09 hfin
    replace hW10 := Lib.hid hW10; replace hs10 := Lib.hid hs10
    go_upto_region 32 with fail
    obtain ⟨W12, hW12⟩ : ∃ W, W = (W10.alloc (.cells #[ptr go, ptr gf] 52)).setCell ⟨nl.g, 6, none⟩ (.slice (some ⟨W10.heap.size, 0, none⟩) 2 2) := ⟨_, rfl⟩
    obtain ⟨hT12, o12, hBw⟩ := hfin2.out W12 hW12
    unfold ptr at hW12
    rw [← hW12]
    have c012 := hT12.c0
    have hgS : (t.setL (splN nl bd W10.heap.size go gf other)).g = t.g := setL_g t _ (by rw [hlm.out]; rfl)
    have CPl := placeR_any (t.setL (splN nl bd W10.heap.size go gf other)) 0 0 W12 hT12.p hT12.nd (setL_w01 t _ hw.out (splN_w01 nl bd _ go gf other))
    rw [hgS] at c012 CPl
    replace hW12 := Lib.hid hW12; replace hT12 := Lib.hid hT12; replace o12 := Lib.hid o12; replace CPl := Lib.hid CPl; replace hgS := Lib.hid hgS
    clear q6 q7 hfin2
    unfold ptr at c012 CPl
    go_wp2_with fail
    refine CPl.out.mono ?_
    rintro e w13 ⟨rfl, hp13, o13⟩
    replace hp13 := Lib.hid hp13; replace o13 := Lib.hid o13
    clear CPl
    go_wp2_with fail
    go_ret
    refine ⟨rfl, W10.heap.size, go, gf, hBw, hgow, hgw, ⟨?_, hp13.out, ?_, ?_⟩, ?_⟩
    · rw [o13.out.block tr hT12.out.lt hT12.out.nt, hT12.out.h, T.place_g]
    · rw [T.place_bl]; exact hT12.out.nd
    · rw [T.place_bl]; exact hT12.out.nt
    · have hlmg : nl.g ∈ t.bl := by have := lm_bl t; rw [hlm.out] at this; exact this
      refine (o12.out.sub (S' := tr :: t.bl) (by intro b hb; simp only [List.mem_singleton] at hb; subst hb; exact .inl (by simp [hlmg]))).trans o13.out fun b hb => ?_
      rcases setL_bl t _ b hb with h | h
      · exact .inl (by simp [h])
      · rw [splN_bl] at h
        simp only [List.mem_cons, List.not_mem_nil, or_false] at h
        rcases h with rfl | rfl | rfl | rfl
        · exact .inl (by simp [hlmg])
        · exact .inr hBw
        · exact .inr hgow
        · exact .inr hgw
end Go.Proofs.YtcklmkjlbpjojaaGreatDoor
