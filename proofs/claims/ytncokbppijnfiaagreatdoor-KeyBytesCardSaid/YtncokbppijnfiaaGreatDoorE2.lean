/- Key: take: the keys at the front of what a decoder has. -/
import Derived.Test.YtncokbppijnfiaaGreatDoorE1
namespace Go.Proofs.YtncokbppijnfiaaGreatDoor
open Go.RowKit
set_option linter.unusedSimpArgs false
set_option linter.unusedVariables false

/-- What take makes of bytes, F being front. -/
inductive Took (F : List UInt8 → Ms × Int × Nat) : List UInt8 → List Ms → List UInt8 → Prop
  | nil : Took F [] [] []
  | waits (l : List UInt8) (h : l ≠ []) (hw : (F l).2.1 = 0) : Took F l [] l
  | is (l : List UInt8) (out : List Ms) (rest : List UInt8) (h : l ≠ []) (hi : (F l).2.1 = 2) (h1 : 1 ≤ (F l).2.2) (hn : (F l).2.2 ≤ l.length) (hr : Took F (l.drop (F l).2.2) out rest) : Took F l ((F l).1 :: out) rest
  | skip (l : List UInt8) (out : List Ms) (rest : List UInt8) (h : l ≠ []) (hi : (F l).2.1 = 1) (h1 : 1 ≤ (F l).2.2) (hn : (F l).2.2 ≤ l.length) (hr : Took F (l.drop (F l).2.2) out rest) : Took F l out rest
def msC (k : Ms) : List Value := [.int .i64 k.c, .int .i64 k.m, .int .i64 k.b, .int .i64 k.x, .int .i64 k.y]
def msCells (l : List Ms) : List Value := l.flatMap msC
theorem msCells_len : ∀ l : List Ms, (msCells l).length = l.length * 5
  | [] => rfl
  | k :: l => by
    have := msCells_len l
    simp only [msCells, List.flatMap_cons, List.length_append, List.length_cons] at *
    rw [this]; simp [msC]; omega
theorem msCells_snoc (l : List Ms) (k : Ms) : msCells (l ++ [k]) = msCells l ++ msC k := by simp [msCells]
theorem msC_one (k : Ms) : ∀ u ∈ msC k, u.oneCell' = true := by
  intro u hu
  simp only [msC, List.mem_cons, List.not_mem_nil, or_false] at hu
  rcases hu with rfl | rfl | rfl | rfl | rfl <;> rfl
theorem own_ne {w : World} {b1 b2 s1 s2 n1 n2 : Nat} {e1 e2 : TypeId} {v1 v2 : Value} {x1 x2 : List Value} (h1 : w.ownsRow b1 e1 s1 v1 n1 x1) (h2 : w.ownsRow b2 e2 s2 v2 n2 x2) (hne : e1 ≠ e2) : v1.ownBlock = none ∨ v1.ownBlock ≠ v2.ownBlock := by
  rcases h1.2 with ⟨rfl, _⟩ | ⟨g1, c1, cur1, rfl, _, hg1, _⟩
  · exact .inl rfl
  right
  rcases h2.2 with ⟨rfl, _⟩ | ⟨g2, c2, cur2, rfl, _, hg2, _⟩
  · simp [Value.ownBlock]
  · intro e
    have : g1 = g2 := by simpa [Value.ownBlock] using e
    subst this
    rw [hg1] at hg2
    injection hg2 with hg2
    injection hg2 with _ ht
    exact hne ht
theorem own_but {w w' : World} {base size n p : Nat} {e : TypeId} {v : Value} {xs : List Value} (h : w.ownsRow base e size v n xs) (hg : w.grownBy w' (some p)) (hp : p < base) : w'.ownsRow base e size v n xs :=
  h.kept hg (by
    rcases hv : v.ownBlock with _ | b
    · exact .inl rfl
    · right; intro e; injection e with e; have := (h.lt b hv).1; omega)
/-- front's contract at what is left of bytes. -/
def FrontAt (F : List UInt8 → Ms × Int × Nat) (up : Bool) (xs : List UInt8) : Prop :=
  ∀ l, l ≠ [] → l.length ≤ xs.length → (∃ k, l = xs.drop k) → ∀ A n c W, Wd W → n = l.length → n ≤ c → Rd W A (bs l) → Calls Tryz.prog 46 #[.slice A n c, .bool up] W fun e w' => e = .returned (.tuple #[msV (F l).1, .int .i64 (F l).2.1, .int .i64 (F l).2.2]) ∧ W.grownBy w' none
/-- At the loop's head. -/
structure TI (F : List UInt8 → Ms × Int × Nat) (xs : List UInt8) (out : List Ms) (rest : List UInt8) (w wr : World) (o1 : List Ms) (l : List UInt8) (ov : Value) (A : Option Addr) : Prop where
  g : w.grownBy wr none
  o : wr.ownsRow w.heap.size 40 5 ov o1.length (msCells o1)
  r : Rd w A (bs l)
  k : ∃ k, l = xs.drop k
  t : ∃ o2, out = o1 ++ o2 ∧ Took F l o2 rest
  n : o1.length + l.length ≤ xs.length
theorem g_set {w w' : World} {p : Nat} (h : w.grownBy w' (some p)) {a : Addr} (ha : a.block = p) (v : Value) : w.grownBy (w'.setCell a v) (some p) :=
  ⟨h.os, h.tape, h.output, by simpa [World.setCell] using h.size, fun k hk hne => by
    have : k ≠ p := fun e => hne (by rw [e])
    rw [Below.heap_setCell _ _ _ _ (by rw [ha]; exact this)]
    exact h.block k hk hne⟩
theorem take_end {F : List UInt8 → Ms × Int × Nat} {xs : List UInt8} {out : List Ms} {rest : List UInt8} {w wr w2 : World} {o1 : List Ms} {l : List UInt8} {Ao : Option Addr} {co : Nat} {A A' : Option Addr} {c' p n1 : Nat} {s : Value}
    (hI : TI F xs out rest w wr o1 l (.slice Ao o1.length co) A) (hD : DB w p s) (ho : out = o1) (hr : rest = l) (hn : n1 = l.length) (O2 : w2.ownsRow wr.heap.size 5 1 (.slice A' n1 c') n1 (bs l)) (g2 : wr.grownBy w2 none) :
    ∃ Ao' co' A'' c'', Ending.returned (.slice Ao o1.length co) = .returned (.slice Ao' out.length co') ∧ (w2.setCell ⟨p, 0, none⟩ (.slice A' n1 c')).ownsRow w.heap.size 40 5 (.slice Ao' out.length co') out.length (msCells out) ∧ DB (w2.setCell ⟨p, 0, none⟩ (.slice A' n1 c')) p (.slice A'' rest.length c'') ∧ (w2.setCell ⟨p, 0, none⟩ (.slice A' n1 c')).ownsRow w.heap.size 5 1 (.slice A'' rest.length c'') rest.length (bs rest) ∧ w.grownBy (w2.setCell ⟨p, 0, none⟩ (.slice A' n1 c')) (some p) := by
  subst ho; subst hr; subst hn
  have hp := hD.lt
  have G2 := hI.g.trans g2
  have hD2 := hD.grown G2 (by simp)
  exact ⟨Ao, co, A', c', rfl, ownsRow_setCell_below (own_keep hI.o g2) hp _, hD2.set _, ownsRow_setCell_below (own_le O2 hI.g.size) hp _, g_set (a := ⟨p, 0, none⟩) (G2.but (some p)) rfl _⟩
set_option maxHeartbeats 1000000 in
set_option maxRecDepth 100000 in
theorem take_any (F : List UInt8 → Ms × Int × Nat) (up : Bool) (p n c : Nat) (A : Option Addr) (xs rest : List UInt8) (out : List Ms) (w : World) (hW : Wd w) (hD : DB w p (.slice A n c)) (hR : Rd w A (bs xs)) (hn : n = xs.length) (hbig : n ≤ 1000000) (hc : n ≤ c)
    (hT : Took F xs out rest) (hF : FrontAt F up xs) :
    Calls Tryz.prog 28 #[.pointer (some ⟨p, 0, none⟩), .bool up] w fun e w' => ∃ Ao co A' c', e = .returned (.slice Ao out.length co) ∧ w'.ownsRow w.heap.size 40 5 (.slice Ao out.length co) out.length (msCells out) ∧ DB w' p (.slice A' rest.length c') ∧ w'.ownsRow w.heap.size 5 1 (.slice A' rest.length c') rest.length (bs rest) ∧ w.grownBy w' (some p) := by
  have d0 := hD.cell; have d1 := hD.free; have hp := hD.lt
  replace hW := Lib.hid hW; replace hD := Lib.hid hD; replace hR := Lib.hid hR; replace hn := Lib.hid hn; replace hT := Lib.hid hT; replace hF := Lib.hid hF
  go_enter Tryz.func28, Tryz.ntmps28
  go_wp2_with fail
  go_loopw [5, 6] (fun ov bv wr => ∃ (o1 : List Ms) (l : List UInt8) (A1 : Option Addr) (n1 c1 : Nat) (Ao : Option Addr) (co o1n : Nat), n1 ≤ n ∧ n1 ≤ c1 ∧ bv = .slice A1 n1 c1 ∧ ov = .slice Ao o1n co ∧ Hid (n1 = l.length) ∧ Hid (o1n = o1.length) ∧ Hid (TI F xs out rest w wr o1 l (.slice Ao o1.length co) A1)) (fun _ bv _ => slen bv)
  case atStart => exact ⟨[], xs, A, n, c, none, 0, 0, Nat.le_refl _, hc, rfl, rfl, hn, Lib.hid rfl, Lib.hid ⟨World.grownBy.refl _ _, World.ownsRow_nil _ _ _ _, hR.out, ⟨0, rfl⟩, ⟨out, rfl, hT.out⟩, by simp⟩⟩
  case round =>
    obtain ⟨o1, l, A1, n1, c1, Ao, co, o1n, hle, hc1, rfl, rfl, hn1, ho1n, hI⟩ := hrel
    have hW1 := hW.out.grown hI.out.g
    have hD1 := hD.out.grown hI.out.g (by simp)
    have q0 := hD1.cell; have q1 := hD1.free
    have hrr := hI.out.r.grown hI.out.g (.inl rfl)
    obtain ⟨o2, ho, ht⟩ := hI.out.t
    replace hW1 := Lib.hid hW1; replace hD1 := Lib.hid hD1; replace ho := Lib.hid ho; replace hrr := Lib.hid hrr
    have hll : Hid (l.length ≤ xs.length) := Lib.hid (by have := hI.out.n; omega)
    cases ht with
    | nil =>
      have h0 : n1 = 0 := hn1.out
      subst h0
      have CL := Lib.hid (clone_any A1 0 c1 [] wr rfl (by omega) hrr.out)
      go_wp2_with fail
      refine CL.out.mono ?_
      rintro e w2 ⟨A', c', rfl, O2, G2⟩
      have hD2 := hD1.out.grown G2 (by simp)
      have r0 := hD2.cell; have r1 := hD2.free
      replace O2 := Lib.hid O2; replace G2 := Lib.hid G2; replace hD2 := Lib.hid hD2
      go_wp2_with fail
      go_ret
      rw [ho1n.out]
      exact take_end hI.out hD.out (by rw [ho.out]; simp) rfl rfl O2.out G2.out
    | waits _ h hw => 
      have CO := Lib.hid (hF.out rest h hll.out hI.out.k A1 n1 c1 wr hW1.out hn1.out hc1 hrr.out)
      have CL := fun W (G : wr.grownBy W none) => clone_any A1 n1 c1 rest W hn1.out (by omega) (hrr.out.grown G (.inl rfl))
      have hpos : 0 < n1 := by rw [hn1.out]; exact List.length_pos_iff.2 h
      obtain ⟨K, hK⟩ : ∃ K, K = F rest := ⟨_, rfl⟩
      rw [← hK] at CO hw
      obtain ⟨km, kh, kn⟩ := K
      dsimp only at CO hw
      subst hw
      replace CL := Lib.hid CL; replace h := Lib.hid h; replace hK := Lib.hid hK
      go_wp2_with fail
      refine CO.out.mono ?_
      rintro e w2 ⟨rfl, G2⟩
      replace G2 := Lib.hid G2
      go_wp2_with fail
      refine (CL.out _ (G2.out.trans (World.grownBy_alloc _ _ _))).mono ?_
      rintro e w3 ⟨A', c', rfl, O3, G3⟩
      have G4 := (G2.out.trans (World.grownBy_alloc w2 _ _)).trans G3
      have hD3 := hD1.out.grown G4 (by simp)
      have r0 := hD3.cell; have r1 := hD3.free
      have O4 := own_le O3 (by simp; have := G2.out.size; omega : wr.heap.size ≤ _)
      replace O4 := Lib.hid O4; replace G4 := Lib.hid G4; replace hD3 := Lib.hid hD3
      clear G3 O3
      go_wp2_with fail
      go_ret
      rw [ho1n.out]
      exact take_end hI.out hD.out (by rw [ho.out]; simp) rfl hn1.out O4.out G4.out
    | is l o3 rest h hi h1 hn2 hr =>
      have CO := Lib.hid (hF.out l h hll.out hI.out.k A1 n1 c1 wr hW1.out hn1.out hc1 hrr.out)
      have hpos : 0 < n1 := by rw [hn1.out]; exact List.length_pos_iff.2 h
      obtain ⟨K, hK⟩ : ∃ K, K = F l := ⟨_, rfl⟩
      rw [← hK] at CO hi h1 hn2 hr ho
      obtain ⟨km, kh, kn⟩ := K
      dsimp only at CO hi h1 hn2 hr ho
      subst hi
      replace h := Lib.hid h; replace hK := Lib.hid hK; replace hr := Lib.hid hr
      have hn3 : kn ≤ n1 := by rw [hn1.out]; exact hn2
      clear hn2
      have ⟨B, off, hA1⟩ : ∃ B off, A1 = some ⟨B, off, none⟩ := by
        obtain ⟨b, off, e, _⟩ := hrr.out (fun e => h.out (by simpa [bs] using e))
        exact ⟨b, off, e⟩
      subst hA1
      go_wp2_with fail
      refine CO.out.mono ?_
      rintro e w2 ⟨rfl, G2⟩
      obtain ⟨w3, hw3⟩ : ∃ w3, w3 = w2.alloc (.cells #[.int .i64 km.c, .int .i64 km.m, .int .i64 km.b, .int .i64 km.x, .int .i64 km.y] 40) := ⟨_, rfl⟩
      have G3 : wr.grownBy w3 none := by rw [hw3]; exact G2.trans (World.grownBy_alloc w2 _ _)
      replace G2 := Lib.hid G2; replace hw3 := Lib.hid hw3; replace G3 := Lib.hid G3
      have hM3 : MC w3 w2.heap.size km := by rw [hw3.out]; exact MC.new w2 km
      obtain ⟨bM, hbM⟩ : ∃ n, n = w2.heap.size := ⟨_, rfl⟩
      rw [← hbM] at hM3
      obtain ⟨x0, x1, x2, x3, x4, _⟩ := hM3.cells
      have O3 : (w3.alloc (.cells #[.int .i64 km.c, .int .i64 km.m, .int .i64 km.b, .int .i64 km.x, .int .i64 km.y] 40)).ownsRow w.heap.size 40 5 (.slice Ao o1n co) o1n (msCells o1) := by
        have := (own_keep hI.out.o G3.out).alloc (.cells #[.int .i64 km.c, .int .i64 km.m, .int .i64 km.b, .int .i64 km.x, .int .i64 km.y] 40)
        rw [ho1n.out]; exact this
      have R3 := Rd.newL w3 (msC km) 40
      have S3 : w.heap.size ≤ (w3.alloc (.cells #[.int .i64 km.c, .int .i64 km.m, .int .i64 km.b, .int .i64 km.x, .int .i64 km.y] 40)).heap.size := by
        have := (hI.out.g.trans G3.out).size
        simp; omega
      have hcnt : o1n + n1 ≤ 1000000 := by have h1 := hI.out.n; have h2 := ho1n.out; have h3 := hn1.out; have h4 := hn.out; omega
      have G5 := (hI.out.g.trans G3.out).trans (World.grownBy_alloc w3 (.cells #[.int .i64 km.c, .int .i64 km.m, .int .i64 km.b, .int .i64 km.x, .int .i64 km.y] 40) none)
      replace hM3 := Lib.hid hM3; replace hbM := Lib.hid hbM; replace O3 := Lib.hid O3; replace R3 := Lib.hid R3; replace S3 := Lib.hid S3; replace G5 := Lib.hid G5
      go_upto_region 7 with fail
      rw [← hw3.out, ← hbM.out]
      go_upto_region 8 with (first
        | (at_builtin; refine ap34 rfl (.tmp 28) (.tmp 30) rfl w.heap.size (.slice Ao o1n co) o1n _ rfl O3.out (some ⟨w3.heap.size, 0, none⟩) 1 1 (msC km) rfl rfl R3.out (msC_one km) (by omega) S3.out ?_; intro A6 c6 w6 O6 G6 hh6; replace O6 := Lib.hid O6; replace G6 := Lib.hid G6)
        | fail)
      have G7 := g_own G5.out O3.out (Nat.le_refl _) G6.out
      replace G7 := Lib.hid G7
      go_wp2_with fail
      have hsub : ((n1 : Int) - (kn : Int)).toNat = n1 - kn := by omega
      refine ⟨⟨o1 ++ [km], l.drop kn, _, n1 - kn, c1 - kn, A6, c6, o1n + 1, by omega, by omega, rfl, rfl, Lib.hid (by rw [List.length_drop, hn1.out]), Lib.hid (by simp [ho1n.out]), Lib.hid ⟨G7.out, ?_, ?_, ?_, ⟨o3, by rw [ho.out]; simp, hr.out⟩, ?_⟩⟩, ?_⟩
      · rw [msCells_snoc]
        have := O6.out
        rw [show (o1 ++ [km]).length = o1n + 1 by simp [ho1n.out]]
        exact this
      · rw [show bs (l.drop kn) = (bs l).drop kn by simp [bs]]
        exact Rd.cut kn c1 hI.out.r (by rw [bs_len, ← hn1.out]; exact hc1)
      · obtain ⟨k, hk⟩ := hI.out.k
        exact ⟨k + kn, by rw [hk, List.drop_drop]⟩
      · have := hI.out.n; have h3 := hn1.out
        simp only [List.length_append, List.length_drop, List.length_cons, List.length_nil]; omega
      · show n1 - kn < n1
        omega
    | skip l _ rest h hi h1 hn2 hr =>
      have CO := Lib.hid (hF.out l h hll.out hI.out.k A1 n1 c1 wr hW1.out hn1.out hc1 hrr.out)
      have hpos : 0 < n1 := by rw [hn1.out]; exact List.length_pos_iff.2 h
      obtain ⟨K, hK⟩ : ∃ K, K = F l := ⟨_, rfl⟩
      rw [← hK] at CO hi h1 hn2 hr
      obtain ⟨km, kh, kn⟩ := K
      dsimp only at CO hi h1 hn2 hr
      subst hi
      replace h := Lib.hid h; replace hK := Lib.hid hK; replace hr := Lib.hid hr
      have hn3 : kn ≤ n1 := by rw [hn1.out]; exact hn2
      clear hn2
      have ⟨B, off, hA1⟩ : ∃ B off, A1 = some ⟨B, off, none⟩ := by
        obtain ⟨b, off, e, _⟩ := hrr.out (fun e => h.out (by simpa [bs] using e))
        exact ⟨b, off, e⟩
      subst hA1
      go_wp2_with fail
      refine CO.out.mono ?_
      rintro e w2 ⟨rfl, G2⟩
      have G3 : wr.grownBy (w2.alloc (.cells #[.int .i64 km.c, .int .i64 km.m, .int .i64 km.b, .int .i64 km.x, .int .i64 km.y] 40)) none := G2.trans (World.grownBy_alloc w2 _ _)
      replace G2 := Lib.hid G2; replace G3 := Lib.hid G3
      go_wp2_with fail
      refine ⟨⟨o1, l.drop kn, _, n1 - kn, c1 - kn, Ao, co, o1n, by omega, by omega, rfl, rfl, Lib.hid (by rw [List.length_drop, hn1.out]), ho1n, Lib.hid ⟨hI.out.g.trans G3.out, own_keep hI.out.o G3.out, ?_, ?_, ⟨_, ho.out, hr.out⟩, ?_⟩⟩, ?_⟩
      · rw [show bs (l.drop kn) = (bs l).drop kn by simp [bs]]
        exact Rd.cut kn c1 hI.out.r (by rw [bs_len, ← hn1.out]; exact hc1)
      · obtain ⟨k, hk⟩ := hI.out.k
        exact ⟨k + kn, by rw [hk, List.drop_drop]⟩
      · have := hI.out.n; have h3 := hn1.out
        simp only [List.length_drop]; omega
      · show n1 - kn < n1
        omega
end Go.Proofs.YtncokbppijnfiaaGreatDoor
