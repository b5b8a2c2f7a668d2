/- FrameRow: the walk. -/
import Derived.Test.YtdbjphabmdmjcaaN2
import Derived.Test.YtdbjphabmdmjcaaJ1
import Derived.Deep.RegionHeld3
import Derived.Deep.DeepCutAuto
namespace Go.Proofs.Ytdbjphabmdmjcaa
open Go.RowKit
set_option linter.unusedSimpArgs false
set_option linter.unusedVariables false

/-- What holds at the loop's head. -/
structure RowI (w : World) (p : Nat) (most : Int) (Aw : Option Addr) (cw : Nat) (l : List UInt8) (dr : Int) (wr : World) : Prop where
  g : w.grownBy wr none
  hp : w.heap.size ≤ p
  b : ∃ Ab cb, BB wr p (.slice Ab l.length cb) most dr ∧ Mid wr w.heap.size 5 Ab l.length cb (bs l) ∧ ∀ x, ablk Ab = some x → ablk Aw ≠ some x
  m : Mid wr w.heap.size 5 Aw l.length cw (bs l)

theorem Rd.same {w w' : World} {A : Option Addr} {xs : List Value} (h : Rd w A xs) (hs : ∀ x, ablk A = some x → w'.heap[x]? = w.heap[x]?) (hz : w.heap.size ≤ w'.heap.size) : Rd w' A xs := fun hx => by
  obtain ⟨b, off, rfl, hb, hc⟩ := h hx
  exact ⟨b, off, rfl, Nat.lt_of_lt_of_le hb hz, fun j u hj => (World.cell?_of_block (a := ⟨b, off + j, none⟩) (hs b rfl)).trans (hc j u hj)⟩
theorem Mid.same {w w' : World} {base n c : Nat} {e : TypeId} {A : Option Addr} {xs : List Value} (h : Mid w base e A n c xs) (hs : ∀ x, ablk A = some x → w'.heap[x]? = w.heap[x]?) (hz : w.heap.size ≤ w'.heap.size) : Mid w' base e A n c xs := by
  obtain ⟨h1, h2, h3, h4, h5⟩ := h
  refine ⟨h1, h2, h3, h4.same hs hz, ?_⟩
  rcases h5 with h5 | ⟨g, off, cur, rfl, k1, k2, k3⟩
  · exact .inl h5
  · exact .inr ⟨g, off, cur, rfl, k1, (hs g rfl).trans k2, k3⟩
theorem g_mid {w a b : World} {base n c : Nat} {e : TypeId} {A : Option Addr} {xs : List Value} (h : w.grownBy a none) (hm : Mid a base e A n c xs) (hb : w.heap.size ≤ base) (hg : a.grownBy b (ablk A)) : w.grownBy b none :=
  ⟨hg.os.trans h.os, hg.tape.trans h.tape, hg.output.trans h.output, Nat.le_trans h.size hg.size, fun k hk _ =>
    (hg.block k (Nat.lt_of_lt_of_le hk h.size) (fun e => by have := (hm.block k e.symm).1; omega)).trans (h.block k hk (by simp))⟩
theorem ablk_cutA (A : Option Addr) (c k : Nat) : ablk (cutA A c k) = ablk A := by
  unfold cutA
  split
  · rfl
  · rcases A with _ | a
    · rfl
    · simp only [Option.map_some, ablk, Addr.add]; split <;> rfl
section
variable {ops : Array Oper} {rest : List Oper} {o : Oper} {a : Act} {Q : Exit → Act → World → Prop} {w : World}
/-- append(b, s...) of a string's bytes, b in the midst of a row. -/
theorem apms (hgd : o.guard = none) (s x : Operand) (ho : o.op = .call { callee := .builtin .append, args := #[s, x], argTypes := #[23, 9] })
    (base : Nat) (A : Option Addr) (n c : Nat) (xs : List Value) (hev : a.eval s = .slice A n c) (hm : Mid w base 5 A n c xs) (b : ByteArray) (hx : a.eval x = .string b) (hb : n + b.size ≤ 140737488355328) (hbase : base ≤ w.heap.size)
    (h : ∀ A' c' w', Mid w' base 5 A' (n + b.size) c' (xs ++ bs (sl b)) → w.grownBy w' (ablk A) → (ablk A' = ablk A ∨ ablk A' = some w.heap.size) → wpList Try.prog ops Q rest (a.put o.dst (.slice A' (n + b.size) c')) w') : wpList Try.prog ops Q (o :: rest) a w := by
  obtain ⟨i0, hi0, hz0, hz1, hz2⟩ := info_parts info5
  exact wpList_append_mid w hgd s x 23 9 ho base 5 i0 _ Try.underlying23 hi0 hz0 hz1 (by rw [hz2]; omega) rfl A n c xs hev hm b.size (bs (sl b)) (by rw [hx]; exact Src.ofString w Try.underlying9 b) (by rw [hz2]; omega) (by unfold maxLen; omega) hbase h
end

set_option maxRecDepth 100000 in
set_option maxHeartbeats 1000000 in
theorem row_any (most : Int) (A C : Option Addr) (n c m d : Nat) (ws : List ByteArray) (zs : List Int) (w : World) (hn : n = ws.length) (hR : Rd w A (ws.map .string)) (hs : ∀ s ∈ ws, s.size ≤ 140737488351232) (hb : n ≤ 140737488351232)
    (hm : m = zs.length) (hC : Rd w C (zs.map (.int .i64))) (hz : ∀ z ∈ zs, -9223372036854775808 ≤ z ∧ z ≤ 9223372036854775807) (hmb : m ≤ 140737488351232) :
    Calls Try.prog 7 #[.int .i64 most, .slice A n c, .slice C m d] w fun e w' => e = .returned (.bool true) ∧ w.grownBy w' none := by
  have CS := Lib.hid (shown_any w)
  replace hn := Lib.hid hn; replace hR := Lib.hid hR; replace hs := Lib.hid hs; replace hm := Lib.hid hm; replace hC := Lib.hid hC; replace hz := Lib.hid hz
  by_cases hbad : most < 1 ∨ 2097152 < most
  · have CN := Lib.hid (fun W => newBuffer_no most W hbad)
    by_cases h1 : most < 1
    all_goals
      have h2 : ¬ most < 1 → 2097152 < most := by omega
      go_enter Try.func7, Try.ntmps7
      go_wp2_with fail
      refine CS.out.mono ?_
      rintro e w1 ⟨rfl, G1⟩
      replace G1 := Lib.hid G1
      go_wp2_with fail
      refine (CN.out _).mono ?_
      rintro e w2 ⟨rfl, rfl⟩
      first | (have h4 : 2097152 < most := by omega) | skip
      clear h2
      go_wp2_with fail
      go_ret
      exact ⟨rfl, G1.out⟩
  · have h1 : 1 ≤ most := by omega
    have h2 : most ≤ 2097152 := by omega
    have h1' : ¬ most < 1 := by omega
    have h2' : ¬ 2097152 < most := by omega
    have CN := Lib.hid (fun W => newBuffer_yes most W h1 h2)
    clear hbad
    go_enter Try.func7, Try.ntmps7
    go_wp2_with fail
    refine CS.out.mono ?_
    rintro e w1 ⟨rfl, G1⟩
    replace G1 := Lib.hid G1
    go_wp2_with fail
    refine (CN.out _).mono ?_
    rintro e w2 ⟨rfl, rfl⟩
    obtain ⟨p, hp⟩ : ∃ p, p = w1.heap.size := ⟨_, rfl⟩
    have hB0 : BB (w1.alloc (.cells #[.slice none 0 0, .int .i64 most, .int .i64 0] 72)) p (.slice none 0 0) most 0 := by rw [hp]; exact heap_alloc_new w1 _
    have g0 := g_alloc G1.out (.cells #[.slice none 0 0, .int .i64 most, .int .i64 0] 72)
    have hwp : w.heap.size ≤ p := by rw [hp]; exact G1.out.size
    rw [← hp]
    replace hp := Lib.hid hp
    generalize w1.alloc (.cells #[.slice none 0 0, .int .i64 most, .int .i64 0] 72) = w2 at *
    have hI0 : RowI w p most none 0 [] 0 w2 := ⟨g0, hwp, ⟨none, 0, hB0, Mid.nil _ _ _, fun x hx => by cases hx⟩, Mid.nil _ _ _⟩
    replace hI0 := Lib.hid hI0
    clear CS CN hB0 g0
    go_wp2_with fail
    go_loopw [10, 11, 12] (fun wv dv i wr => ∃ (j q : Nat) (l : List UInt8) (Aw : Option Addr) (cw : Nat), j ≤ n ∧ i = .int .i64 j ∧ q ≤ j ∧ dv = .int .i64 q ∧ wv = .slice Aw l.length cw ∧ (l.length : Int) ≤ most ∧ j ≤ 100 ∧ Hid (RowI w p most Aw cw l q wr)) (fun _ _ i _ => n - (intOf i).toNat)
    case atStart => exact ⟨0, 0, [], none, 0, Nat.zero_le _, rfl, Nat.le_refl _, rfl, rfl, by simp; omega, by omega, hI0.out⟩
    case round =>
      obtain ⟨j, q, l, Aw, cw, hj, rfl, hqj, rfl, rfl, hlm, hj100, hI⟩ := hrel
      by_cases hlt : j < n ∧ j < 100
      · obtain ⟨hlt, h100⟩ := hlt
        have h100' : (j : Int) < 100 := by omega
        obtain ⟨s, hs1⟩ : ∃ s, ws[j]? = some s := ⟨ws[j]'(by rw [← hn.out]; exact hlt), List.getElem?_eq_getElem _⟩
        have hsz := hs.out s (List.mem_of_getElem? hs1)
        obtain ⟨hG, _, ⟨Ab, cb, hB, hM, hAB⟩, hW⟩ := hI.out
        have hRw := hR.out.grown hG (.inl rfl)
        obtain ⟨bw, ow, rfl, hbw, hcw⟩ := hRw.at_ (j := j) (u := .string s) (by simp [hs1])
        obtain ⟨cap, w3, hcv, R3, N3, G3⟩ := conv_new wr s
        obtain ⟨B, hBe⟩ : ∃ B, B = wr.heap.size := ⟨_, rfl⟩
        rw [← hBe] at hcv R3 N3
        have B3 := hB.grown G3 (by simp)
        have M3 := hM.grown G3 (.inl rfl)
        have W3 := hW.grown G3 (.inl rfl)
        have hpB : p < B := by rw [hBe]; exact hB.lt
        have hwB : w.heap.size ≤ B := by rw [hBe]; exact hG.size
        have hB3 := N3.lt
        have g3 := hG.trans G3
        have hbB : ∀ x, ablk Ab = some x → x < B := fun x hx => by rw [hBe]; exact (hM.block x hx).2.1
        have hwB2 : ∀ x, ablk Aw = some x → x < B := fun x hx => by rw [hBe]; exact (hW.block x hx).2.1
        replace hs1 := Lib.hid hs1; replace hG := Lib.hid hG; replace hB := Lib.hid hB; replace hM := Lib.hid hM; replace hW := Lib.hid hW; replace hRw := Lib.hid hRw; replace R3 := Lib.hid R3; replace N3 := Lib.hid N3; replace G3 := Lib.hid G3
        replace hAB := Lib.hid hAB; replace hbB := Lib.hid hbB; replace hwB2 := Lib.hid hwB2; replace g3 := Lib.hid g3; replace hBe := Lib.hid hBe
        clear hI hbw
        have hl2 : l.length ≤ 2097152 := by omega
        by_cases hput : (s.size : Int) ≤ most - l.length
        · have CP := Lib.hid (put_yes p w.heap.size Ab (some ⟨B, 0, none⟩) l.length cb s.size cap l (sl s) most q w3 B3 M3 R3.out (sl_len s).symm (by omega) (by omega) h2 hput (by omega))
          replace B3 := Lib.hid B3; replace M3 := Lib.hid M3; replace W3 := Lib.hid W3
          have hput' : ¬ most - l.length < (s.size : Int) := by omega
          go_wp2_with fail
          refine CP.out.mono ?_
          rintro e w4 ⟨rfl, A4, c4, B4, M4, k4, ko, kt, ku, ks, ka⟩
          have g34 : w3.grownBy w4 none → True := fun _ => trivial
          have N4 : NB w4 B s.size := by
            obtain ⟨cs, mm, h1, h2, h3⟩ := N3.out
            exact ⟨cs, mm, (k4 B hB3 (by omega) (fun e => by have := hbB.out B e; omega)).trans h1, h2, h3⟩
          have hzs := Nat.le_trans (Nat.le_of_lt hB3) ks
          have g4 : w.grownBy w4 none := ⟨ko.trans g3.out.os, kt.trans g3.out.tape, ku.trans g3.out.output, Nat.le_trans g3.out.size ks, fun k hk _ =>
            (k4 k (Nat.lt_of_lt_of_le hk g3.out.size) (by omega) (fun e => by have := (M3.out.block k e).1; omega)).trans (g3.out.block k hk (by simp))⟩
          have W4 : Mid w4 w.heap.size 5 Aw l.length cw (bs l) := W3.out.same (fun x hx => k4 x (W3.out.block x hx).2.1 (fun e => by subst e; exact B3.out.not_mid W3.out hx) (fun e => hAB.out x e hx)) ks
          have hA4 : ∀ x, ablk A4 = some x → ablk Aw ≠ some x ∧ x ≠ B := fun x hx => by
            rcases ka with ka | ⟨y, ka, hy⟩
            · rw [ka] at hx
              exact ⟨hAB.out x hx, fun e => by have := hbB.out x hx; omega⟩
            · rw [ka] at hx
              injection hx with hx
              subst hx
              exact ⟨fun e => by have := hwB2.out y e; omega, by omega⟩
          replace hA4 := Lib.hid hA4
          clear k4 ko kt ku ka
          replace N4 := Lib.hid N4; replace B4 := Lib.hid B4; replace M4 := Lib.hid M4; replace g4 := Lib.hid g4; replace W4 := Lib.hid W4
          clear hcv hcw CP g34
          go_wp2_with fail
          go_loopw [15] (fun i wk => ∃ k : Nat, k ≤ s.size ∧ i = .int .i64 k ∧ Hid (w4.grownBy wk (some B)) ∧ Hid (NB wk B s.size)) (fun i _ => s.size - (intOf i).toNat)
          case atStart => exact ⟨0, Nat.zero_le _, rfl, World.grownBy.refl _ _, N4.out⟩
          case round =>
            obtain ⟨k, hk, rfl, hg, hN⟩ := hrel
            by_cases hlk : k < s.size
            · obtain ⟨u, hcu⟩ := hN.out.cell hlk
              have hfu := hN.out.free hlk
              go_wp2_with fail
              exact ⟨⟨k + 1, by omega, by go_num, g_set hg.out rfl _, hN.out.set _ _⟩, by simp [intOf]; omega⟩
            · obtain rfl : k = s.size := by omega
              have g5 : w.grownBy wr none := g_far g4.out hg.out hwB
              have hRn := hR.out.grown g5 (.inl rfl)
              obtain ⟨_, _, e1, _, hcw⟩ := hRn.at_ (j := j) (u := .string s) (by simp [hs1.out])
              injection e1 with e1; injection e1 with e1 e2; subst e1; subst e2
              have B5 := B4.out.grown hg.out (by intro e; injection e with e; omega)
              have M5 := M4.out.grown hg.out (.inr fun e => (hA4.out B e).2 rfl)
              have W5 := W4.out.grown hg.out (.inr fun e => by have := hwB2.out B e; omega)
              have hw5 := g5.size
              replace hRn := Lib.hid hRn; replace g5 := Lib.hid g5; replace B5 := Lib.hid B5; replace M5 := Lib.hid M5; replace W5 := Lib.hid W5
              go_upto_if 81 with fail
              go_cut [10, 11] (fun wv dv wx => ∃ (q' : Nat) (l' : List UInt8) (Aw' : Option Addr) (cw' : Nat), wv = .slice Aw' l'.length cw' ∧ dv = .int .i64 q' ∧ q' ≤ j + 1 ∧ (l'.length : Int) ≤ most ∧ Hid (RowI w p most Aw' cw' l' q' wx))
              case first =>
                go_wp2_with (first
                  | (at_builtin; go_must (refine apms rfl (.tmp 85) (.tmp 89) rfl w.heap.size Aw l.length cw (bs l) rfl W5.out s rfl (by omega) hw5 ?_; intro A6 c6 w6 M6 G6 hh6))
                  | fail)
                go_meet
                have hll : (l ++ sl s).length = l.length + s.size := by rw [List.length_append, sl_len]
                refine ⟨q, l ++ sl s, A6, c6, by rw [hll], rfl, by omega, by rw [hll]; omega, g_mid g5.out W5.out (Nat.le_refl _) G6, hwp, ⟨A4, c4, ?_, ?_, ?_⟩, ?_⟩
                · rw [hll]; exact B5.out.grown G6 (fun e => B5.out.not_mid W5.out e.symm)
                · rw [hll]
                  refine M5.out.grown G6 ?_
                  rcases hy : ablk Aw with _ | y
                  · exact .inl rfl
                  · exact .inr fun e => (hA4.out y e).1 hy
                · intro x hx e
                  rcases hh6 with hh | hh
                  · rw [hh] at e; exact (hA4.out x hx).1 e
                  · rw [hh] at e; injection e with e
                    have := (M5.out.block x hx).2.1; omega
                · rw [hll, bs_append]; exact M6
              case rest =>
                obtain ⟨q', l', Aw', cw', rfl, rfl, hq', hl', hI'⟩ := hcut
                clear hcw hRn g5 B5 M5 W5 hg hN B4 M4 W4 g4 N4 hA4 B3 M3 W3 hAB hbB hwB2 g3 hBe R3 N3 G3 hRw hW hM hB hG
                have hl2' : l'.length ≤ 2097152 := by omega
                go_upto_if 96 with fail
                go_cut [10] (fun wv wx => ∃ (l2 : List UInt8) (A2 : Option Addr) (c2 : Nat), wv = .slice A2 l2.length c2 ∧ (l2.length : Int) ≤ most ∧ Hid (RowI w p most A2 c2 l2 q' wx))
                case first =>
                  by_cases hjm : j < m
                  · obtain ⟨z, hz1⟩ : ∃ z, zs[j]? = some z := ⟨zs[j]'(by rw [← hm.out]; exact hjm), List.getElem?_eq_getElem _⟩
                    obtain ⟨z1, z2⟩ := hz.out z (List.mem_of_getElem? hz1)
                    obtain ⟨bc, oc, rfl, _, hcc⟩ := (hC.out.grown hI'.out.g (.inl rfl)).at_ (j := j) (u := .int .i64 z) (by simp [hz1])
                    obtain ⟨k, hk⟩ : ∃ k : Nat, (k : Int) = max 0 (min z l'.length) := ⟨(max 0 (min z l'.length)).toNat, by omega⟩
                    have hkl : k ≤ l'.length := by omega
                    have hjm' : (j : Int) < m := by omega
                    replace hz1 := Lib.hid hz1
                    go_upto_region 27 with fail
                    go_cut [16] (fun sv wx => sv = .int .i64 k ∧ wx = wc)
                    case first =>
                      by_cases h1 : (l'.length : Int) < z
                      · by_cases h2 : 0 < l'.length
                        · have e : (k : Int) = l'.length := by omega
                          replace hk := Lib.hid hk; replace e := Lib.hid e
                          go_wp2_with fail
                          go_meet
                          exact ⟨by rw [e.out], rfl⟩
                        · have e : (k : Int) = 0 := by omega
                          replace hk := Lib.hid hk; replace e := Lib.hid e
                          go_wp2_with fail
                          go_meet
                          exact ⟨by rw [e.out], rfl⟩
                      · by_cases h2 : 0 < z
                        · have e : (k : Int) = z := by omega
                          replace hk := Lib.hid hk; replace e := Lib.hid e
                          go_wp2_with fail
                          go_meet
                          exact ⟨by rw [e.out], rfl⟩
                        · have e : (k : Int) = 0 := by omega
                          replace hk := Lib.hid hk; replace e := Lib.hid e
                          go_wp2_with fail
                          go_meet
                          exact ⟨by rw [e.out], rfl⟩
                    case rest =>
                      obtain ⟨rfl, rfl⟩ := hcut
                      obtain ⟨gI, _, ⟨Ab2, cb2, B7, M7, hd7⟩, W7⟩ := hI'.out
                      have CT := Lib.hid (fun W (hW : wc.grownBy W none) => take_any p w.heap.size Ab2 l'.length cb2 k l' z most q' W (B7.grown hW (by simp)) (M7.grown hW (.inl rfl)) hl2' hk)
                      have hgk : wc.grownBy wc.drew none := g_drew (World.grownBy.refl wc none)
                      have hcv : ∀ W, Rd W Aw' (bs l') → (convert 23 9 (.slice Aw' k cw')).run Try.prog W = .ok (.string (st (l'.take k))) W := fun W hW =>
                        conv_str W 23 9 5 Try.underlying23 Try.underlying5 Try.underlying9 Aw' k cw' (l'.take k) (by rw [List.length_take]; omega) (by rw [bs_take]; exact hW.take k)
                      have hcv0 := hcv wc.drew (W7.rd.grown hgk (.inl rfl))
                      have hcc0 : wc.drew.cell? ⟨bc, oc + j, none⟩ = some (.int .i64 z) := hcc
                      have hkc : k ≤ cw' := Nat.le_trans hkl W7.2.1
                      have hkc' : (k : Int) ≤ cw' := by omega
                      have hlc : l'.length ≤ cw' := W7.2.1
                      have hk0 : (0 : Int) ≤ k := by omega
                      replace hk := Lib.hid hk; replace gI := Lib.hid gI; replace B7 := Lib.hid B7; replace M7 := Lib.hid M7; replace hd7 := Lib.hid hd7; replace W7 := Lib.hid W7; replace hcv := Lib.hid hcv
                      clear hcc
                      go_wp2_with fail
                      first | (go_region_with (first | (go_at_call 22; refine (CT.out _ hgk).mono ?_; rintro e w8 ⟨A8, c8, rfl, R8, B8, M8, G8⟩; have g8 := g_far (gI.out.trans hgk) G8 hwp; obtain ⟨_, _, ee, _, t0⟩ := (hC.out.grown g8 (.inl rfl)).at_ (j := j) (u := .int .i64 z) (by simp [hz1.out]); injection ee with ee; injection ee with e1 e2; subst e1; subst e2; have W8 := (W7.out.grown hgk (.inl rfl)).grown G8 (.inr (B7.out.not_mid W7.out)); have hcv8 := hcv.out w8 W8.rd; have hcT := conv_str w8 23 9 5 Try.underlying23 Try.underlying5 Try.underlying9 A8 k c8 (l'.take k) (by rw [List.length_take]; omega) R8) | fail)) | fail
                      all_goals
                        clear hcv0 hcc0 hcv8 hcT t0
                        have hlk : (l'.drop k).length = l'.length - k := List.length_drop
                        have hI8 : RowI w p most (cutA Aw' cw' k) (cw' - k) (l'.drop k) q' w8 := by
                          refine ⟨g8, hwp, ⟨cutA Ab2 cb2 k, cb2 - k, by rw [hlk]; exact B8, by rw [hlk]; exact M8, fun x hx => ?_⟩, ?_⟩
                          · rw [ablk_cutA] at hx ⊢; exact hd7.out x hx
                          · rw [hlk, bs_drop]; exact W8.cut k hkl
                        replace hI8 := Lib.hid hI8; replace hlk := Lib.hid hlk
                        clear g8 W8 B8 M8 G8 R8
                        by_cases hck : cw' = k
                        · have hck2 : l'.length = k := by omega
                          replace hck2 := Lib.hid hck2
                          subst hck
                          go_wp2_with fail
                          go_meet
                          refine ⟨l'.drop cw', cutA Aw' cw' cw', cw' - cw', ?_, by rw [hlk.out]; omega, hI8.out⟩
                          rw [hlk.out, hck2.out]; simp [cutA]
                        · replace hck : ¬ cw' = k := hck
                          go_wp2_with fail
                          go_meet
                          refine ⟨l'.drop k, cutA Aw' cw' k, cw' - k, ?_, by rw [hlk.out]; omega, hI8.out⟩
                          rw [hlk.out]; simp [cutA, hck, map_add0]
                  · have hjm' : ¬ (j : Int) < m := by omega
                    go_wp2_with fail
                    go_meet
                    exact ⟨l', Aw', cw', rfl, hl', hI'.out⟩
                case rest =>
                  obtain ⟨l2, A2, c2, rfl, hl2, hI2⟩ := hcut
                  obtain ⟨g2, _, ⟨Ab2, cb2, B2, M2, _⟩, W2⟩ := hI2.out
                  have CL := Lib.hid (len_any p l2.length cb2 Ab2 wc (B2.cell 0))
                  have CD := Lib.hid (dropped_any p q' wc (B2.cell 2))
                  replace g2 := Lib.hid g2; replace B2 := Lib.hid B2; replace M2 := Lib.hid M2; replace W2 := Lib.hid W2
                  go_wp2_with (first
                    | (go_at_call 23; refine CL.out.mono ?_; rintro e w' ⟨rfl, rfl⟩)
                    | (go_at_call 24; refine CD.out.mono ?_; rintro e w' ⟨rfl, rfl⟩)
                    | fail)
                  exact ⟨⟨j + 1, q', l2, A2, c2, by omega, by go_num, by omega, rfl, rfl, hl2, by omega, hI2.out⟩, by simp [intOf]; omega⟩
        · have hput' : most - l.length < (s.size : Int) := by omega
          have CP := Lib.hid (put_no p Ab (some ⟨B, 0, none⟩) l.length cb s.size cap most q w3 B3 (by omega) (by omega) (by omega) h2 (by omega) (by omega) hput')
          go_wp2_with fail
          refine CP.out.mono ?_
          rintro e w4 ⟨rfl, B4, G4⟩
          have g4 := g_far g3.out G4 hwp
          have N4 := N3.out.grown G4 (by intro e; injection e with e; omega)
          clear hput
          replace N4 := Lib.hid N4; replace B4 := Lib.hid B4; replace g4 := Lib.hid g4; replace G4 := Lib.hid G4
          clear hcv hcw CP
          go_wp2_with fail
          go_loopw [15] (fun i wk => ∃ k : Nat, k ≤ s.size ∧ i = .int .i64 k ∧ Hid (w4.grownBy wk (some B)) ∧ Hid (NB wk B s.size)) (fun i _ => s.size - (intOf i).toNat)
          case atStart => exact ⟨0, Nat.zero_le _, rfl, World.grownBy.refl _ _, N4.out⟩
          case round =>
            obtain ⟨k, hk, rfl, hg, hN⟩ := hrel
            by_cases hlk : k < s.size
            · obtain ⟨u, hcu⟩ := hN.out.cell hlk
              have hfu := hN.out.free hlk
              go_wp2_with fail
              exact ⟨⟨k + 1, by omega, by go_num, g_set hg.out rfl _, hN.out.set _ _⟩, by simp [intOf]; omega⟩
            · obtain rfl : k = s.size := by omega
              have g5 : w.grownBy wr none := g_far g4.out hg.out hwB
              have B5 := B4.out.grown hg.out (by intro e; injection e with e; omega)
              replace g5 := Lib.hid g5; replace B5 := Lib.hid B5
              clear W3 M3 B3
              go_upto_if 81 with fail
              go_cut [10, 11] (fun wv dv wx => ∃ (q' : Nat) (l' : List UInt8) (Aw' : Option Addr) (cw' : Nat), wv = .slice Aw' l'.length cw' ∧ dv = .int .i64 q' ∧ q' ≤ j + 1 ∧ (l'.length : Int) ≤ most ∧ Hid (RowI w p most Aw' cw' l' q' wx))
              case first =>
                go_wp2_with fail
                go_meet
                have e : ((q + 1 : Nat) : Int) = (q : Int) + 1 := by omega
                refine ⟨q + 1, [], none, 0, rfl, by rw [e], by omega, by simp; omega, g5.out, hwp, ⟨none, 0, by rw [e]; exact B5.out, Mid.nil _ _ _, fun x hx => by cases hx⟩, Mid.nil _ _ _⟩
              case rest =>
                obtain ⟨q', l', Aw', cw', rfl, rfl, hq', hl', hI'⟩ := hcut
                clear g5 B5 hg hN B4 G4 g4 N4 hAB hbB hwB2 g3 hBe R3 N3 G3 hRw hW hM hB hG
                have hl2' : l'.length ≤ 2097152 := by omega
                go_upto_if 96 with fail
                go_cut [10] (fun wv wx => ∃ (l2 : List UInt8) (A2 : Option Addr) (c2 : Nat), wv = .slice A2 l2.length c2 ∧ (l2.length : Int) ≤ most ∧ Hid (RowI w p most A2 c2 l2 q' wx))
                case first =>
                  by_cases hjm : j < m
                  · obtain ⟨z, hz1⟩ : ∃ z, zs[j]? = some z := ⟨zs[j]'(by rw [← hm.out]; exact hjm), List.getElem?_eq_getElem _⟩
                    obtain ⟨z1, z2⟩ := hz.out z (List.mem_of_getElem? hz1)
                    obtain ⟨bc, oc, rfl, _, hcc⟩ := (hC.out.grown hI'.out.g (.inl rfl)).at_ (j := j) (u := .int .i64 z) (by simp [hz1])
                    obtain ⟨k, hk⟩ : ∃ k : Nat, (k : Int) = max 0 (min z l'.length) := ⟨(max 0 (min z l'.length)).toNat, by omega⟩
                    have hkl : k ≤ l'.length := by omega
                    have hjm' : (j : Int) < m := by omega
                    replace hz1 := Lib.hid hz1
                    go_upto_region 27 with fail
                    go_cut [16] (fun sv wx => sv = .int .i64 k ∧ wx = wc)
                    case first =>
                      by_cases h1 : (l'.length : Int) < z
                      · by_cases h2 : 0 < l'.length
                        · have e : (k : Int) = l'.length := by omega
                          replace hk := Lib.hid hk; replace e := Lib.hid e
                          go_wp2_with fail
                          go_meet
                          exact ⟨by rw [e.out], rfl⟩
                        · have e : (k : Int) = 0 := by omega
                          replace hk := Lib.hid hk; replace e := Lib.hid e
                          go_wp2_with fail
                          go_meet
                          exact ⟨by rw [e.out], rfl⟩
                      · by_cases h2 : 0 < z
                        · have e : (k : Int) = z := by omega
                          replace hk := Lib.hid hk; replace e := Lib.hid e
                          go_wp2_with fail
                          go_meet
                          exact ⟨by rw [e.out], rfl⟩
                        · have e : (k : Int) = 0 := by omega
                          replace hk := Lib.hid hk; replace e := Lib.hid e
                          go_wp2_with fail
                          go_meet
                          exact ⟨by rw [e.out], rfl⟩
                    case rest =>
                      obtain ⟨rfl, rfl⟩ := hcut
                      obtain ⟨gI, _, ⟨Ab2, cb2, B7, M7, hd7⟩, W7⟩ := hI'.out
                      have CT := Lib.hid (fun W (hW : wc.grownBy W none) => take_any p w.heap.size Ab2 l'.length cb2 k l' z most q' W (B7.grown hW (by simp)) (M7.grown hW (.inl rfl)) hl2' hk)
                      have hgk : wc.grownBy wc.drew none := g_drew (World.grownBy.refl wc none)
                      have hcv : ∀ W, Rd W Aw' (bs l') → (convert 23 9 (.slice Aw' k cw')).run Try.prog W = .ok (.string (st (l'.take k))) W := fun W hW =>
                        conv_str W 23 9 5 Try.underlying23 Try.underlying5 Try.underlying9 Aw' k cw' (l'.take k) (by rw [List.length_take]; omega) (by rw [bs_take]; exact hW.take k)
                      have hcv0 := hcv wc.drew (W7.rd.grown hgk (.inl rfl))
                      have hcc0 : wc.drew.cell? ⟨bc, oc + j, none⟩ = some (.int .i64 z) := hcc
                      have hkc : k ≤ cw' := Nat.le_trans hkl W7.2.1
                      have hkc' : (k : Int) ≤ cw' := by omega
                      have hlc : l'.length ≤ cw' := W7.2.1
                      have hk0 : (0 : Int) ≤ k := by omega
                      replace hk := Lib.hid hk; replace gI := Lib.hid gI; replace B7 := Lib.hid B7; replace M7 := Lib.hid M7; replace hd7 := Lib.hid hd7; replace W7 := Lib.hid W7; replace hcv := Lib.hid hcv
                      clear hcc
                      go_wp2_with fail
                      first | (go_region_with (first | (go_at_call 22; refine (CT.out _ hgk).mono ?_; rintro e w8 ⟨A8, c8, rfl, R8, B8, M8, G8⟩; have g8 := g_far (gI.out.trans hgk) G8 hwp; obtain ⟨_, _, ee, _, t0⟩ := (hC.out.grown g8 (.inl rfl)).at_ (j := j) (u := .int .i64 z) (by simp [hz1.out]); injection ee with ee; injection ee with e1 e2; subst e1; subst e2; have W8 := (W7.out.grown hgk (.inl rfl)).grown G8 (.inr (B7.out.not_mid W7.out)); have hcv8 := hcv.out w8 W8.rd; have hcT := conv_str w8 23 9 5 Try.underlying23 Try.underlying5 Try.underlying9 A8 k c8 (l'.take k) (by rw [List.length_take]; omega) R8) | fail)) | fail
                      all_goals
                        clear hcv0 hcc0 hcv8 hcT t0
                        have hlk : (l'.drop k).length = l'.length - k := List.length_drop
                        have hI8 : RowI w p most (cutA Aw' cw' k) (cw' - k) (l'.drop k) q' w8 := by
                          refine ⟨g8, hwp, ⟨cutA Ab2 cb2 k, cb2 - k, by rw [hlk]; exact B8, by rw [hlk]; exact M8, fun x hx => ?_⟩, ?_⟩
                          · rw [ablk_cutA] at hx ⊢; exact hd7.out x hx
                          · rw [hlk, bs_drop]; exact W8.cut k hkl
                        replace hI8 := Lib.hid hI8; replace hlk := Lib.hid hlk
                        clear g8 W8 B8 M8 G8 R8
                        by_cases hck : cw' = k
                        · have hck2 : l'.length = k := by omega
                          replace hck2 := Lib.hid hck2
                          subst hck
                          go_wp2_with fail
                          go_meet
                          refine ⟨l'.drop cw', cutA Aw' cw' cw', cw' - cw', ?_, by rw [hlk.out]; omega, hI8.out⟩
                          rw [hlk.out, hck2.out]; simp [cutA]
                        · replace hck : ¬ cw' = k := hck
                          go_wp2_with fail
                          go_meet
                          refine ⟨l'.drop k, cutA Aw' cw' k, cw' - k, ?_, by rw [hlk.out]; omega, hI8.out⟩
                          rw [hlk.out]; simp [cutA, hck, map_add0]
                  · have hjm' : ¬ (j : Int) < m := by omega
                    go_wp2_with fail
                    go_meet
                    exact ⟨l', Aw', cw', rfl, hl', hI'.out⟩
                case rest =>
                  obtain ⟨l2, A2, c2, rfl, hl2, hI2⟩ := hcut
                  obtain ⟨g2, _, ⟨Ab2, cb2, B2, M2, _⟩, W2⟩ := hI2.out
                  have CL := Lib.hid (len_any p l2.length cb2 Ab2 wc (B2.cell 0))
                  have CD := Lib.hid (dropped_any p q' wc (B2.cell 2))
                  replace g2 := Lib.hid g2; replace B2 := Lib.hid B2; replace M2 := Lib.hid M2; replace W2 := Lib.hid W2
                  go_wp2_with (first
                    | (go_at_call 23; refine CL.out.mono ?_; rintro e w' ⟨rfl, rfl⟩)
                    | (go_at_call 24; refine CD.out.mono ?_; rintro e w' ⟨rfl, rfl⟩)
                    | fail)
                  exact ⟨⟨j + 1, q', l2, A2, c2, by omega, by go_num, by omega, rfl, rfl, hl2, by omega, hI2.out⟩, by simp [intOf]; omega⟩
      · have hor : ¬ (j : Int) < n ∨ ¬ (j : Int) < 100 := by omega
        have hG := Lib.hid hI.out.g
        clear hI
        rcases hor with h | h
        · go_wp2_with fail
          go_ret
          exact ⟨rfl, hG.out⟩
        · by_cases h1 : (j : Int) < n
          all_goals
            go_wp2_with fail
            go_ret
            exact ⟨rfl, hG.out⟩
end Go.Proofs.Ytdbjphabmdmjcaa
