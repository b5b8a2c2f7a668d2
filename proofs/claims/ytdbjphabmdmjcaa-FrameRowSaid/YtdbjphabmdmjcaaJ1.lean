/- FrameReads: the walk. -/
import Derived.Test.YtdbjphabmdmjcaaH1
import Derived.Test.YtdbjphabmdmjcaaH4
namespace Go.Proofs.Ytdbjphabmdmjcaa
open Go.RowKit
set_option linter.unusedSimpArgs false
set_option linter.unusedVariables false

/-- Block B is n bytes of the call's own, that may be written. -/
def NB (w : World) (B n : Nat) : Prop := ∃ cs m, w.heap[B]? = some (.cells cs 5 (m, m + 1)) ∧ n ≤ m ∧ cs.size = m
section
variable {w w' : World} {B n : Nat}
theorem NB.cell (h : NB w B n) {j : Nat} (hj : j < n) : ∃ u, w.cell? ⟨B, j, none⟩ = some u := by
  obtain ⟨cs, m, h1, h2, h3⟩ := h
  exact ⟨cs[j]'(by omega), by simp [World.cell?, h1]⟩
theorem NB.free (h : NB w B n) {j : Nat} (hj : j < n) : w.frozen? ⟨B, j, none⟩ = false := by
  obtain ⟨cs, m, h1, h2, h3⟩ := h
  simp [World.frozen?, h1]; omega
theorem NB.lt (h : NB w B n) : B < w.heap.size := by
  obtain ⟨cs, m, h1, h2, h3⟩ := h
  rcases Nat.lt_or_ge B w.heap.size with hlt | hge
  · exact hlt
  · rw [Array.getElem?_eq_none hge] at h1; cases h1
theorem NB.set (h : NB w B n) (j : Nat) (v : Value) : NB (w.setCell ⟨B, j, none⟩ v) B n := by
  obtain ⟨cs, m, h1, h2, h3⟩ := h
  refine ⟨cs.setIfInBounds j v, m, ?_, h2, by simpa using h3⟩
  simp [World.setCell, Array.getElem?_modify, h1]
theorem NB.grown (h : NB w B n) {row : Option Nat} (hg : w.grownBy w' row) (hne : some B ≠ row) : NB w' B n := by
  have hl := h.lt
  obtain ⟨cs, m, h1, h2, h3⟩ := h
  exact ⟨cs, m, (hg.block B hl hne).trans h1, h2, h3⟩
end
theorem conv_new (W : World) (s : ByteArray) : ∃ cap W', (convert 9 23 (.string s)).run Try.prog W = .ok (.slice (some ⟨W.heap.size, 0, none⟩) s.size cap) W' ∧ Rd W' (some ⟨W.heap.size, 0, none⟩) (bs (sl s)) ∧ NB W' W.heap.size s.size ∧ W.grownBy W' none := by
  obtain ⟨cap, W', h1, h2, h3⟩ := conv_bytes W s
  refine ⟨cap, W', h1, h2, ?_, h3⟩
  have e := Lib.run_convert_string_bytes (P := Try.prog) W 9 23 5 s Try.underlying9 Try.underlying23 Try.underlying5
  rw [h1] at e
  injection e with e1 e2
  subst e2
  refine ⟨_, _, Lib.bytesWorld_at_new W 5 s, ?_, rfl⟩
  rcases Nat.eq_zero_or_pos s.size with h0 | h0
  · omega
  · have h := Lib.bytesWorld_cell W 5 s (s.size - 1) (by omega)
    simp only [World.cell?, Lib.bytesWorld_at_new] at h
    have := (Array.getElem?_eq_some_iff.1 (by simpa using h)).1
    omega

/-- What holds at the loop's head. -/
def RI (w : World) (p : Nat) (lv bv : Value) (wr : World) : Prop :=
  w.grownBy wr none ∧ w.heap.size ≤ p ∧ ((∃ l A c, lv = .string l ∧ bv = .bool false ∧ l.size ≤ 200000 ∧ RB wr p (.slice A l.size c) false ∧ Rd wr A (bs (sl l))) ∨ (lv = .string ⟨#[]⟩ ∧ bv = .bool true ∧ RB wr p (.slice none 0 0) true))
theorem sl_app (a b : ByteArray) : sl (a ++ b) = sl a ++ sl b := by simp [sl]

set_option maxRecDepth 100000 in
set_option maxHeartbeats 1000000 in
theorem reads_any (A : Option Addr) (n c : Nat) (ws : List ByteArray) (w : World) (hn : n = ws.length) (hR : Rd w A (ws.map .string)) (hs : ∀ s ∈ ws, s.size ≤ 140737488351232) (hb : n ≤ 140737488351232) :
    Calls Try.prog 4 #[.slice A n c] w fun e w' => e = .returned (.bool true) ∧ w.grownBy w' none := by
  have CS := Lib.hid (shown_any w)
  replace hn := Lib.hid hn; replace hR := Lib.hid hR; replace hs := Lib.hid hs
  go_enter Try.func4, Try.ntmps4
  go_wp2_with fail
  refine CS.out.mono ?_
  rintro e w1 ⟨rfl, G1⟩
  replace G1 := Lib.hid G1
  go_wp2_with (go_at_call 14; refine (newReader_any w1).mono ?_; rintro e w' ⟨rfl, rfl⟩)
  obtain ⟨p, hp⟩ : ∃ p, p = w1.heap.size := ⟨_, rfl⟩
  have hI0 : RI w p (.string ⟨#[]⟩) (.bool false) (w1.alloc (.cells #[.slice none 0 0, .bool false] 65)) :=
    ⟨g_alloc G1.out _, by rw [hp]; exact G1.out.size, .inl ⟨⟨#[]⟩, none, 0, rfl, rfl, by decide, by rw [hp]; exact RB.new w1 _ _, Rd.nil _ _⟩⟩
  replace hI0 := Lib.hid hI0
  rw [← hp]
  replace hp := Lib.hid hp
  generalize w1.alloc (.cells #[.slice none 0 0, .bool false] 65) = w2 at *
  clear CS
  go_wp2_with fail
  go_loopw [5, 6, 7] (fun lv bv i wr => ∃ j : Nat, j ≤ n ∧ i = .int .i64 j ∧ Hid (RI w p lv bv wr)) (fun _ _ i _ => n - (intOf i).toNat)
  case atStart => exact ⟨0, Nat.zero_le _, rfl, hI0.out⟩
  case round =>
    obtain ⟨j, hj, rfl, hI⟩ := hrel
    by_cases hlt : j < n ∧ j < 100
    · obtain ⟨hlt, h100⟩ := hlt
      have h100' : (j : Int) < 100 := by omega
      obtain ⟨s, hs1⟩ : ∃ s, ws[j]? = some s := ⟨ws[j]'(by rw [← hn.out]; exact hlt), List.getElem?_eq_getElem _⟩
      have hsz := hs.out s (List.mem_of_getElem? hs1)
      obtain ⟨hG, hwp, ⟨l, Al, cl, rfl, rfl, hl, hB, hRl⟩ | ⟨rfl, rfl, hB⟩⟩ := hI.out
      · have hRw := hR.out.grown hG (.inl rfl)
        obtain ⟨bw, ow, rfl, hbw, hcw⟩ := hRw.at_ (j := j) (u := .string s) (by simp [hs1])
        replace hs1 := Lib.hid hs1; replace hG := Lib.hid hG; replace hB := Lib.hid hB; replace hRl := Lib.hid hRl; replace hRw := Lib.hid hRw
        clear hI hbw
        by_cases hbig : 200000 < l.size + s.size
        · have hbig' : (200000 : Int) < (l.size : Int) + s.size := by omega
          go_wp2_with fail
          go_ret
          exact ⟨rfl, hG.out⟩
        · have hbig' : ¬ (200000 : Int) < (l.size : Int) + s.size := by omega
          obtain ⟨cap, w3, hcv, R3, N3, G3⟩ := conv_new wr s
          have B3 := hB.out.grown G3 (by simp)
          have CF := Lib.hid (feed_any p Al (some ⟨wr.heap.size, 0, none⟩) l.size s.size cl cap (sl l) (sl s) w3 B3 (hRl.out.grown G3 (.inl rfl)) (sl_len l).symm R3 (sl_len s).symm (by omega))
          replace R3 := Lib.hid R3; replace N3 := Lib.hid N3; replace G3 := Lib.hid G3; replace B3 := Lib.hid B3
          go_wp2_with fail
          refine CF.out.mono ?_
          rintro e w4 ⟨fs, rest, ok, v, hRun, he, ⟨Av, cv, xs, rfl, O4, C4⟩, G4, hok, hno⟩
          generalize hec : (if ok = true then (0 : Int) else 4) = ec at he
          subst he
          obtain ⟨B, hBe⟩ : ∃ B, B = wr.heap.size := ⟨_, rfl⟩
          have hpB : p < B := by rw [hBe]; exact hB.out.lt
          have N4 := N3.out.grown G4 (by rw [← hBe]; intro e; injection e with e; omega)
          have hB3 := N3.out.lt
          have g4 : w.grownBy w4 none := g_far (hG.out.trans G3.out) G4 hwp
          rw [← hBe] at N4 hB3 ⊢
          have F4 : FrsV w3.heap.size w4 (.slice Av fs.length cv) fs := ⟨Av, cv, xs, rfl, O4, C4⟩
          have hwB : w.heap.size ≤ B := by rw [hBe]; exact hG.out.size
          generalize w3.heap.size = base at *
          clear CF R3 N3 G3 B3 hB hRl hRw G4 O4 C4 hcv hcw hBe
          replace hRun := Lib.hid hRun; replace hok := Lib.hid hok; replace hno := Lib.hid hno; replace hec := Lib.hid hec; replace N4 := Lib.hid N4; replace g4 := Lib.hid g4; replace F4 := Lib.hid F4
          clear hG
          go_wp2_with fail
          go_loopw [11] (fun i wk => ∃ k : Nat, k ≤ s.size ∧ i = .int .i64 k ∧ Hid (w4.grownBy wk (some B)) ∧ Hid (NB wk B s.size)) (fun i _ => s.size - (intOf i).toNat)
          case atStart => exact ⟨0, Nat.zero_le _, rfl, World.grownBy.refl _ _, N4.out⟩
          case round =>
            obtain ⟨k, hk, rfl, hg, hN⟩ := hrel
            by_cases hlk : k < s.size
            · obtain ⟨u, hcu⟩ := hN.out.cell hlk
              have hfu := hN.out.free hlk
              go_wp2_with fail
              exact ⟨⟨k + 1, by omega, by go_num, g_set hg.out rfl _, hN.out.set _ _⟩, by simp [intOf]; omega⟩
            · obtain rfl : k = s.size := by omega
              have g5 : w.grownBy wr none := g_far g4.out hg.out hwB
              have hcw := hR.out.grown g5 (.inl rfl)
              obtain ⟨_, _, e1, _, hcw⟩ := hcw.at_ (j := j) (u := .string s) (by simp [hs1.out])
              injection e1 with e1; injection e1 with e1 e2; subst e1; subst e2
              have F5 := F4.out.but hg.out hB3
              obtain ⟨t, ht⟩ : ∃ t, l ++ s = t := ⟨_, rfl⟩
              have htz : t.size = l.size + s.size := by rw [← ht]; simp
              have hts : t.size ≤ 200000 := by omega
              have htl : sl t = sl l ++ sl s := by rw [← ht, sl_app]
              have hst : ¬ (9223372036854775807 < l.size + s.size) := by omega
              have CR := Lib.hid (read_any t wr hts)
              replace htz := Lib.hid htz; replace htl := Lib.hid htl; replace g5 := Lib.hid g5; replace F5 := Lib.hid F5; replace hg := Lib.hid hg.out
              clear g4 F4 N4
              go_wp2_with fail
              refine CR.out.mono ?_
              rintro e w6 ⟨gs, rest', ok', v', hRun', hrl, rfl, ⟨Am, cm, ms, rfl, O6, C6⟩, G6⟩
              obtain ⟨rfl, rfl, rfl⟩ := hRun.out.det (htl.out ▸ hRun')
              obtain ⟨N, hNe⟩ : ∃ N, t.size - rest.length = N := ⟨_, rfl⟩
              have hN1 : N ≤ t.size := by omega
              have F6 := F5.out.keep G6
              have g6 := g5.out.trans G6
              have hok6 : ok = true → ∃ A c, RB w6 p (.slice A rest.length c) false ∧ Rd w6 A (bs rest) := fun h => by
                obtain ⟨A, c, b1, b2, _, _, b5⟩ := hok.out h
                refine ⟨A, c, (b1.grown hg.out (by intro e; injection e with e; omega)).grown G6 (by simp), (b2.grown hg.out (.inr fun e => ?_)).grown G6 (.inl rfl)⟩
                have := b5 B e; omega
              have hno6 : ok = false → RB w6 p (.slice none 0 0) true := fun h => ((hno.out h).grown hg.out (by intro e; injection e with e; omega)).grown G6 (by simp)
              have hfs := hRun'.is.2
              have hu1 : (t.extract N t.size).size = rest.length := by rw [← sl_len, sl_drop, List.length_drop, sl_len]; omega
              have hu2 : sl (t.extract N t.size) = rest := by
                have h1 := hRun'.is.1
                have h2 := congrArg List.length h1
                rw [sl_len, List.length_append] at h2
                rw [sl_drop, h1, List.drop_append_of_le_length (by omega), List.drop_of_length_le (by omega)]; simp
              rw [hNe]
              have hlen : fs.length ≤ 200000 := by
                have h1 : ∀ l : List Fm, l.length ≤ (wires l).length := by
                  intro l
                  induction l with
                  | nil => simp
                  | cons f l ih => simp only [wires, wire, List.length_cons, List.length_append]; omega
                have h2 := congrArg List.length hRun'.is.1
                have h3 := h1 fs
                rw [sl_len, List.length_append] at h2
                omega
              replace hNe := Lib.hid hNe; replace F6 := Lib.hid F6; replace g6 := Lib.hid g6; replace hok6 := Lib.hid hok6; replace hno6 := Lib.hid hno6; replace hfs := Lib.hid hfs; replace hu1 := Lib.hid hu1; replace hu2 := Lib.hid hu2; replace O6 := Lib.hid O6; replace C6 := Lib.hid C6; replace hrl := Lib.hid hrl
              clear hcw ht hst CR hRun hRun' hok hno F5 g5 hg hN G6
              cases ok
              · obtain rfl : 4 = ec := hec.out
                clear hec
                go_wp2_with fail
                go_loopw [15] (fun i wk => ∃ k : Nat, k ≤ fs.length ∧ i = .int .i64 k ∧ Hid (w6.grownBy wk none)) (fun i _ => fs.length - (intOf i).toNat)
                case atStart => exact ⟨0, Nat.zero_le _, rfl, World.grownBy.refl _ _⟩
                case round =>
                  obtain ⟨k, hk6, rfl, hg⟩ := hrel
                  by_cases hlk6 : k < fs.length
                  · obtain ⟨f, hf⟩ : ∃ f, fs[k]? = some f := ⟨fs[k], List.getElem?_eq_getElem hlk6⟩
                    obtain ⟨A7, c7, xs7, e7, O7, C7⟩ := F6.out
                    injection e7 with e7 _ e8
                    subst e7; subst e8
                    obtain ⟨wa, wc, da, dc, x0, x1, x2, x3, x4, o1, o2⟩ := C7.nth hf
                    obtain ⟨wb, wd, y0, y1, y2, y3, y4, o3⟩ := RfCells.nth C6.out hf
                    have hgk : w6.grownBy wr.drew none := g_drew hg.out
                    have RX := (Rd.own O7).grown hgk (.inl rfl)
                    have RY := (Rd.own O6.out).grown hgk (.inl rfl)
                    obtain ⟨b1, o1', rfl, hb1, k0⟩ := RX.at_ x0
                    obtain ⟨_, _, e, _, k1⟩ := RX.at_ x1
                    injection e with e; injection e with e1 e2; subst e1; subst e2
                    obtain ⟨_, _, e, _, k2⟩ := RX.at_ x2
                    injection e with e; injection e with e1 e2; subst e1; subst e2
                    obtain ⟨_, _, e, _, k3⟩ := RX.at_ x3
                    injection e with e; injection e with e1 e2; subst e1; subst e2
                    obtain ⟨_, _, e, _, k4⟩ := RX.at_ x4
                    injection e with e; injection e with e1 e2; subst e1; subst e2
                    obtain ⟨b2, o2', rfl, hb2, m0⟩ := RY.at_ y0
                    obtain ⟨_, _, e, _, m1⟩ := RY.at_ y1
                    injection e with e; injection e with e1 e2; subst e1; subst e2
                    obtain ⟨_, _, e, _, m2⟩ := RY.at_ y2
                    injection e with e; injection e with e1 e2; subst e1; subst e2
                    obtain ⟨_, _, e, _, m3⟩ := RY.at_ y3
                    injection e with e; injection e with e1 e2; subst e1; subst e2
                    obtain ⟨_, _, e, _, m4⟩ := RY.at_ y4
                    injection e with e; injection e with e1 e2; subst e1; subst e2
                    clear x0 x1 x2 x3 x4 y0 y1 y2 y3 y4 hb1 hb2 RX RY
                    simp only [← Nat.add_assoc] at k1 k2 k3 k4 m1 m2 m3 m4
                    obtain ⟨hr, hle⟩ := hfs.out f (List.mem_of_getElem? hf)
                    have hwn : f.ws.length ≤ 140737488355328 := by have := (fits_right hr hle).ws; omega
                    have CS8 := Lib.hid (fun W (hW : w6.grownBy W none) => same_any f wa da wb wc dc wd W ((Rd.own o1).grown hW (.inl rfl)) ((Rd.own o2).grown hW (.inl rfl)) ((Rd.own o3).grown hW (.inl rfl)) hwn)
                    have i1 : (k : Int) < fs.length := by omega
                    have i0 : (0 : Int) ≤ k := by omega
                    replace hf := Lib.hid hf; replace hr := Lib.hid hr; replace hle := Lib.hid hle; replace O7 := Lib.hid O7; replace C7 := Lib.hid C7
                    clear o1 o2 o3
                    go_wp2_with fail
                    go_region_held3 (fun w' => w'.cell? ⟨b1, o1' + k * 5, none⟩ = some (.int .i64 f.k) ∧ w'.cell? ⟨b1, o1' + k * 5 + 1, none⟩ = some (.int .i64 f.a) ∧ w'.cell? ⟨b1, o1' + k * 5 + 2, none⟩ = some (.int .i64 f.b) ∧ w'.cell? ⟨b1, o1' + k * 5 + 3, none⟩ = some (.slice wa f.ws.length wc) ∧ w'.cell? ⟨b1, o1' + k * 5 + 4, none⟩ = some (.slice da f.d.length dc) ∧
                        w'.cell? ⟨b2, o2' + k * 5, none⟩ = some (.int .i64 f.k) ∧ w'.cell? ⟨b2, o2' + k * 5 + 1, none⟩ = some (.int .i64 f.a) ∧ w'.cell? ⟨b2, o2' + k * 5 + 2, none⟩ = some (.int .i64 f.b) ∧ w'.cell? ⟨b2, o2' + k * 5 + 3, none⟩ = some (.slice wb f.ws.length wd) ∧ w'.cell? ⟨b2, o2' + k * 5 + 4, none⟩ = some (.string (st f.d)))
                      (first | (go_keep; done) | exact ⟨t0, t1, t2, t3, t4, t5, t6, t7, t8, t9⟩ | fail)
                      ((first
                        | (go_at_call 18; refine (CS8.out _ hgk).mono ?_; rintro e w8 ⟨rfl, G8⟩; have t0 := G8.cell k0 (by simp); have t1 := G8.cell k1 (by simp); have t2 := G8.cell k2 (by simp); have t3 := G8.cell k3 (by simp); have t4 := G8.cell k4 (by simp); have t5 := G8.cell m0 (by simp); have t6 := G8.cell m1 (by simp); have t7 := G8.cell m2 (by simp); have t8 := G8.cell m3 (by simp); have t9 := G8.cell m4 (by simp))
                        | fail))
                    clear t0 t1 t2 t3 t4 t5 t6 t7 t8 t9 k0 k1 k2 k3 k4 m0 m1 m2 m3 m4
                    go_wp2_with fail
                    exact ⟨⟨k + 1, by omega, by go_num, hgk.trans G8⟩, by simp [intOf]; omega⟩
                  · obtain rfl : k = fs.length := by omega
                    have BN := (hno6.out (by trivial)).grown hg.out (by simp)
                    have g7 := g6.out.trans hg.out
                    have hI7 : RI w p (.string ⟨#[]⟩) (.bool true) wr := ⟨g7, hwp, .inr ⟨rfl, rfl, BN⟩⟩
                    have hP' : wr.cell? ⟨p, 0, none⟩ = some (.slice none 0 0) := BN.cell 0
                    have CP := Lib.hid (pending_any p 0 0 none wr hP')
                    replace hI7 := Lib.hid hI7; replace BN := Lib.hid BN; replace g7 := Lib.hid g7
                    clear hP'
                    go_wp2_with (go_at_call 16; refine CP.out.mono ?_; rintro e w' ⟨rfl, rfl⟩)
                    exact ⟨⟨j + 1, by omega, by go_num, hI7.out⟩, by simp [intOf]; omega⟩
              · obtain rfl : 0 = ec := hec.out
                clear hec
                go_wp2_with fail
                go_loopw [15] (fun i wk => ∃ k : Nat, k ≤ fs.length ∧ i = .int .i64 k ∧ Hid (w6.grownBy wk none)) (fun i _ => fs.length - (intOf i).toNat)
                case atStart => exact ⟨0, Nat.zero_le _, rfl, World.grownBy.refl _ _⟩
                case round =>
                  obtain ⟨k, hk6, rfl, hg⟩ := hrel
                  by_cases hlk6 : k < fs.length
                  · obtain ⟨f, hf⟩ : ∃ f, fs[k]? = some f := ⟨fs[k], List.getElem?_eq_getElem hlk6⟩
                    obtain ⟨A7, c7, xs7, e7, O7, C7⟩ := F6.out
                    injection e7 with e7 _ e8
                    subst e7; subst e8
                    obtain ⟨wa, wc, da, dc, x0, x1, x2, x3, x4, o1, o2⟩ := C7.nth hf
                    obtain ⟨wb, wd, y0, y1, y2, y3, y4, o3⟩ := RfCells.nth C6.out hf
                    have hgk : w6.grownBy wr.drew none := g_drew hg.out
                    have RX := (Rd.own O7).grown hgk (.inl rfl)
                    have RY := (Rd.own O6.out).grown hgk (.inl rfl)
                    obtain ⟨b1, o1', rfl, hb1, k0⟩ := RX.at_ x0
                    obtain ⟨_, _, e, _, k1⟩ := RX.at_ x1
                    injection e with e; injection e with e1 e2; subst e1; subst e2
                    obtain ⟨_, _, e, _, k2⟩ := RX.at_ x2
                    injection e with e; injection e with e1 e2; subst e1; subst e2
                    obtain ⟨_, _, e, _, k3⟩ := RX.at_ x3
                    injection e with e; injection e with e1 e2; subst e1; subst e2
                    obtain ⟨_, _, e, _, k4⟩ := RX.at_ x4
                    injection e with e; injection e with e1 e2; subst e1; subst e2
                    obtain ⟨b2, o2', rfl, hb2, m0⟩ := RY.at_ y0
                    obtain ⟨_, _, e, _, m1⟩ := RY.at_ y1
                    injection e with e; injection e with e1 e2; subst e1; subst e2
                    obtain ⟨_, _, e, _, m2⟩ := RY.at_ y2
                    injection e with e; injection e with e1 e2; subst e1; subst e2
                    obtain ⟨_, _, e, _, m3⟩ := RY.at_ y3
                    injection e with e; injection e with e1 e2; subst e1; subst e2
                    obtain ⟨_, _, e, _, m4⟩ := RY.at_ y4
                    injection e with e; injection e with e1 e2; subst e1; subst e2
                    clear x0 x1 x2 x3 x4 y0 y1 y2 y3 y4 hb1 hb2 RX RY
                    simp only [← Nat.add_assoc] at k1 k2 k3 k4 m1 m2 m3 m4
                    obtain ⟨hr, hle⟩ := hfs.out f (List.mem_of_getElem? hf)
                    have hwn : f.ws.length ≤ 140737488355328 := by have := (fits_right hr hle).ws; omega
                    have CS8 := Lib.hid (fun W (hW : w6.grownBy W none) => same_any f wa da wb wc dc wd W ((Rd.own o1).grown hW (.inl rfl)) ((Rd.own o2).grown hW (.inl rfl)) ((Rd.own o3).grown hW (.inl rfl)) hwn)
                    have i1 : (k : Int) < fs.length := by omega
                    have i0 : (0 : Int) ≤ k := by omega
                    replace hf := Lib.hid hf; replace hr := Lib.hid hr; replace hle := Lib.hid hle; replace O7 := Lib.hid O7; replace C7 := Lib.hid C7
                    clear o1 o2 o3
                    go_wp2_with fail
                    go_region_held3 (fun w' => w'.cell? ⟨b1, o1' + k * 5, none⟩ = some (.int .i64 f.k) ∧ w'.cell? ⟨b1, o1' + k * 5 + 1, none⟩ = some (.int .i64 f.a) ∧ w'.cell? ⟨b1, o1' + k * 5 + 2, none⟩ = some (.int .i64 f.b) ∧ w'.cell? ⟨b1, o1' + k * 5 + 3, none⟩ = some (.slice wa f.ws.length wc) ∧ w'.cell? ⟨b1, o1' + k * 5 + 4, none⟩ = some (.slice da f.d.length dc) ∧
                        w'.cell? ⟨b2, o2' + k * 5, none⟩ = some (.int .i64 f.k) ∧ w'.cell? ⟨b2, o2' + k * 5 + 1, none⟩ = some (.int .i64 f.a) ∧ w'.cell? ⟨b2, o2' + k * 5 + 2, none⟩ = some (.int .i64 f.b) ∧ w'.cell? ⟨b2, o2' + k * 5 + 3, none⟩ = some (.slice wb f.ws.length wd) ∧ w'.cell? ⟨b2, o2' + k * 5 + 4, none⟩ = some (.string (st f.d)))
                      (first | (go_keep; done) | exact ⟨t0, t1, t2, t3, t4, t5, t6, t7, t8, t9⟩ | fail)
                      ((first
                        | (go_at_call 18; refine (CS8.out _ hgk).mono ?_; rintro e w8 ⟨rfl, G8⟩; have t0 := G8.cell k0 (by simp); have t1 := G8.cell k1 (by simp); have t2 := G8.cell k2 (by simp); have t3 := G8.cell k3 (by simp); have t4 := G8.cell k4 (by simp); have t5 := G8.cell m0 (by simp); have t6 := G8.cell m1 (by simp); have t7 := G8.cell m2 (by simp); have t8 := G8.cell m3 (by simp); have t9 := G8.cell m4 (by simp))
                        | fail))
                    clear t0 t1 t2 t3 t4 t5 t6 t7 t8 t9 k0 k1 k2 k3 k4 m0 m1 m2 m3 m4
                    go_wp2_with fail
                    exact ⟨⟨k + 1, by omega, by go_num, hgk.trans G8⟩, by simp [intOf]; omega⟩
                  · obtain rfl : k = fs.length := by omega
                    obtain ⟨Ar, cr, BN, RN⟩ := hok6.out (by trivial)
                    replace BN := BN.grown hg.out (by simp); replace RN := RN.grown hg.out (.inl rfl)
                    have g7 := g6.out.trans hg.out
                    obtain ⟨x, hx⟩ : ∃ x, t.extract N t.size = x := ⟨_, rfl⟩
                    have hx1 := hu1.out; have hx2 := hu2.out
                    rw [hx] at hx1 hx2
                    rw [← hx1] at BN
                    have hI7 : RI w p (.string x) (.bool false) wr := ⟨g7, hwp, .inl ⟨x, Ar, cr, rfl, rfl, by rw [hx1]; have := hrl.out; omega, BN, by rw [hx2]; exact RN⟩⟩
                    have hP' : wr.cell? ⟨p, 0, none⟩ = some (.slice Ar x.size cr) := BN.cell 0
                    have CP := Lib.hid (pending_any p x.size cr Ar wr hP')
                    have hN0 : (0 : Int) ≤ N := by omega
                    have hN2 : (N : Int) ≤ t.size := by omega
                    replace hI7 := Lib.hid hI7; replace BN := Lib.hid BN; replace RN := Lib.hid RN; replace g7 := Lib.hid g7; replace hx1 := Lib.hid hx1; replace hx2 := Lib.hid hx2
                    clear hP'
                    go_wp2_with (go_at_call 16; refine CP.out.mono ?_; rintro e w' ⟨rfl, rfl⟩)
                    exact ⟨⟨j + 1, by omega, by go_num, hI7.out⟩, by simp [intOf]; omega⟩
      · have hRw := hR.out.grown hG (.inl rfl)
        obtain ⟨bw, ow, rfl, hbw, hcw⟩ := hRw.at_ (j := j) (u := .string s) (by simp [hs1])
        replace hs1 := Lib.hid hs1; replace hG := Lib.hid hG; replace hB := Lib.hid hB; replace hRw := Lib.hid hRw
        clear hI hbw
        by_cases hbig : 200000 < s.size
        · have hbig' : (200000 : Int) < s.size := by omega
          go_wp2_with fail
          go_ret
          exact ⟨rfl, hG.out⟩
        · have hbig' : ¬ (200000 : Int) < s.size := by omega
          obtain ⟨cap, w3, hcv, R3, N3, G3⟩ := conv_new wr s
          have B3 := hB.out.grown G3 (by simp)
          have CF := Lib.hid (feed_broken p (.slice none 0 0) (.slice (some ⟨wr.heap.size, 0, none⟩) s.size cap) w3 B3)
          obtain ⟨B, hBe⟩ : ∃ B, B = wr.heap.size := ⟨_, rfl⟩
          have hpB : p < B := by rw [hBe]; exact hB.out.lt
          have g4 := hG.out.trans G3
          have hwB : w.heap.size ≤ B := by rw [hBe]; exact hG.out.size
          rw [← hBe] at N3 CF hcv
          replace R3 := Lib.hid R3; replace N3 := Lib.hid N3; replace G3 := Lib.hid G3; replace B3 := Lib.hid B3; replace g4 := Lib.hid g4; replace hBe := Lib.hid hBe
          go_wp2_with fail
          refine CF.out.mono ?_
          rintro e w4 ⟨rfl, rfl⟩
          clear hcv hcw CF
          go_wp2_with fail
          go_loopw [11] (fun i wk => ∃ k : Nat, k ≤ s.size ∧ i = .int .i64 k ∧ Hid (w3.grownBy wk (some B)) ∧ Hid (NB wk B s.size)) (fun i _ => s.size - (intOf i).toNat)
          case atStart => exact ⟨0, Nat.zero_le _, rfl, World.grownBy.refl _ _, N3.out⟩
          case round =>
            obtain ⟨k, hk, rfl, hg, hN⟩ := hrel
            by_cases hlk : k < s.size
            · obtain ⟨u, hcu⟩ := hN.out.cell hlk
              have hfu := hN.out.free hlk
              go_wp2_with fail
              exact ⟨⟨k + 1, by omega, by go_num, g_set hg.out rfl _, hN.out.set _ _⟩, by simp [intOf]; omega⟩
            · obtain rfl : k = s.size := by omega
              have BN := B3.out.grown hg.out (by intro e; injection e with e; omega)
              have g7 : w.grownBy wr none := g_far g4.out hg.out hwB
              have hI7 : RI w p (.string ⟨#[]⟩) (.bool true) wr := ⟨g7, hwp, .inr ⟨rfl, rfl, BN⟩⟩
              have hP' : wr.cell? ⟨p, 0, none⟩ = some (.slice none 0 0) := BN.cell 0
              have CP := Lib.hid (pending_any p 0 0 none wr hP')
              replace hI7 := Lib.hid hI7; replace BN := Lib.hid BN; replace g7 := Lib.hid g7
              clear hP'
              go_wp2_with (go_at_call 16; refine CP.out.mono ?_; rintro e w' ⟨rfl, rfl⟩)
              exact ⟨⟨j + 1, by omega, by go_num, hI7.out⟩, by simp [intOf]; omega⟩
    · have hor : ¬ (j : Int) < n ∨ ¬ (j : Int) < 100 := by omega
      obtain ⟨hG, _⟩ := hI.out
      replace hG := Lib.hid hG
      clear hI
      rcases hor with h | h
      · go_wp2_with fail
        go_ret
        exact ⟨rfl, hG.out⟩
      · by_cases h1 : (j : Int) < n
        all_goals
          go_wp2_with fail
          go_ret
          exact ⟨rfl, hG.out⟩
end Go.Proofs.Ytdbjphabmdmjcaa
