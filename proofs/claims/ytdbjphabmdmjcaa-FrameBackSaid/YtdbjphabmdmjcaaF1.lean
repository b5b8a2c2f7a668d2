/- FrameOnly: the walk. -/
import Derived.Test.YtdbjphabmdmjcaaE3
import Derived.Lib.ConvBytes
import Derived.Lib.Strings
namespace Go.Proofs.Ytdbjphabmdmjcaa
open Go.RowKit
set_option linter.unusedSimpArgs false
set_option linter.unusedVariables false

def wires : List Fm → List UInt8
  | [] => []
  | f :: fs => wire f ++ wires fs
theorem wires_append (a b : List Fm) : wires (a ++ b) = wires a ++ wires b := by
  induction a with
  | nil => rfl
  | cons f a ih => simp [wires, ih]
theorem Run.is {L : List UInt8} {fs : List Fm} {rest : List UInt8} {ok : Bool} (h : Run L fs rest ok) : L = wires fs ++ rest ∧ ∀ f ∈ fs, f.right = true ∧ f.enc.length ≤ 16384 := by
  induction h with
  | wait l h => exact ⟨rfl, by intro f hf; cases hf⟩
  | bad l h => exact ⟨rfl, by intro f hf; cases hf⟩
  | take l f r fs rest ok h hr ih =>
    obtain ⟨e, hf, hl⟩ := take_is l f r h
    refine ⟨by rw [e, ih.1]; simp [wires], ?_⟩
    intro g hg
    rcases List.mem_cons.1 hg with rfl | hg
    · exact ⟨hf, hl⟩
    · exact ih.2 g hg
theorem fits_right {f : Fm} (h : f.right = true) (hl : f.enc.length ≤ 16384) : f.Fits := by
  obtain ⟨_, _, _, b2, b3, _⟩ := right_bounds h
  have hp : f.pay.length ≤ 16384 := by simp only [Fm.enc, encB, List.length_cons] at hl; omega
  by_cases h2 : f.k = 2
  · obtain ⟨n1, n2, n3⟩ := b2 h2
    exact ⟨by omega, by omega, fun s hs => by have := longs_false n3 s hs; omega⟩
  · have hn := b3 h2
    have hws : f.ws = [] := List.eq_nil_of_length_eq_zero hn
    refine ⟨by omega, ?_, fun s hs => by rw [hws] at hs; cases hs⟩
    simp only [Fm.pay, h2, if_false] at hp
    omega
theorem FrCells.nth {base : Nat} {w : World} : ∀ {fs : List Fm} {xs : List Value} {i : Nat} {f : Fm}, FrCells base w fs xs → fs[i]? = some f →
    ∃ wa wc da dc, xs[i * 5]? = some (.int .i64 f.k) ∧ xs[i * 5 + 1]? = some (.int .i64 f.a) ∧ xs[i * 5 + 2]? = some (.int .i64 f.b) ∧ xs[i * 5 + 3]? = some (.slice wa f.ws.length wc) ∧ xs[i * 5 + 4]? = some (.slice da f.d.length dc) ∧
      w.ownsRow base 9 1 (.slice wa f.ws.length wc) f.ws.length (f.ws.map .string) ∧ w.ownsRow base 5 1 (.slice da f.d.length dc) f.d.length (bs f.d)
  | [], _, i, f, _, hf => by simp at hf
  | g :: fs, _, 0, f, ⟨wa, wc, da, dc, ys, e, h1, h2, h⟩, hf => by
    simp at hf; subst hf; subst e
    exact ⟨wa, wc, da, dc, rfl, rfl, rfl, rfl, rfl, h1, h2⟩
  | g :: fs, _, i + 1, f, ⟨wa, wc, da, dc, ys, e, h1, h2, h⟩, hf => by
    subst e
    obtain ⟨a, b, c, d, k0, k1, k2, k3, k4, k5⟩ := FrCells.nth (i := i) h (by simpa using hf)
    have e0 : (i + 1) * 5 = i * 5 + 5 := by omega
    exact ⟨a, b, c, d, by rw [e0]; simpa using k0, by rw [e0]; simpa using k1, by rw [e0]; simpa using k2, by rw [e0]; simpa using k3, by rw [e0]; simpa using k4, k5⟩
theorem Rd.own {w : World} {base size n c : Nat} {e : TypeId} {A : Option Addr} {xs : List Value} (h : w.ownsRow base e size (.slice A n c) n xs) : Rd w A xs := by
  obtain ⟨A5, c5, e5, R5, _, _⟩ := Rd.of_own h
  injection e5 with e5 _ e6
  subst e5
  exact R5

theorem sl_take (s : ByteArray) (n : Nat) : sl (s.extract 0 n) = (sl s).take n := by
  unfold sl; rw [Lib.extract_data]; simp
theorem beq_bytes {a b : ByteArray} (h : a = b) : (a.toList == b.toList) = true := by subst h; simp
theorem conv_bytes (W : World) (s : ByteArray) : ∃ cap W', (convert 9 23 (.string s)).run Try.prog W = .ok (.slice (some ⟨W.heap.size, 0, none⟩) s.size cap) W' ∧ Rd W' (some ⟨W.heap.size, 0, none⟩) (bs (sl s)) ∧ W.grownBy W' none := by
  refine ⟨_, _, Lib.run_convert_string_bytes W 9 23 5 s Try.underlying9 Try.underlying23 Try.underlying5, ?_, ?_⟩
  · intro _
    refine ⟨_, _, rfl, by rw [Lib.bytesWorld_size]; omega, fun j u hj => ?_⟩
    have hjl : j < s.size := by
      have := (List.getElem?_eq_some_iff.1 hj).1
      rw [bs_len, sl_len] at this
      exact this
    rw [Nat.zero_add, Lib.bytesWorld_cell W 5 s j hjl]
    have hj2 : j < (sl s).length := by rw [sl_len]; exact hjl
    simp only [bs, List.getElem?_map, List.getElem?_eq_getElem hj2, Option.map_some, Option.some.injEq] at hj
    rw [← hj]
    have h0 : s.data[j]? = some (s.data[j]'hjl) := Array.getElem?_eq_getElem hjl
    simp [b8, sl, h0]
  · exact ⟨rfl, rfl, rfl, by rw [Lib.bytesWorld_size]; omega, fun k hk _ => Lib.bytesWorld_at_old W 5 s k hk⟩

set_option maxRecDepth 100000 in
set_option maxHeartbeats 1000000 in
theorem only_any (s : ByteArray) (w : World) (hs : s.size ≤ 9223372036854775807) : Calls Try.prog 6 #[.string s] w fun e w' => e = .returned (.bool true) ∧ w.grownBy w' none := by
  have CS := Lib.hid (shown_any w)
  by_cases hbig : 100000 < s.size
  · have hbig' : (100000 : Int) < s.size := by omega
    go_enter Try.func6, Try.ntmps6
    go_wp2_with fail
    refine CS.out.mono ?_
    rintro e w1 ⟨rfl, G1⟩
    replace G1 := Lib.hid G1
    go_wp2_with (go_at_call 14; refine (newReader_any w1).mono ?_; rintro e w' ⟨rfl, rfl⟩)
    go_ret
    exact ⟨rfl, g_alloc G1.out _⟩
  · have hbig' : ¬ (100000 : Int) < s.size := by omega
    go_enter Try.func6, Try.ntmps6
    go_wp2_with fail
    refine CS.out.mono ?_
    rintro e w1 ⟨rfl, G1⟩
    replace G1 := Lib.hid G1
    obtain ⟨cap, w2, hcv, R2, G2⟩ := conv_bytes (w1.alloc (.cells #[.slice none 0 0, .bool false] 65)) s
    have hr2 := (RB.new w1 (.slice none 0 0) false).grown G2 (by simp)
    have hsz2 : (w1.alloc (.cells #[.slice none 0 0, .bool false] 65)).heap.size = w1.heap.size + 1 := by simp
    rw [hsz2] at hcv R2
    clear hsz2
    have CF := Lib.hid (feed_any w1.heap.size none (some ⟨w1.heap.size + 1, 0, none⟩) 0 s.size 0 cap [] (sl s) w2 hr2 (Rd.nil _ _) rfl R2 (sl_len s).symm (by omega))
    replace R2 := Lib.hid R2; replace G2 := Lib.hid G2; replace hr2 := Lib.hid hr2
    go_wp2_with (go_at_call 14; refine (newReader_any w1).mono ?_; rintro e w' ⟨rfl, rfl⟩)
    refine CF.out.mono ?_
    rintro e w3 ⟨fs, rest, ok, v, hRun, he, ⟨Av, cv, xs, rfl, O3, C3⟩, G3, hok, hno⟩
    generalize hec : (if ok = true then (0 : Int) else 4) = ec at he
    subst he
    obtain ⟨hL, hfs⟩ := hRun.is
    have hcnt : fs.length ≤ 9223372036854775807 := by
      have h1 : ∀ l : List Fm, l.length ≤ (wires l).length := by
        intro l
        induction l with
        | nil => simp
        | cons f l ih => simp only [wires, wire, List.length_cons, List.length_append]; omega
      have h2 := h1 fs
      have h3 := congrArg List.length hL
      rw [List.nil_append, List.length_append, sl_len] at h3
      omega
    have hsum : (wires fs).length + rest.length = s.size := by
      have h3 := congrArg List.length hL
      rw [List.nil_append, List.length_append, sl_len] at h3
      omega
    have G13 : w.grownBy w3 none := g_far ((g_alloc G1.out _).trans G2.out) G3 G1.out.size
    replace hec := Lib.hid hec; replace hL := Lib.hid hL; replace hfs := Lib.hid hfs; replace O3 := Lib.hid O3; replace C3 := Lib.hid C3; replace hok := Lib.hid hok; replace hno := Lib.hid hno; replace G3 := Lib.hid G3; replace hRun := Lib.hid hRun; replace hsum := Lib.hid hsum; replace G13 := Lib.hid G13
    clear hcv
    go_wp2_with fail
    go_loopw [7, 8] (fun v i wr => ∃ j : Nat, j ≤ fs.length ∧ i = .int .i64 j ∧ Hid (w3.grownBy wr none) ∧ Hid (wr.ownsRow w3.heap.size 5 1 v (wires (fs.take j)).length (bs (wires (fs.take j))))) (fun _ i _ => fs.length - (intOf i).toNat)
    case atStart => exact ⟨0, Nat.zero_le _, rfl, World.grownBy.refl _ _, World.ownsRow_nil _ _ _ _⟩
    case round =>
      obtain ⟨j, hj, rfl, hg, ho⟩ := hrel
      by_cases hlt : j < fs.length
      · obtain ⟨f, hf⟩ : ∃ f, fs[j]? = some f := ⟨fs[j], List.getElem?_eq_getElem hlt⟩
        obtain ⟨wa, wc, da, dc, x0, x1, x2, x3, x4, o1, o2⟩ := C3.out.nth hf
        have RX := (Rd.own O3.out).grown hg.out (.inl rfl)
        obtain ⟨bb, off, rfl, hb, k0⟩ := RX.at_ x0
        obtain ⟨_, _, e, _, k1⟩ := RX.at_ x1
        injection e with e; injection e with e1 e2; subst e1; subst e2
        obtain ⟨_, _, e, _, k2⟩ := RX.at_ x2
        injection e with e; injection e with e1 e2; subst e1; subst e2
        obtain ⟨_, _, e, _, k3⟩ := RX.at_ x3
        injection e with e; injection e with e1 e2; subst e1; subst e2
        obtain ⟨_, _, e, _, k4⟩ := RX.at_ x4
        injection e with e; injection e with e1 e2; subst e1; subst e2
        clear x0 x1 x2 x3 x4
        simp only [← Nat.add_assoc] at k1 k2 k3 k4
        obtain ⟨hr, hle⟩ := hfs.out f (List.mem_of_getElem? hf)
        have hFV : FrV wr (.agg #[.int .i64 f.k, .int .i64 f.a, .int .i64 f.b, .slice wa f.ws.length wc, .slice da f.d.length dc]) f :=
          ⟨wa, wc, da, dc, rfl, (Rd.own o1).grown hg.out (.inl rfl), (Rd.own o2).grown hg.out (.inl rfl)⟩
        have CE := Lib.hid ((Encode_yes f _ wr hFV (fits_right hr hle) hr).mono fun _ _ h => okLen f.enc.length rfl hle h)
        replace hf := Lib.hid hf; replace hr := Lib.hid hr; replace hle := Lib.hid hle
        clear RX o1 o2 hFV
        go_wp2_with fail
        refine CE.out.mono ?_
        rintro e w4 ⟨G4, A4, c4, rfl, R4⟩
        have hbd : (wires (fs.take j)).length + (f.enc.length + 2) ≤ 140737488355328 := by
          have h1 : wires fs = wires (fs.take j) ++ wires (fs.drop j) := by rw [← wires_append, List.take_append_drop]
          have h2 := congrArg List.length h1
          rw [List.length_append] at h2
          have h3 := hsum.out
          have h4 := hle.out
          omega
        have hnx : wires (fs.take (j + 1)) = wires (fs.take j) ++ wire f := by
          rw [List.take_succ_eq_append_getElem hlt, wires_append]
          have : fs[j] = f := by have := hf.out; rw [List.getElem?_eq_getElem hlt] at this; injection this
          rw [this]; simp [wires]
        have ho4 := own_keep ho.out G4
        have hsz4 : w3.heap.size ≤ w4.heap.size := Nat.le_trans hg.out.size G4.size
        replace hnx := Lib.hid hnx; replace R4 := Lib.hid R4; replace G4 := Lib.hid G4; replace ho4 := Lib.hid ho4
        generalize hW : wires (fs.take j) = l at *
        replace hW := Lib.hid hW
        go_wp2_with (first
          | (at_builtin; refine ap5 rfl (.tmp 45) (.tmp 46) rfl w3.heap.size u7 l.length _ rfl ho4.out A4 (f.enc.length + 2) c4 _ rfl (by rw [bs_len]; rfl) R4.out (bs_one _) hbd hsz4 ?_; intro A5 c5 w5 O5 G5 hh5)
          | fail)
        refine ⟨⟨j + 1, by omega, by go_num, g_own (hg.out.trans G4.out) ho4.out (Nat.le_refl _) G5, ?_⟩, by simp [intOf]; omega⟩
        show World.ownsRow _ _ _ _ _ _ _
        have e : (l ++ wire f).length = l.length + (f.enc.length + 2) := by rw [List.length_append]; rfl
        rw [hnx.out, e, bs_append]
        exact O5
      · obtain rfl : j = fs.length := by omega
        have ho1 := ho.out
        rw [List.take_length] at ho1
        obtain ⟨A6, c6, rfl, R6, _, hn6, _⟩ := Rd.of_own ho1
        have hsu := hsum.out
        have hn1 : ¬ (s.size : Int) < ((wires fs).length : Int) := by omega
        have hn2 : decide (s.size < (wires fs).length) = false := by simp; omega
        have hcmp : ((st (wires fs)).toList == (s.extract 0 (wires fs).length).toList) = true := beq_bytes (by
          rw [← st_sl (s.extract 0 (wires fs).length), sl_take]
          have h := hL.out
          rw [List.nil_append] at h
          rw [h, List.take_left])
        have hn3 : ((wires fs).length : Int) ≤ s.size := by omega
        have hcv : ∀ k, (convert 23 9 (.slice A6 (wires fs).length c6)).run Try.prog (wr.drewN k) = .ok (.string (st (wires fs))) (wr.drewN k) := fun k =>
          conv_str (wr.drewN k) 23 9 5 Try.underlying23 Try.underlying5 Try.underlying9 A6 (wires fs).length c6 (wires fs) rfl R6
        replace ho1 := Lib.hid ho1; replace R6 := Lib.hid R6; replace hsu := Lib.hid hsu
        clear ho
        go_wp2_with fail
        go_quiet (fail)
        clear hcv
        have G5 : w.grownBy (wr.drewN nq) none := by
          have g := G13.out.trans hg.out
          exact ⟨g.os, g.tape, g.output, g.size, g.block⟩
        have hgd : w3.grownBy (wr.drewN nq) none := ⟨hg.out.os, hg.out.tape, hg.out.output, hg.out.size, hg.out.block⟩
        replace G5 := Lib.hid G5
        cases ok
        · have B := (hno.out rfl).grown hgd (by simp)
          obtain rfl : 4 = ec := hec.out
          have hP := B.cell 0
          have hP' : (wr.drewN nq).cell? ⟨w1.heap.size, 0, none⟩ = some (.slice none 0 0) := hP
          have CP := Lib.hid (pending_any w1.heap.size 0 0 none (wr.drewN nq) hP')
          clear hP hP' hgd B hec
          generalize wr.drewN nq = W at *
          go_wp2_with (go_at_call 16; refine CP.out.mono ?_; rintro e w' ⟨rfl, rfl⟩)
          go_ret
          exact ⟨rfl, G5.out⟩
        · obtain ⟨Ap, cp, B, _, _, _⟩ := hok.out rfl
          replace B := B.grown hgd (by simp)
          obtain rfl : 0 = ec := hec.out
          have hP := B.cell 0
          have hP' : (wr.drewN nq).cell? ⟨w1.heap.size, 0, none⟩ = some (.slice Ap rest.length cp) := hP
          have CP := Lib.hid (pending_any w1.heap.size rest.length cp Ap (wr.drewN nq) hP')
          have hpe : ((rest.length : Int) == (s.size : Int) - ((wires fs).length : Int)) = true := by
            have := hsu.out
            rw [beq_iff_eq]; omega
          clear hP hP' hgd B hec
          generalize wr.drewN nq = W at *
          go_wp2_with (go_at_call 16; refine CP.out.mono ?_; rintro e w' ⟨rfl, rfl⟩)
          go_ret
          exact ⟨rfl, G5.out⟩
end Go.Proofs.Ytdbjphabmdmjcaa
