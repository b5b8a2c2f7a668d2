/- Arguments opened: a frame by value; a slice of frames. -/
import Derived.Test.YtdbjphabmdmjcaaOp
import Derived.Test.YtdbjphabmdmjcaaC8
namespace Go.Proofs.Ytdbjphabmdmjcaa
open Go.RowKit Go.ChangeShapes Go.WideShapes Go.Joins Go.Deep
set_option linter.unusedSimpArgs false
set_option linter.unusedVariables false

section
variable {H : Type} {enc : TypeId × Value → H} {w : World} {base : Nat} {spare : Nat → Bool} {held : Bool}
theorem frame_of {n : Nat} {v0 v1 v2 v3 v4 : Value} {y0 y1 y2 y3 y4 : DataW H × List MemPlace} (h0 : DataW.trod enc Try.prog w base spare held n 3 [v0] = some y0) (h1 : DataW.trod enc Try.prog w base spare held n 3 [v1] = some y1)
    (h2 : DataW.trod enc Try.prog w base spare held n 3 [v2] = some y2) (h3 : DataW.trod enc Try.prog w base spare held n 22 [v3] = some y3) (h4 : DataW.trod enc Try.prog w base spare held n 23 [v4] = some y4)
    (w3 : Wt Try.prog 22 y3.1) (w4 : Wt Try.prog 23 y4.1) :
    ∃ (f : Fm) (wa da : Option Addr) (wc dc : Nat), v0 = .int .i64 f.k ∧ v1 = .int .i64 f.a ∧ v2 = .int .i64 f.b ∧ v3 = .slice wa f.ws.length wc ∧ v4 = .slice da f.d.length dc ∧ Rd w wa (f.ws.map .string) ∧ Rd w da (bs f.d) ∧ f.Fits := by
  obtain ⟨k, rfl, _⟩ := int_form Try.underlying3 h0
  obtain ⟨a, rfl, _⟩ := int_form Try.underlying3 h1
  obtain ⟨b, rfl, _⟩ := int_form Try.underlying3 h2
  obtain ⟨wa, n3, wc, rfl⟩ := slice_form Try.underlying22 h3
  obtain ⟨da, n4, dc, rfl⟩ := slice_form Try.underlying23 h4
  obtain ⟨ws, rfl, r3, s3, l3⟩ := strings_in Try.underlying22 Try.underlying9 (by kernel_rfl) (by kernel_rfl) h3 w3
  obtain ⟨d, rfl, r4, l4, _⟩ := bytes_in Try.underlying23 Try.underlying5 (by kernel_rfl) (by kernel_rfl) h4 w4
  exact ⟨⟨k, a, b, ws, d⟩, wa, da, wc, dc, rfl, rfl, rfl, rfl, rfl, r3, r4, by show ws.length ≤ _; omega, l4, s3⟩
theorem one25 : oneCellFields Try.prog #[{ name := "Kind", type := 3, offset := 0, embedded := false, tag := "", pkgPath := "", byteOffset := 0 }, { name := "A", type := 3, offset := 1, embedded := false, tag := "", pkgPath := "", byteOffset := 8 },
        { name := "B", type := 3, offset := 2, embedded := false, tag := "", pkgPath := "", byteOffset := 16 }, { name := "Words", type := 22, offset := 3, embedded := false, tag := "", pkgPath := "", byteOffset := 24 },
        { name := "Data", type := 23, offset := 4, embedded := false, tag := "", pkgPath := "", byteOffset := 48 }] = true := by kernel_rfl
theorem frame_in {r : Reach} {b0 : Nat} {v : Value} {d : DataW H} {p : List MemPlace} (hv : Value.okWide Try.prog w r b0 25 v) (h : DataW.Trod enc Try.prog w base spare held 25 v d p) (hw : Wt Try.prog 25 d) :
    ∃ (f : Fm) (wa da : Option Addr) (wc dc : Nat), v = .agg #[.int .i64 f.k, .int .i64 f.a, .int .i64 f.b, .slice wa f.ws.length wc, .slice da f.d.length dc] ∧ Rd w wa (f.ws.map .string) ∧ Rd w da (bs f.d) ∧ f.Fits := by
  obtain ⟨v0, v1, v2, v3, v4, y0, y1, y2, y3, y4, n, rfl, rfl, _, h0, h1, h2, h3, h4⟩ := open_agg5 Try.underlying25 one25 (by kernel_rfl) hv h
  obtain ⟨f, wa, da, wc, dc, rfl, rfl, rfl, rfl, rfl, r1, r2, hf⟩ := frame_of h0 h1 h2 h3 h4 (wt_part Try.underlying25 hw (j := 3) rfl rfl) (wt_part Try.underlying25 hw (j := 4) rfl rfl)
  exact ⟨f, wa, da, wc, dc, rfl, r1, r2, hf⟩
/-- The frames of a slice, each with what it leads to. -/
def FrsIn (w : World) (A : Option Addr) (fs : List Fm) : Prop := ∀ i f, fs[i]? = some f → ∃ b off wa da wc dc, A = some ⟨b, off, none⟩ ∧ w.cell? ⟨b, off + i * 5, none⟩ = some (.int .i64 f.k) ∧ w.cell? ⟨b, off + i * 5 + 1, none⟩ = some (.int .i64 f.a) ∧ w.cell? ⟨b, off + i * 5 + 2, none⟩ = some (.int .i64 f.b) ∧
  w.cell? ⟨b, off + i * 5 + 3, none⟩ = some (.slice wa f.ws.length wc) ∧ w.cell? ⟨b, off + i * 5 + 4, none⟩ = some (.slice da f.d.length dc) ∧ Rd w wa (f.ws.map .string) ∧ Rd w da (bs f.d) ∧ f.Fits
theorem FrsIn.grown {w w' : World} {A : Option Addr} {fs : List Fm} (h : FrsIn w A fs) (hg : w.grownBy w' none) : FrsIn w' A fs := fun i f hf => by
  obtain ⟨b, off, wa, da, wc, dc, e, h0, h1, h2, h3, h4, r1, r2, hF⟩ := h i f hf
  exact ⟨b, off, wa, da, wc, dc, e, hg.cell h0 (by simp), hg.cell h1 (by simp), hg.cell h2 (by simp), hg.cell h3 (by simp), hg.cell h4 (by simp), r1.grown hg (.inl rfl), r2.grown hg (.inl rfl), hF⟩
theorem frames_in {fuel : Nat} {A : Option Addr} {n c : Nat} {x : DataW H × List MemPlace} (h : DataW.trod enc Try.prog w base spare held fuel 39 [.slice A n c] = some x) (hw : Wt Try.prog 39 x.1) :
    ∃ fs : List Fm, n = fs.length ∧ FrsIn w A fs ∧ n * 72 ≤ 140737488351232 := by
  rcases open_slice_fields Try.underlying39 Try.underlying25 one25 (by kernel_rfl) h with ⟨hcs, rfl⟩ | ⟨a, len, cap, m, D, Pl, hcs, _, hl, hm, hme, rfl, hD⟩
  · simp only [List.cons.injEq, and_true, Value.slice.injEq] at hcs
    obtain ⟨rfl, rfl, rfl⟩ := hcs
    exact ⟨[], rfl, fun i f hf => by simp at hf, by simp⟩
  · simp only [List.cons.injEq, and_true, Value.slice.injEq] at hcs
    obtain ⟨rfl, rfl, rfl⟩ := hcs
    have hnm : n ≤ m := by rw [hme]; split <;> omega
    obtain ⟨w1, w2⟩ := wt_slice Try.underlying39 hw
    have hby : Try.prog.bytesOf 25 = 72 := by kernel_rfl
    rw [hby] at w1
    simp only [List.length_map, List.length_range] at w1
    have key : ∀ i, i < n → ∃ (f : Fm) (wa da : Option Addr) (wc dc : Nat), w.cell? (a.add (i * 5)) = some (.int .i64 f.k) ∧ w.cell? (a.add (i * 5 + 1)) = some (.int .i64 f.a) ∧ w.cell? (a.add (i * 5 + 2)) = some (.int .i64 f.b) ∧
        w.cell? (a.add (i * 5 + 3)) = some (.slice wa f.ws.length wc) ∧ w.cell? (a.add (i * 5 + 4)) = some (.slice da f.d.length dc) ∧ Rd w wa (f.ws.map .string) ∧ Rd w da (bs f.d) ∧ f.Fits := by
      intro i hi
      obtain ⟨ys, k, hDi, _, hys, hf⟩ := hD i (by omega)
      obtain ⟨v0, y0, c0, e0, t0⟩ := hf 0 _ rfl
      obtain ⟨v1, y1, c1, e1, t1⟩ := hf 1 _ rfl
      obtain ⟨v2, y2, c2, e2, t2⟩ := hf 2 _ rfl
      obtain ⟨v3, y3, c3, e3, t3⟩ := hf 3 _ rfl
      obtain ⟨v4, y4, c4, e4, t4⟩ := hf 4 _ rfl
      have hwi : Wt Try.prog 25 (.agg (ys.map (·.1))) := by
        rw [← hDi]
        exact w2 _ (List.mem_map.2 ⟨i, by simpa using hi, rfl⟩)
      obtain ⟨f, wa, da, wc, dc, rfl, rfl, rfl, rfl, rfl, r1, r2, hF⟩ := frame_of t0 t1 t2 t3 t4 (wt_part Try.underlying25 hwi (j := 3) rfl (by simp [e3])) (wt_part Try.underlying25 hwi (j := 4) rfl (by simp [e4]))
      exact ⟨f, wa, da, wc, dc, c0, c1, c2, c3, c4, r1, r2, hF⟩
    have key2 : ∀ k, k ≤ n → ∃ fs : List Fm, fs.length = k ∧ ∀ i f, fs[i]? = some f → ∃ (wa da : Option Addr) (wc dc : Nat), w.cell? (a.add (i * 5)) = some (.int .i64 f.k) ∧ w.cell? (a.add (i * 5 + 1)) = some (.int .i64 f.a) ∧ w.cell? (a.add (i * 5 + 2)) = some (.int .i64 f.b) ∧
        w.cell? (a.add (i * 5 + 3)) = some (.slice wa f.ws.length wc) ∧ w.cell? (a.add (i * 5 + 4)) = some (.slice da f.d.length dc) ∧ Rd w wa (f.ws.map .string) ∧ Rd w da (bs f.d) ∧ f.Fits := by
      intro k
      induction k with
      | zero => intro _; exact ⟨[], rfl, fun i f hf => by simp at hf⟩
      | succ k ih =>
        intro hk
        obtain ⟨fs, hl', h'⟩ := ih (by omega)
        obtain ⟨f, wa, da, wc, dc, hh⟩ := key k (by omega)
        refine ⟨fs ++ [f], by simp [hl'], fun i g hg => ?_⟩
        by_cases hi : i < k
        · rw [List.getElem?_append_left (by omega)] at hg
          exact h' i g hg
        · have hi2 : i = k := by
            have := (List.getElem?_eq_some_iff.1 hg).1
            simp [hl'] at this; omega
          subst hi2
          rw [List.getElem?_append_right (by omega)] at hg
          simp [hl'] at hg
          subst hg
          exact ⟨wa, da, wc, dc, hh⟩
    obtain ⟨fs, hfl, hfs⟩ := key2 n (Nat.le_refl _)
    refine ⟨fs, hfl.symm, fun i f hf => ?_, by omega⟩
    obtain ⟨wa, da, wc, dc, c0, c1, c2, c3, c4, r1, r2, hF⟩ := hfs i f hf
    obtain ⟨_, _, _, _, d0, _⟩ := hfs 0 (fs[0]'(by have := (List.getElem?_eq_some_iff.1 hf).1; omega)) (List.getElem?_eq_getElem _)
    have ha : a.spot = none := by
      have e0 : a.add (0 * 5) = a := by simp [Addr.add]
      rw [e0] at d0
      obtain ⟨b, off, sp⟩ := a
      rcases sp with _ | s
      · rfl
      · unfold World.cell? at d0
        split at d0 <;> simp at d0
    obtain ⟨b, off, sp⟩ := a
    cases ha
    simp only [Addr.add_lit, ← Nat.add_assoc] at c0 c1 c2 c3 c4
    exact ⟨b, off, wa, da, wc, dc, rfl, c0, c1, c2, c3, c4, r1, r2, hF⟩
end
end Go.Proofs.Ytdbjphabmdmjcaa
