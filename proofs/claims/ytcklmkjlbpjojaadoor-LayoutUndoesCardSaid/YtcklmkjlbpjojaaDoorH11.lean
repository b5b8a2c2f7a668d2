/- Layout: Close of a pane just split off: what its law asks for. No walk. -/
import Derived.Test.YtcklmkjlbpjojaaDoorH10
namespace Go.Proofs.YtcklmkjlbpjojaaDoor
open Go.RowKit
set_option linter.unusedSimpArgs false
set_option linter.unusedVariables false

theorem w01_shut {c : List Fr} {n h l x : Nd} {L R : List T} (h1 : (plug c (.mk n (L ++ .mk h [] :: .mk l [] :: R))).w01) (hx : x.way = h.way) :
    (plug c (.mk n (L ++ .mk x [] :: R))).w01 ∧ (plug c (.mk x [])).w01 := by
  obtain ⟨A, hA⟩ := nds_ctx c
  have hh : h.way = 0 ∨ h.way = 1 := h1 h ((hA _ h).2 (.inr (by rw [T.nds_mk]; refine List.mem_cons_of_mem _ (mem_ndsL.2 ⟨.mk h [], by simp, by rw [T.nds_mk]; simp⟩))))
  refine ⟨fun m hm => ?_, fun m hm => ?_⟩
  · rcases (hA _ m).1 hm with h2 | h2
    · exact h1 m ((hA _ m).2 (.inl h2))
    · rw [T.nds_mk] at h2
      rcases List.mem_cons.1 h2 with rfl | h2
      · exact h1 m ((hA _ m).2 (.inr (by rw [T.nds_mk]; simp)))
      · obtain ⟨k, hk, hm2⟩ := mem_ndsL.1 h2
        have hk2 : k ∈ L ∨ k = .mk x [] ∨ k ∈ R := by simpa using hk
        have out : k ∈ L ∨ k ∈ R → m.way = 0 ∨ m.way = 1 := fun h3 => h1 m ((hA _ m).2 (.inr (by
          rw [T.nds_mk]
          refine List.mem_cons_of_mem _ (mem_ndsL.2 ⟨k, ?_, hm2⟩)
          rcases h3 with h3 | h3 <;> simp [h3])))
        rcases hk2 with h3 | rfl | h3
        · exact out (.inl h3)
        · rw [T.nds_mk, ndsL_nil] at hm2
          simp at hm2
          rw [hm2, hx]; exact hh
        · exact out (.inr h3)
  · rcases (hA _ m).1 hm with h2 | h2
    · exact h1 m ((hA _ m).2 (.inl h2))
    · rw [T.nds_mk, ndsL_nil] at h2
      simp at h2
      rw [h2, hx]; exact hh
theorem map_uniq {α β : Type} {f : α → β} : ∀ {l : List α}, (l.map f).Nodup → ∀ {a b : α}, a ∈ l → b ∈ l → f a = f b → a = b
  | [], _, a, b, ha, _, _ => by cases ha
  | x :: l, hn, a, b, ha, hb, e => by
    rw [List.map_cons] at hn
    obtain ⟨h1, h2⟩ := List.nodup_cons.1 hn
    rcases List.mem_cons.1 ha with e1 | ha1
    · rcases List.mem_cons.1 hb with e2 | hb1
      · rw [e1, e2]
      · exact absurd (List.mem_map.2 ⟨b, hb1, by rw [← e, e1]⟩) h1
    · rcases List.mem_cons.1 hb with e2 | hb1
      · exact absurd (List.mem_map.2 ⟨a, ha1, by rw [e, e2]⟩) h1
      · exact map_uniq h2 ha1 hb1 e
theorem find_uniq {t s : T} (hs : s ∈ t.leaves) (hn : (t.leaves.map fun s => s.n.p).Nodup) : t.find s.n.p = some s := by
  cases e : t.find s.n.p with
  | none =>
    unfold T.find at e
    have := List.find?_eq_none.1 e s hs
    simp at this
  | some s' =>
    obtain ⟨h1, h2⟩ := find_mem e
    rw [map_uniq hn h1 hs h2]
theorem add_beside {hn : Nd} {z A : Int} (h : hn.a + (z + 1) = A) (h1 : 1 ≤ A ∧ A ≤ 1000) : (hn.add 0 (z + 1)).a = A ∧ (hn.add 0 (z + 1)).b = hn.b := by
  unfold Nd.add
  rw [if_pos rfl]
  refine ⟨?_, rfl⟩
  show wr64 (hn.a + (z + 1)) = A
  rw [h]
  exact wr_of (by omega)
theorem add_below {hn : Nd} {z A : Int} (h : hn.b + (z + 1) = A) (h1 : 1 ≤ A ∧ A ≤ 1000) : (hn.add 1 (z + 1)).b = A ∧ (hn.add 1 (z + 1)).a = hn.a := by
  unfold Nd.add
  rw [if_neg (by omega)]
  refine ⟨?_, rfl⟩
  show wr64 (hn.b + (z + 1)) = A
  rw [h]
  exact wr_of (by omega)
theorem close_split {base tr : Nat} {k other : Int} {t t' : T} (beside : Bool) {c c0 : List Fr} {l : T} {f : Fr} {f' l' n' : Nd} {a' b' na nb : Int} (w : World)
    (hT : Tr base w tr t') (hbase : base ≤ w.heap.size) (hF : Fine t k) (hF' : Fine t' other) (hl : t'.leaves.length ≤ 1000) (hlen : f.L.length + f.R.length + 2 ≤ 1000)
    (ht : t = plug c l) (hlk : l.ks = []) (ht' : t' = (plug c0 (.mk f' (f.L ++ .mk l' [] :: .mk n' [] :: f.R))).place 0 0)
    (hf : f'.p = f.n.p ∧ f'.a = f.n.a ∧ f'.b = f.n.b ∧ f'.way = f.n.way) (hw : f.n.way = (if beside = true then 0 else 1)) (hl' : l'.p = l.n.p ∧ l'.a = a' ∧ l'.b = b' ∧ (l'.way = l.n.way ∨ l'.way = 0)) (hn' : n'.p = other ∧ n'.a = na ∧ n'.b = nb ∧ n'.way = 0)
    (hc : c = f :: c0 ∨ (c0 = c ∧ f.L = [] ∧ f.R = []))
    (hz : (beside = true → b' = l.n.b ∧ nb = l.n.b ∧ a' + 1 + (na + 1) = l.n.a + 1) ∧ (beside = false → a' = l.n.a ∧ na = l.n.a ∧ b' + 1 + (nb + 1) = l.n.b + 1)) (h1 : 1 ≤ a' ∧ 1 ≤ b' ∧ 1 ≤ na ∧ 1 ≤ nb)
    (hla : l.n.a ≤ 60 ∧ l.n.b ≤ 60) :
    Calls Tryd.prog 14 #[ptr tr, .int .i64 other] w fun e w' => e = .returned (.int .i64 0) ∧ Below base w w' ∧ ∃ t2 : T, Tr base w' tr (t2.place 0 0) ∧ t2.er = t.er := by
  obtain ⟨c', n2, hn, ln, L', R', e1, e2, e3, e4, e5, e6, e7, e8, e9, e10⟩ := place_two c0 f' l' n' f.L f.R
  rw [e1] at ht'
  subst ht'
  have hw01 := ok_w01 hF'.ok
  have hnod := hF'.ps
  rw [← T.leaves_ps] at hnod
  have hmem : (T.mk ln []) ∈ (plug c' (.mk n2 (L' ++ .mk hn [] :: .mk ln [] :: R'))).leaves := by
    obtain ⟨A, B, hAB⟩ := leaves_ctx c'
    rw [hAB, T.leaves_mk]
    have : T.mk ln [] ∈ leavesL (L' ++ .mk hn [] :: .mk ln [] :: R') := mem_leavesL.2 ⟨.mk ln [], by simp, by rw [T.leaves_mk]; simp⟩
    simp [this]
  have hfind := find_uniq hmem hnod
  rw [show (T.mk ln []).n.p = other from e7.1.trans hn'.1] at hfind
  have hlen' : (L' ++ .mk hn [] :: .mk ln [] :: R').length ≤ 1000 := by simp; omega
  have hno := Nd.add_rest hn
  cases beside with
  | true =>
    obtain ⟨z1, z2, z3⟩ := hz.1 rfl
    have hadd := add_beside (hn := hn) (z := ln.a) (A := l.n.a) (by rw [e6.2.1, e7.2.1, hl'.2.1, hn'.2.1]; omega) (by omega)
    obtain ⟨w1, w2⟩ := w01_shut (x := hn.add 0 (ln.a + 1)) hw01 (hno 0 _).2
    refine (close_next_true base tr c' n2 hn ln L' R' other w hT hbase hl hfind (by rw [e5.2.2.2, hf.2.2.2, hw]; rfl) (by rw [e7.2.1, hn'.2.1]; omega) hlen' w1 w2).mono ?_
    rintro e w' ⟨h1, h2, h3⟩
    refine ⟨h1, h2, _, h3, shut_er (way := 0) (z := ln.a + 1) (l := l) (f := f) hF.ok ht hlk ?_ ?_ ?_ ?_ hc e8 e9 e10⟩
    · exact ⟨e5.1.trans hf.1, e5.2.1.trans hf.2.1, e5.2.2.1.trans hf.2.2.1, e5.2.2.2.trans hf.2.2.2⟩
    · exact e6.1.trans hl'.1
    · rw [e6.2.2.2]; exact hl'.2.2.2
    · exact ⟨hadd.1, by rw [hadd.2, e6.2.2.1, hl'.2.2.1, z1]⟩
  | false =>
    obtain ⟨z1, z2, z3⟩ := hz.2 rfl
    have hadd := add_below (hn := hn) (z := ln.b) (A := l.n.b) (by rw [e6.2.2.1, e7.2.2.1, hl'.2.2.1, hn'.2.2.1]; omega) (by omega)
    obtain ⟨w1, w2⟩ := w01_shut (x := hn.add 1 (ln.b + 1)) hw01 (hno 1 _).2
    refine (close_next_false base tr c' n2 hn ln L' R' other w hT hbase hl hfind (by rw [e5.2.2.2, hf.2.2.2, hw]; rfl) (by rw [e7.2.2.1, hn'.2.2.1]; omega) hlen' w1 w2).mono ?_
    rintro e w' ⟨h1, h2, h3⟩
    refine ⟨h1, h2, _, h3, shut_er (way := 1) (z := ln.b + 1) (l := l) (f := f) hF.ok ht hlk ?_ ?_ ?_ ?_ hc e8 e9 e10⟩
    · exact ⟨e5.1.trans hf.1, e5.2.1.trans hf.2.1, e5.2.2.1.trans hf.2.2.1, e5.2.2.2.trans hf.2.2.2⟩
    · exact e6.1.trans hl'.1
    · rw [e6.2.2.2]; exact hl'.2.2.2
    · exact ⟨by rw [hadd.2, e6.2.1, hl'.2.1, z1], hadd.1⟩
end Go.Proofs.YtcklmkjlbpjojaaDoor
