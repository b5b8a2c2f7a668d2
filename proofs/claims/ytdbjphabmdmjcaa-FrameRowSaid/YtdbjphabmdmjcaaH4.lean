/- Contract: the reference's Read. -/
import Derived.Test.YtdbjphabmdmjcaaH3
import Derived.RegionTactic
import Derived.BigRegion
import Derived.ChangeAlike
namespace Go.Proofs.Ytdbjphabmdmjcaa
open Go.RowKit
set_option linter.unusedSimpArgs false
set_option linter.unusedVariables false

section
variable {w w' : World} {p : Nat} {k a b : Int} {wv dv : Value}
theorem RFB.free (h : RFB w p k a b wv dv) (j : Nat) : w.frozen? ⟨p, j, none⟩ = false := by
  unfold RFB at h; simp [World.frozen?, h]
theorem RFB.set3 (h : RFB w p k a b wv dv) (v : Value) : RFB (w.setCell ⟨p, 3, none⟩ v) p k a b v dv := by
  unfold RFB at h ⊢
  simp [World.setCell, Array.getElem?_modify, h]
end
theorem one5 {a b c : Int} {x : Option Addr} {n m : Nat} {s : ByteArray} : ∀ u ∈ [Value.int .i64 a, .int .i64 b, .int .i64 c, .slice x n m, .string s], u.oneCell' = true := by
  intro u hu
  simp only [List.mem_cons, List.not_mem_nil, or_false] at hu
  rcases hu with rfl | rfl | rfl | rfl | rfl <;> rfl
theorem right_c (F : Fm) (wa : Option Addr) (wc : Nat) (ok : Bool) (hR : F.right = ok) (W : World) (hn : F.ws.length ≤ 140737488355328) (hr : Rd W wa (F.ws.map .string)) (hs : ∀ s ∈ F.ws, s.size ≤ 140737488355328) :
    Calls Try.prog 13 #[.agg #[.int .i64 F.k, .int .i64 F.a, .int .i64 F.b, .slice wa F.ws.length wc, .string (st F.d)]] W fun e w' => e = .returned (.bool ok) ∧ W.grownBy w' none := by
  have e := rRight_eq F
  rw [hR] at e
  rw [← e]
  exact rRight_any F.k F.a F.b wa F.ws.length wc F.ws F.d W rfl hn hr hs
/-- A frame more. -/
theorem ReadInv.step {w W w6 : World} {s : ByteArray} {j q : Nat} {fs : List Fm} {F : Fm} {Av A6 wa : Option Addr} {cv c6 wc : Nat} {xs : List Value} (hfs : ∀ fs' rest ok, Run ((sl s).drop j) fs' rest ok → Run (sl s) (fs ++ fs') rest ok)
    (hT : Take ((sl s).drop j) F ((sl s).drop (j + 2 + q))) (hl : fs.length ≤ j) (hC : RfCells w.heap.size W fs xs) (hOw : W.ownsRow w.heap.size 9 1 (.slice wa F.ws.length wc) F.ws.length (F.ws.map .string))
    (hO : W.ownsRow w.heap.size 33 5 (.slice Av fs.length cv) fs.length xs)
    (O6 : w6.ownsRow w.heap.size 33 5 (.slice A6 (fs.length + 1) c6) (fs.length + 1) (xs ++ [.int .i64 F.k, .int .i64 F.a, .int .i64 F.b, .slice wa F.ws.length wc, .string (st F.d)]))
    (G6 : W.grownBy w6 (Value.slice Av fs.length cv).ownBlock) (hG : w.grownBy W none) : ReadInv w s (j + 2 + q) (.slice A6 (fs.length + 1) c6) w6 := by
  have hk : ∀ n v ys, W.ownsRow w.heap.size 9 1 v n ys → w6.ownsRow w.heap.size 9 1 v n ys := fun n v ys h => h.kept G6 (own_ne h hO (by decide))
  refine ⟨fs ++ [F], fun fs' rest ok h => ?_, ⟨A6, c6, _, by simp, by simpa using O6, RfCells.map hk (hC.snoc F hOw)⟩, g_own hG hO (Nat.le_refl _) G6, by simp; omega⟩
  rw [List.append_assoc]
  exact hfs _ _ _ (.take _ F _ fs' rest ok hT h)

set_option maxRecDepth 100000 in
set_option maxHeartbeats 1000000 in
theorem read_any (s : ByteArray) (w : World) (hs : s.size ≤ 200000) :
    Calls Try.prog 17 #[.string s] w (ReadPost w s) := by
  go_enter Try.func17, Try.ntmps17
  go_wp2_with fail
  go_loopw [5, 6] (fun v i wr => ∃ j : Nat, j ≤ s.size ∧ i = .int .i64 j ∧ Hid (ReadInv w s j v wr)) (fun _ i _ => s.size - (intOf i).toNat)
  case atStart => exact ⟨0, Nat.zero_le _, rfl, [], fun _ _ _ h => by simpa using h, RfsV.nil _ _, World.grownBy.refl _ _, Nat.le_refl _⟩
  case round =>
    obtain ⟨j, hj, rfl, hI⟩ := hrel
    obtain ⟨fs, hfs, ⟨Av, cv, xs, rfl, hO, hC⟩, hG, hfl⟩ := hI.out
    replace hfs := Lib.hid hfs; replace hO := Lib.hid hO; replace hC := Lib.hid hC; replace hG := Lib.hid hG
    by_cases h2 : s.size < j + 2
    · have h2' : (s.size : Int) - j < 2 := by omega
      have hW : Wait ((sl s).drop j) := .inl (by rw [List.length_drop, sl_len]; omega)
      have hfin := hI.out.stop hj (.wait _ hW) (World.grownBy.refl wr none)
      replace hfin := Lib.hid hfin; replace hW := Lib.hid hW
      go_wp2_with fail
      go_ret3
      exact hfin.out
    · have h2' : ¬ (s.size : Int) - j < 2 := by omega
      have i0 : j < s.size := by omega
      have i1 : j + 1 < s.size := by omega
      have j1 : (j : Int) < s.size := by omega
      have j2 : (j : Int) + 1 < s.size := by omega
      have j3 : (0 : Int) ≤ (j : Int) + 1 := by omega
      obtain ⟨r, htr, hrl, hrd⟩ := at_two s j i0 i1
      obtain ⟨x, hx⟩ : ∃ x, s[j] = x := ⟨_, rfl⟩
      obtain ⟨y, hy⟩ : ∃ y, s[j + 1] = y := ⟨_, rfl⟩
      rw [hx, hy] at htr
      have bx := x.toNat_lt; have by_ := y.toNat_lt
      obtain ⟨q, hq⟩ : ∃ q : Nat, q = x.toNat * 256 + y.toNat := ⟨_, rfl⟩
      have z0 : IntKind.i64.wrap ↑x.toNat = ↑x.toNat := IntWalk.i64_in _ (by omega)
      have z1 : IntKind.i64.wrap ↑y.toNat = ↑y.toNat := IntWalk.i64_in _ (by omega)
      have z2 : IntKind.i64.wrap (↑x.toNat * 256) = ↑x.toNat * 256 := IntWalk.i64_in _ (by omega)
      have z3 : IntKind.i64.wrap (↑x.toNat * 256 + ↑y.toNat) = (q : Int) := by rw [IntWalk.i64_in _ (by omega)]; omega
      have z4 : IntKind.i64.wrap ((j : Int) + 1) = (j : Int) + 1 := IntWalk.i64_in _ (by omega)
      have z5 : ((j : Int) + 1).toNat = j + 1 := by omega
      have hq6 : q < 65536 := by omega
      replace htr := Lib.hid htr; replace hq := Lib.hid hq; replace hrl := Lib.hid hrl; replace hrd := Lib.hid hrd
      go_wp2_with fail
      go_quiet (fail)
      clear hx hy z0 z1 z2 z3 z4 z5
      by_cases hbad : q < 3 ∨ 16384 < q
      · have hB : Bad ((sl s).drop j) := ⟨x, y, r, htr.out, by have := hq.out; omega⟩
        have hfin := hI.out.stop hj (.bad _ hB) (g_dn (World.grownBy.refl wr none) nq)
        replace hfin := Lib.hid hfin; replace hB := Lib.hid hB
        by_cases h3 : q < 3
        · have h3' : (q : Int) < 3 := by omega
          go_wp2_with fail
          go_ret3
          exact hfin.out
        · have h3' : ¬ (q : Int) < 3 := by omega
          have h4' : (16384 : Int) < q := by omega
          go_wp2_with fail
          go_ret3
          exact hfin.out
      · have h3' : ¬ (q : Int) < 3 := by omega
        have h4' : ¬ (16384 : Int) < q := by omega
        by_cases hw : s.size < j + 2 + q
        · have hW : Wait ((sl s).drop j) := .inr ⟨x, y, r, htr.out, by have := hq.out; have := hrl.out; omega⟩
          have hfin := hI.out.stop hj (.wait _ hW) (g_dn (World.grownBy.refl wr none) nq)
          replace hfin := Lib.hid hfin; replace hW := Lib.hid hW
          have hw' : (s.size : Int) - j - 2 < q := by omega
          go_wp2_with fail
          go_ret3
          exact hfin.out
        · have hw' : ¬ (s.size : Int) - j - 2 < q := by omega
          have k1 : (j : Int) + 2 ≤ (j : Int) + 2 + q := by omega
          have k2 : (j : Int) + 2 + q ≤ s.size := by omega
          go_wp2_with fail
          obtain ⟨t, ht⟩ : ∃ t, s.extract (j + 2) (j + 2 + q) = t := ⟨_, rfl⟩
          have htl : sl t = r.take q := by
            rw [← ht, sl_ext, List.drop_take, hrd.out]
            congr 1; omega
          have hts : t.size = q := by
            have := hrl.out
            rw [← sl_len, htl, List.length_take]; omega
          rw [ht]
          replace ht := Lib.hid ht
          have t0 : 0 < t.size := by omega
          have t1 : 1 < t.size := by omega
          have t2 : 2 < t.size := by omega
          have v0 : (0 : Int) < t.size := by omega
          have v1 : (1 : Int) < t.size := by omega
          have v2 : (2 : Int) < t.size := by omega
          have ub : t.size ≤ 200000 := by omega
          have hbo := sl_three t t0 t1 t2
          obtain ⟨zk, hx0⟩ : ∃ x, t[0] = x := ⟨_, rfl⟩
          obtain ⟨za, hx1⟩ : ∃ x, t[1] = x := ⟨_, rfl⟩
          obtain ⟨zb, hx2⟩ : ∃ x, t[2] = x := ⟨_, rfl⟩
          rw [hx0, hx1, hx2] at hbo
          have b0 := zk.toNat_lt; have b1 := za.toNat_lt; have b2 := zb.toNat_lt
          have z0 : IntKind.i64.wrap ↑zk.toNat = ↑zk.toNat := IntWalk.i64_in _ (by omega)
          have z1 : IntKind.i64.wrap ↑za.toNat = ↑za.toNat := IntWalk.i64_in _ (by omega)
          have z2 : IntKind.i64.wrap ↑zb.toNat = ↑zb.toNat := IntWalk.i64_in _ (by omega)
          replace htl := Lib.hid htl; replace hts := Lib.hid hts; replace hbo := Lib.hid hbo
          have hD := g_dn (World.grownBy.refl wr none) nq
          have hO2 := own_keep hO.out hD
          have hC2 := RfCells.map (w' := wr.drewN nq) (fun _ _ _ h => own_keep h hD) hC.out
          have hG2 := hG.out.trans hD
          replace hO2 := Lib.hid hO2; replace hC2 := Lib.hid hC2; replace hG2 := Lib.hid hG2
          clear hD hO hC hG hI
          generalize wr.drewN nq = W at *
          go_region
          clear hx0 hx1 hx2 z0 z1 z2
          obtain ⟨pl, hpl⟩ : ∃ pl, t.extract 3 t.size = st pl := ⟨sl _, (st_sl _).symm⟩
          have hbp : sl t = zk :: za :: zb :: pl := by rw [hbo.out, hpl, sl_st]
          have hpll : pl.length + 3 = q := by
            have := congrArg List.length hbp
            rw [sl_len, hts.out] at this; simp at this; omega
          have hBd : r.take q = zk :: za :: zb :: pl := by rw [← htl.out, hbp]
          have hI2 : ReadInv w s j (.slice Av fs.length cv) W := ⟨fs, hfs.out, ⟨Av, cv, xs, rfl, hO2.out, hC2.out⟩, hG2.out, hfl⟩
          have hTk : ∀ F, Body (zk :: za :: zb :: pl) F → Take ((sl s).drop j) F ((sl s).drop (j + 2 + q)) := fun F hF =>
            ⟨x, y, r, htr.out, by have := hq.out; omega, by have := hq.out; omega, by have := hq.out; have := hrl.out; omega, by rw [← hq.out, hBd]; exact hF, by rw [← hq.out, hrd.out, List.drop_drop]⟩
          have hBad : (¬ ∃ F, Body (zk :: za :: zb :: pl) F) → Run ((sl s).drop j) [] ((sl s).drop j) false := fun hF =>
            .bad _ ⟨x, y, r, htr.out, .inr (.inr ⟨by have := hq.out; have := hrl.out; omega, by rw [← hq.out, hBd]; exact hF⟩)⟩
          replace hbp := Lib.hid hbp; replace hBd := Lib.hid hBd; replace hI2 := Lib.hid hI2; replace hTk := Lib.hid hTk; replace hBad := Lib.hid hBad
          have hplz : pl.length ≤ 20000 := by omega
          replace hpll := Lib.hid hpll
          by_cases hk : zk.toNat = 2
          · have hkb : (((zk.toNat : Nat) : Int) == 2) = true := by simp; omega
            have CW := Lib.hid (fun W => words_any (st pl) W (by rw [st_size]; omega))
            replace hk := Lib.hid hk
            go_wp2_with fail
            refine (CW.out _).mono ?_
            rintro e w4 ⟨G4, ⟨ws, wv, hsm, hwb, rfl, hOw⟩ | ⟨hno, rfl⟩⟩
            · rw [sl_st] at hwb
              have hCd := cand_words zk za zb ws hk.out hsm
              rw [hwb] at hCd
              have hwl : ws.length ≤ 20000 := by have := wb_ge ws; rw [hwb] at this; omega
              have hws8 : ∀ s ∈ ws, s.size ≤ 140737488355328 := fun s hs => by have := hsm s hs; omega
              obtain ⟨wa, wc, rfl, hRw, _, _, _⟩ := Rd.of_own hOw
              have F4 := RFB.grown (w := (W.alloc (.cells #[.int .i64 zk.toNat, .int .i64 za.toNat, .int .i64 zb.toNat, .slice none 0 0, .string ⟨#[]⟩] 33)).drew) (RFB.new W _ _ _ _ _) G4 (by simp)
              have WG4 : W.grownBy w4 none := (g_drew (World.grownBy_alloc W _ none)).trans G4
              have p0 := F4.cell 3; have p1 := F4.free 3; have r0 := F4.cell 0; have r1 := F4.cell 1; have r2 := F4.cell 2; have r4 := F4.cell 4
              simp at p0 r0 r1 r2 r4
              have hpw : W.heap.size < w4.heap.size := F4.lt
              have hob : ∀ b, (Value.slice wa ws.length wc).ownBlock = some b → W.heap.size + 1 ≤ b := fun b hb => by have := hOw.lt b hb; simpa using this.1
              obtain ⟨F, hF⟩ : ∃ F : Fm, F = ⟨zk.toNat, za.toNat, zb.toNat, ws, []⟩ := ⟨_, rfl⟩
              rw [← hF] at hCd
              have F4s := F4.set3 (.slice wa ws.length wc)
              have WG4s : W.grownBy (w4.setCell ⟨W.heap.size, 3, none⟩ (.slice wa ws.length wc)) none := g_setn WG4 _ _ (Nat.le_refl _)
              have hOws : (w4.setCell ⟨W.heap.size, 3, none⟩ (.slice wa ws.length wc)).ownsRow w.heap.size 9 1 (.slice wa ws.length wc) ws.length (ws.map .string) := by
                refine own_le (hOw.kept (row := some W.heap.size) (g_set ((World.grownBy.refl w4 (some W.heap.size))) rfl _) (.inr fun e => ?_)) (by have := hG2.out.size; simp; omega)
                have := hob _ e; omega
              have hRws := Rd.own hOws
              have hpp : st [] = ⟨#[]⟩ := rfl
              replace hpp := Lib.hid hpp
              replace hsm := Lib.hid hsm; replace hwb := Lib.hid hwb; replace hOw := Lib.hid hOw; replace hRw := Lib.hid hRw; replace F4 := Lib.hid F4; replace WG4 := Lib.hid WG4; replace hob := Lib.hid hob; replace G4 := Lib.hid G4; replace F4s := Lib.hid F4s; replace WG4s := Lib.hid WG4s; replace hOws := Lib.hid hOws; replace hRws := Lib.hid hRws; replace hws8 := Lib.hid hws8
              cases hR : F.right
              · have hfin := fun wk hg => hI2.out.stop (wk := wk) hj (hBad.out (hCd.bad hR)) hg
                have CR := Lib.hid (fun W hr => right_c ⟨zk.toNat, za.toNat, zb.toNat, ws, []⟩ wa wc false (by rw [← hF]; exact hR) W (by simp; omega) hr hws8.out)
                replace hF := Lib.hid hF; replace hfin := Lib.hid hfin; replace hCd := Lib.hid hCd; replace hR := Lib.hid hR
                go_wp2_with fail
                refine (CR.out _ hRws.out).mono ?_
                rintro e w5 ⟨rfl, G5⟩
                replace G5 := Lib.hid G5
                go_wp2_with fail
                go_ret3
                exact hfin.out _ (WG4s.out.trans G5.out)
              · have CR := Lib.hid (fun W hr => right_c ⟨zk.toNat, za.toNat, zb.toNat, ws, []⟩ wa wc true (by rw [← hF]; exact hR) W (by simp; omega) hr hws8.out)
                have hT := hTk.out _ (hCd.body hR)
                replace hF := Lib.hid hF; replace hCd := Lib.hid hCd; replace hR := Lib.hid hR; replace hT := Lib.hid hT
                go_wp2_with fail
                refine (CR.out _ hRws.out).mono ?_
                rintro e w5 ⟨rfl, G5⟩
                clear p0 p1 r0 r1 r2 r4
                have F5 := RFB.grown (w := w4.setCell ⟨W.heap.size, 3, none⟩ (.slice wa ws.length wc)) F4s.out G5 (by simp)
                have WG5 : W.grownBy w5 none := WG4s.out.trans G5
                have q0 := F5.cell 0; have q1 := F5.cell 1; have q2 := F5.cell 2; have q3 := F5.cell 3; have q4 := F5.cell 4
                simp at q0 q1 q2 q3 q4
                have hsz5 : w.heap.size ≤ w5.heap.size := (hG2.out.trans WG5).size
                have WGa := WG5.trans (World.grownBy_alloc w5 (.cells #[.int .i64 zk.toNat, .int .i64 za.toNat, .int .i64 zb.toNat, .slice wa ws.length wc, .string ⟨#[]⟩] 33) none)
                have hOa := own_keep hO2.out WGa
                have hCa := RfCells.map (fun _ _ _ h => own_keep h WGa) hC2.out
                have hOwa := own_keep (own_keep hOws.out G5) (World.grownBy_alloc w5 (.cells #[.int .i64 zk.toNat, .int .i64 za.toNat, .int .i64 zb.toNat, .slice wa ws.length wc, .string ⟨#[]⟩] 33) none)
                replace F5 := Lib.hid F5; replace WG5 := Lib.hid WG5; replace G5 := Lib.hid G5; replace WGa := Lib.hid WGa; replace hOa := Lib.hid hOa; replace hCa := Lib.hid hCa; replace hOwa := Lib.hid hOwa
                go_wp2_with (first
                  | (at_builtin; go_must (refine ap33 rfl (.tmp 88) (.tmp 90) rfl w.heap.size (.slice Av fs.length cv) fs.length xs rfl hOa.out _ 1 1 [.int .i64 zk.toNat, .int .i64 za.toNat, .int .i64 zb.toNat, .slice wa ws.length wc, .string ⟨#[]⟩] rfl rfl (Rd.new _ _ _) one5 (by omega) (by simp; omega) ?_; intro A6 c6 w6 O6 G6 hh6))
                  | fail)
                refine ⟨⟨j + 2 + q, by omega, by go_num, ?_⟩, by simp [intOf]; omega⟩
                have hT2 := hT.out
                rw [hF.out] at hT2
                exact ReadInv.step hfs.out hT2 hfl hCa.out hOwa.out hOa.out O6 G6 (hG2.out.trans WGa.out)
            · have hfin := fun wk hg => hI2.out.stop (wk := wk) hj (hBad.out (cand_none zk za zb pl hk.out (by rw [sl_st] at hno; exact hno))) hg
              replace hfin := Lib.hid hfin; replace hno := Lib.hid hno; replace G4 := Lib.hid G4
              go_wp2_with fail
              go_ret3
              exact hfin.out _ ((g_drew (World.grownBy_alloc _ _ _)).trans G4.out)
          · have hkb : (((zk.toNat : Nat) : Int) == 2) = false := by simp; omega
            have hCd := cand_data zk za zb pl hk
            clear hk
            obtain ⟨F, hF⟩ : ∃ F : Fm, F = ⟨zk.toNat, za.toNat, zb.toNat, [], pl⟩ := ⟨_, rfl⟩
            rw [← hF] at hCd
            cases hR : F.right
            · have hfin := fun wk hg => hI2.out.stop (wk := wk) hj (hBad.out (hCd.bad hR)) hg
              have CR := Lib.hid (fun W => right_c ⟨zk.toNat, za.toNat, zb.toNat, [], pl⟩ none 0 false (by rw [← hF]; exact hR) W (by simp) (Rd.nil _ _) (by intro s hs; cases hs))
              replace hF := Lib.hid hF; replace hfin := Lib.hid hfin; replace hCd := Lib.hid hCd; replace hR := Lib.hid hR
              go_wp2_with fail
              refine (CR.out _).mono ?_
              rintro e w5 ⟨rfl, G5⟩
              replace G5 := Lib.hid G5
              go_wp2_with fail
              go_ret3
              exact hfin.out _ ((g_drew (World.grownBy_alloc _ _ _)).trans G5.out)
            · have CR := Lib.hid (fun W => right_c ⟨zk.toNat, za.toNat, zb.toNat, [], pl⟩ none 0 true (by rw [← hF]; exact hR) W (by simp) (Rd.nil _ _) (by intro s hs; cases hs))
              have hT := hTk.out _ (hCd.body hR)
              replace hF := Lib.hid hF; replace hCd := Lib.hid hCd; replace hR := Lib.hid hR; replace hT := Lib.hid hT
              go_wp2_with fail
              refine (CR.out _).mono ?_
              rintro e w5 ⟨rfl, G5⟩
              have F5 := RFB.grown (w := (W.alloc (.cells #[.int .i64 zk.toNat, .int .i64 za.toNat, .int .i64 zb.toNat, .slice none 0 0, .string (st pl)] 33)).drew) (RFB.new W _ _ _ _ _) G5 (by simp)
              have WG5 : W.grownBy w5 none := (g_drew (World.grownBy_alloc W _ none)).trans G5
              have q0 := F5.cell 0; have q1 := F5.cell 1; have q2 := F5.cell 2; have q3 := F5.cell 3; have q4 := F5.cell 4
              simp at q0 q1 q2 q3 q4
              have hsz5 : w.heap.size ≤ w5.heap.size := (hG2.out.trans WG5).size
              have WGa := WG5.trans (World.grownBy_alloc w5 (.cells #[.int .i64 zk.toNat, .int .i64 za.toNat, .int .i64 zb.toNat, .slice none 0 0, .string (st pl)] 33) none)
              have hOa := own_keep hO2.out WGa
              have hCa := RfCells.map (fun _ _ _ h => own_keep h WGa) hC2.out
              replace F5 := Lib.hid F5; replace WG5 := Lib.hid WG5; replace G5 := Lib.hid G5; replace WGa := Lib.hid WGa; replace hOa := Lib.hid hOa; replace hCa := Lib.hid hCa
              go_wp2_with (first
                | (at_builtin; go_must (refine ap33 rfl (.tmp 88) (.tmp 90) rfl w.heap.size (.slice Av fs.length cv) fs.length xs rfl hOa.out _ 1 1 [.int .i64 zk.toNat, .int .i64 za.toNat, .int .i64 zb.toNat, .slice none 0 0, .string (st pl)] rfl rfl (Rd.new _ _ _) one5 (by omega) (by simp; omega) ?_; intro A6 c6 w6 O6 G6 hh6))
                | fail)
              refine ⟨⟨j + 2 + q, by omega, by go_num, ?_⟩, by simp [intOf]; omega⟩
              have hT2 := hT.out
              rw [hF.out] at hT2
              exact ReadInv.step hfs.out hT2 hfl hCa.out (World.ownsRow_nil _ _ _ _) hOa.out O6 G6 (hG2.out.trans WGa.out)
end Go.Proofs.Ytdbjphabmdmjcaa
