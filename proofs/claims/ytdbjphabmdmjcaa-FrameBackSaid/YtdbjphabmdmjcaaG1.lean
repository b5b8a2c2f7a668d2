/- Contracts: the reference's Right, and a frame as the reference has it. -/
import Derived.Test.YtdbjphabmdmjcaaF1
namespace Go.Proofs.Ytdbjphabmdmjcaa
open Go.RowKit
set_option linter.unusedSimpArgs false
set_option linter.unusedVariables false

/-- The value v is the frame f as the reference has it, in world w. -/
def RfV (w : World) (v : Value) (f : Fm) : Prop :=
  ∃ wa wc, v = .agg #[.int .i64 f.k, .int .i64 f.a, .int .i64 f.b, .slice wa f.ws.length wc, .string (st f.d)] ∧ Rd w wa (f.ws.map .string)

def rRight (k a b : Int) (n dn : Nat) : Bool :=
  if k = 1 ∨ k = 4 then decide (1 ≤ a) && decide (a ≤ 250) && decide (1 ≤ b) && decide (b ≤ 120) && decide (n = 0) && decide (dn = 0)
  else if k = 2 then decide (a = 0) && decide (b = 0) && decide (1 ≤ n) && decide (n ≤ 256) && decide (dn = 0)
  else if k = 3 ∨ k = 6 ∨ k = 7 ∨ k = 8 then decide (a = 0) && decide (b = 0) && decide (n = 0)
  else if k = 5 then decide (a = 0) && decide (b = 0) && decide (n = 0) && decide (dn = 0)
  else if k = 9 then decide (0 ≤ a) && decide (a ≤ 255) && decide (b = 0) && decide (n = 0)
  else false

theorem longs_of_nil {ws : List ByteArray} (h : ws.length = 0) : longs ws = false := by
  rw [List.eq_nil_of_length_eq_zero h]; exact longs_nil
theorem rRight_eqN (k a b : Int) (n dn : Nat) (lg : Bool) (hl : n = 0 → lg = false) : (!lg && rRight k a b n dn) = rightN k a b n dn lg := by
  have key : ∀ x : Bool, (n ≠ 0 → x = false) → (!lg && x) = x := by
    intro x hx
    by_cases hn : n = 0
    · rw [hl hn]; simp
    · rw [hx hn]; simp
  by_cases h1 : k = 1
  · subst h1
    have e : rRight 1 a b n dn = szR a b n dn := by simp [rRight, szR]
    rw [e, key _ (fun hn => by simp [szR, hn])]
    simp [rightN]
  by_cases h4 : k = 4
  · subst h4
    have e : rRight 4 a b n dn = szR a b n dn := by simp [rRight, szR]
    rw [e, key _ (fun hn => by simp [szR, hn])]
    simp [rightN]
  by_cases h2 : k = 2
  · subst h2
    cases lg
    · rw [Bool.eq_iff_iff]
      simp [rRight, rightN, woR]
      omega
    · simp [rightN, woR]
  by_cases h3 : k = 3
  · subst h3
    have e : rRight 3 a b n dn = fiR false true a b n dn := by simp [rRight, fiR]
    rw [e, key _ (fun hn => by simp [fiR, hn])]
    simp [rightN]
  by_cases h6 : k = 6
  · subst h6
    have e : rRight 6 a b n dn = fiR false true a b n dn := by simp [rRight, fiR]
    rw [e, key _ (fun hn => by simp [fiR, hn])]
    simp [rightN]
  by_cases h7 : k = 7
  · subst h7
    have e : rRight 7 a b n dn = fiR false true a b n dn := by simp [rRight, fiR]
    rw [e, key _ (fun hn => by simp [fiR, hn])]
    simp [rightN]
  by_cases h8 : k = 8
  · subst h8
    have e : rRight 8 a b n dn = fiR false true a b n dn := by simp [rRight, fiR]
    rw [e, key _ (fun hn => by simp [fiR, hn])]
    simp [rightN]
  by_cases h5 : k = 5
  · subst h5
    have e : rRight 5 a b n dn = fiR false false a b n dn := by simp [rRight, fiR]
    rw [e, key _ (fun hn => by simp [fiR, hn])]
    simp [rightN]
  by_cases h9 : k = 9
  · subst h9
    have e : rRight 9 a b n dn = fiR true true a b n dn := by
      rw [Bool.eq_iff_iff]; simp [rRight, fiR]; omega
    rw [e, key _ (fun hn => by simp [fiR, hn])]
    simp [rightN]
  · simp [rRight, rightN, h1, h2, h3, h4, h5, h6, h7, h8, h9]
theorem rRight_eq (f : Fm) : (!longs f.ws && rRight f.k f.a f.b f.ws.length f.d.length) = f.right := rRight_eqN _ _ _ _ _ _ longs_of_nil

theorem st_isEmpty (l : List UInt8) : (st l).toList.isEmpty = decide (l.length = 0) := by
  have e : (st l).toList = l := ByteArray.toList_mk l
  rw [e]; cases l <;> simp

theorem longs_snoc (ws : List ByteArray) (s : ByteArray) : longs (ws ++ [s]) = (longs ws || decide (8192 < s.size)) := by
  unfold longs
  rw [Bool.eq_iff_iff]
  simp only [decide_eq_true_eq, Bool.or_eq_true, List.mem_append, List.mem_singleton]
  constructor
  · rintro ⟨t, h | rfl, k⟩
    · exact .inl ⟨t, h, k⟩
    · exact .inr k
  · rintro (⟨t, h, k⟩ | k)
    · exact ⟨t, .inl h, k⟩
    · exact ⟨s, .inr rfl, k⟩
theorem longs_mem {ws : List ByteArray} {s : ByteArray} (h : s ∈ ws) (k : 8192 < s.size) : longs ws = true := by
  simp only [longs, decide_eq_true_eq]; exact ⟨s, h, k⟩

set_option maxHeartbeats 1000000 in
theorem rRight_any (k a b : Int) (wa : Option Addr) (n c : Nat) (ws : List ByteArray) (d : List UInt8) (w : World) (hl : n = ws.length) (hn : n ≤ 140737488355328) (hr : Rd w wa (ws.map .string)) (hs : ∀ s ∈ ws, s.size ≤ 140737488355328) :
    Calls Try.prog 13 #[.agg #[.int .i64 k, .int .i64 a, .int .i64 b, .slice wa n c, .string (st d)]] w fun e w' =>
      e = .returned (.bool (!longs ws && rRight k a b n d.length)) ∧ w.grownBy w' none := by
  have he := Lib.hid (st_isEmpty d)
  replace hl := Lib.hid hl; replace hr := Lib.hid hr; replace hs := Lib.hid hs
  generalize st d = s at *
  go_enter Try.func13, Try.ntmps13
  go_wp2_with fail
  go_loop [3] (fun i => ∃ j : Nat, j ≤ n ∧ Hid (longs (ws.take j) = false) ∧ i = .int .i64 j) (fun i => n - (intOf i).toNat)
  case atStart => exact ⟨0, Nat.zero_le _, longs_nil, rfl⟩
  case round =>
    obtain ⟨j, hj, hx, rfl⟩ := hrel
    by_cases hlt : j < n
    · have hjl : j < ws.length := by rw [← hl.out]; exact hlt
      obtain ⟨bb, off, rfl, hb, hc⟩ := hr.out.at_ (j := j) (u := .string ws[j]) (by simp [hjl])
      have hmem : ws[j] ∈ ws := List.getElem_mem hjl
      have hsj := hs.out ws[j] hmem
      have hnx : longs (ws.take (j + 1)) = (longs (ws.take j) || decide (8192 < ws[j].size)) := by
        rw [List.take_succ_eq_append_getElem hjl, longs_snoc]
      have hlm := @longs_mem ws ws[j] hmem
      rw [hx.out, Bool.false_or] at hnx
      replace hnx := Lib.hid hnx; replace hlm := Lib.hid hlm
      clear hmem
      generalize ws[j] = t at *
      go_wp2_with fail
      · go_ret
        have h8 : 8192 < t.size := by omega
        refine ⟨ret_bool ?_, World.grownBy_alloc _ _ _⟩
        rw [hlm.out h8]; rfl
      · go_round
        case rel => exact ⟨j + 1, by omega, by show _ = _; rw [hnx.out]; simp; omega, by go_num⟩
        case measure => simp [intOf]; omega
    · obtain rfl : j = n := by omega
      have hx2 : longs ws = false := by have := hx.out; rwa [List.take_of_length_le (by rw [← hl.out]; exact Nat.le_refl _)] at this
      replace hx2 := Lib.hid hx2
      clear hx
      go_wp2_with fail
      all_goals
        go_ret
        refine ⟨ret_bool ?_, World.grownBy_alloc _ _ _⟩
        have hx := hx2.out
        have he2 := he.out
        simp_all [rRight, cast_beq0]
        try omega

set_option maxHeartbeats 400000 in
theorem lawOf_any (f : Fm) (wa da : Option Addr) (wc dc : Nat) (w : World) (hr : Rd w wa (f.ws.map .string)) (hd : Rd w da (bs f.d)) :
    Calls Try.prog 11 #[.agg #[.int .i64 f.k, .int .i64 f.a, .int .i64 f.b, .slice wa f.ws.length wc, .slice da f.d.length dc]] w fun e w' =>
      e = .returned (.agg #[.int .i64 f.k, .int .i64 f.a, .int .i64 f.b, .slice wa f.ws.length wc, .string (st f.d)]) ∧ w.grownBy w' none := by
  have hcv := conv_str (P := Try.prog) ((w.alloc (.cells #[.int .i64 f.k, .int .i64 f.a, .int .i64 f.b, .slice wa f.ws.length wc, .slice da f.d.length dc] 25)).alloc (.cells #[.int .i64 0, .int .i64 0, .int .i64 0, .slice none 0 0, .string ⟨#[]⟩] 33))
    23 9 5 Try.underlying23 Try.underlying5 Try.underlying9 da f.d.length dc f.d rfl ((hd.alloc _).alloc _)
  clear hr hd
  go_enter Try.func11, Try.ntmps11
  go_wp2_with fail
  refine bodyPost_ret (v := .agg #[.int .i64 f.k, .int .i64 f.a, .int .i64 f.b, .slice wa f.ws.length wc, .string (st f.d)]) (by simp [results, Try.results11, go_sem]) rfl ⟨rfl, ?_⟩
  repeat (first | exact World.grownBy.refl _ _ | apply g_alloc | apply g_drew)
end Go.Proofs.Ytdbjphabmdmjcaa
