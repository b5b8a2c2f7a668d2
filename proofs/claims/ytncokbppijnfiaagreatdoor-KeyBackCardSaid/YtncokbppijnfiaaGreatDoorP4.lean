/- Key: a rune's bytes read back; key.Bytes reads back, every key. -/
import Derived.Test.YtncokbppijnfiaaGreatDoorP3
namespace Go.Proofs.YtncokbppijnfiaaGreatDoor
open Go.RowKit
set_option linter.unusedSimpArgs false
set_option linter.unusedVariables false

theorem lp_skip (i : Nat) (d d2 : Dc) (x : UInt8) (r : List UInt8) (h : feedL d (x.toNat : Int) = ([], d2)) : bareLp i d (x :: r) = bareLp (i + 1) d2 r := by
  rw [bareLp, h]
theorem lp_last (i : Nat) (d d2 : Dc) (x : UInt8) (r : List UInt8) (z : Int) (h : feedL d (x.toNat : Int) = ([z], d2)) (h2 : d2.have' = 0) : bareLp i d (x :: r) = some (z, i + 1) := by
  rw [bareLp, h]
  dsimp only
  rw [if_neg (fun e => e.2.elim (fun h => h rfl) (fun h => h h2))]
theorem feed_mid (r k mo lo hi c : Int) (h0 : k ≠ 0) (h1 : lo ≤ c) (h2 : c ≤ hi) (h3 : 1 < mo) : feedL ⟨r, k, mo, lo, hi⟩ c = ([], ⟨r * 64 + c % 64, k + 1, mo - 1, 128, 191⟩) := by
  unfold feedL
  dsimp only
  rw [if_neg h0, if_neg (by omega), if_pos h3]
theorem feed_end (r k mo lo hi c : Int) (h0 : k ≠ 0) (h1 : lo ≤ c) (h2 : c ≤ hi) (h3 : ¬ 1 < mo) : feedL ⟨r, k, mo, lo, hi⟩ c = ([r * 64 + c % 64], ⟨r * 64 + c % 64, 0, mo - 1, 128, 191⟩) := by
  unfold feedL
  dsimp only
  rw [if_neg h0, if_neg (by omega), if_neg h3]
theorem lp_enc (n : Nat) (hv : Lib.validRune (n : Int) = true) (h : 128 ≤ n) : bareLp 0 dc0 (encL (n : Int)) = some ((n : Int), (encL (n : Int)).length) := by
  have hv2 : n < 55296 ∨ (57343 < n ∧ n ≤ 1114111) := by
    unfold Lib.validRune at hv
    rw [decide_eq_true_eq] at hv
    omega
  have hb0 : ∀ c, feedL dc0 c = beginL dc0 c := fun c => by unfold feedL; rw [if_pos (show dc0.have' = 0 from rfl)]
  rw [enc_nat n hv, if_neg (by omega)]
  by_cases h2 : n < 2048
  · rw [if_pos h2]
    obtain ⟨p, hp⟩ : ∃ p, p = 192 + n / 64 := ⟨_, rfl⟩
    obtain ⟨q, hq⟩ : ∃ q, q = 128 + n % 64 := ⟨_, rfl⟩
    rw [← hp, ← hq]
    have f1 : feedL dc0 ((UInt8.ofNat p).toNat : Int) = ([], ⟨(p : Int) % 32, 1, 1, 128, 191⟩) := by
      rw [ofN p (by omega), hb0]
      unfold beginL
      rw [if_neg (by omega), if_pos (by omega)]
    have f2 := feed_end ((p : Int) % 32) (1) (1) (128) (191) ((UInt8.ofNat q).toNat : Int) (by decide) (by rw [ofN q (by omega)]; omega) (by rw [ofN q (by omega)]; omega) (by decide)
    rw [lp_skip _ _ _ _ _ f1, lp_last _ _ _ _ _ _ f2 rfl, ofN q (by omega)]
    have e : (p : Int) % 32 * 64 + (q : Int) % 64 = (n : Int) := by omega
    rw [e]; rfl
  rw [if_neg h2]
  by_cases h3 : n < 65536
  · rw [if_pos h3]
    obtain ⟨p, hp⟩ : ∃ p, p = 224 + n / 4096 := ⟨_, rfl⟩
    obtain ⟨o, ho⟩ : ∃ q, q = 128 + n / 64 % 64 := ⟨_, rfl⟩
    obtain ⟨q, hq⟩ : ∃ q, q = 128 + n % 64 := ⟨_, rfl⟩
    rw [← hp, ← hq, ← ho]
    obtain ⟨lo, hlo⟩ : ∃ z : Int, z = if (p : Int) = 224 then 160 else 128 := ⟨_, rfl⟩
    obtain ⟨hi, hhi⟩ : ∃ z : Int, z = if (p : Int) = 237 then 159 else 191 := ⟨_, rfl⟩
    have f1 : feedL dc0 ((UInt8.ofNat p).toNat : Int) = ([], ⟨(p : Int) % 16, 1, 2, lo, hi⟩) := by
      rw [ofN p (by omega), hb0]
      unfold beginL
      rw [if_neg (by omega), if_neg (by omega), if_pos (by omega), hlo, hhi]
    have hl1 : lo ≤ (o : Int) := by rw [hlo]; split <;> omega
    have hl2 : (o : Int) ≤ hi := by rw [hhi]; split <;> omega
    have f2 := feed_mid ((p : Int) % 16) (1) (2) (lo) (hi) ((UInt8.ofNat o).toNat : Int) (by decide) (by rw [ofN o (by omega)]; exact hl1) (by rw [ofN o (by omega)]; exact hl2) (by decide)
    rw [ofN o (by omega)] at f2
    have f3 := feed_end ((p : Int) % 16 * 64 + (o : Int) % 64) (1 + 1) (2 - 1) (128) (191) ((UInt8.ofNat q).toNat : Int) (by decide) (by rw [ofN q (by omega)]; omega) (by rw [ofN q (by omega)]; omega) (by decide)
    rw [lp_skip _ _ _ _ _ f1, lp_skip _ _ _ _ _ (by rw [ofN o (by omega)]; exact f2), lp_last _ _ _ _ _ _ f3 rfl, ofN q (by omega)]
    have e : ((p : Int) % 16 * 64 + (o : Int) % 64) * 64 + (q : Int) % 64 = (n : Int) := by omega
    rw [e]; rfl
  · rw [if_neg h3]
    obtain ⟨p, hp⟩ : ∃ p, p = 240 + n / 262144 := ⟨_, rfl⟩
    obtain ⟨k, hk⟩ : ∃ q, q = 128 + n / 4096 % 64 := ⟨_, rfl⟩
    obtain ⟨o, ho⟩ : ∃ q, q = 128 + n / 64 % 64 := ⟨_, rfl⟩
    obtain ⟨q, hq⟩ : ∃ q, q = 128 + n % 64 := ⟨_, rfl⟩
    rw [← hp, ← hq, ← ho, ← hk]
    obtain ⟨lo, hlo⟩ : ∃ z : Int, z = if (p : Int) = 240 then 144 else 128 := ⟨_, rfl⟩
    obtain ⟨hi, hhi⟩ : ∃ z : Int, z = if (p : Int) = 244 then 143 else 191 := ⟨_, rfl⟩
    have f1 : feedL dc0 ((UInt8.ofNat p).toNat : Int) = ([], ⟨(p : Int) % 8, 1, 3, lo, hi⟩) := by
      rw [ofN p (by omega), hb0]
      unfold beginL
      rw [if_neg (by omega), if_neg (by omega), if_neg (by omega), if_pos (by omega), hlo, hhi]
    have hl1 : lo ≤ (k : Int) := by rw [hlo]; split <;> omega
    have hl2 : (k : Int) ≤ hi := by rw [hhi]; split <;> omega
    have f2 := feed_mid ((p : Int) % 8) (1) (3) (lo) (hi) ((UInt8.ofNat k).toNat : Int) (by decide) (by rw [ofN k (by omega)]; exact hl1) (by rw [ofN k (by omega)]; exact hl2) (by decide)
    rw [ofN k (by omega)] at f2
    have f3 := feed_mid ((p : Int) % 8 * 64 + (k : Int) % 64) (1 + 1) (3 - 1) (128) (191) ((UInt8.ofNat o).toNat : Int) (by decide) (by rw [ofN o (by omega)]; omega) (by rw [ofN o (by omega)]; omega) (by decide)
    rw [ofN o (by omega)] at f3
    have f4 := feed_end (((p : Int) % 8 * 64 + (k : Int) % 64) * 64 + (o : Int) % 64) (1 + 1 + 1) (3 - 1 - 1) (128) (191) ((UInt8.ofNat q).toNat : Int) (by decide) (by rw [ofN q (by omega)]; omega) (by rw [ofN q (by omega)]; omega) (by decide)
    rw [lp_skip _ _ _ _ _ f1, lp_skip _ _ _ _ _ (by rw [ofN k (by omega)]; exact f2), lp_skip _ _ _ _ _ (by rw [ofN o (by omega)]; exact f3), lp_last _ _ _ _ _ _ f4 rfl, ofN q (by omega)]
    have e : (((p : Int) % 8 * 64 + (k : Int) % 64) * 64 + (o : Int) % 64) * 64 + (q : Int) % 64 = (n : Int) := by omega
    rw [e]; rfl
theorem enc_head (n : Nat) (hv : Lib.validRune (n : Int) = true) (h : 128 ≤ n) : ∃ x r, encL (n : Int) = x :: r ∧ 192 ≤ x.toNat := by
  have hv2 : n ≤ 1114111 := by
    unfold Lib.validRune at hv
    rw [decide_eq_true_eq] at hv
    omega
  rw [enc_nat n hv, if_neg (by omega)]
  split
  · exact ⟨_, _, rfl, by rw [ofN _ (by omega)]; omega⟩
  split
  · exact ⟨_, _, rfl, by rw [ofN _ (by omega)]; omega⟩
  · exact ⟨_, _, rfl, by rw [ofN _ (by omega)]; omega⟩
theorem fr_enc (up : Bool) (n : Nat) (hv : Lib.validRune (n : Int) = true) (h : 128 ≤ n) (hw : 0 < widthR (n : Int)) : frG up (encL (n : Int)) = (msOne (n : Int) 0, 2, (encL (n : Int)).length) := by
  have hL := lp_enc n hv h
  obtain ⟨x, r, e, hx⟩ := enc_head n hv h
  rw [e] at hL ⊢
  have hx27 : x ≠ 27 := fun e => by rw [e] at hx; exact absurd hx (by decide)
  rw [frG, if_pos hx27]
  show (if x.toNat < 128 then _ else bareR up (x :: r).length (bareLp 0 dc0 (x :: r))) = _
  rw [if_neg (by omega), hL]
  unfold bareR
  dsimp only
  rw [if_neg (by omega)]
theorem fr_meta_enc (up : Bool) (n : Nat) (hv : Lib.validRune (n : Int) = true) (h : 128 ≤ n) (hn : n ≤ 1114111) (hw : 0 < widthR (n : Int)) (hr : rightK (n : Int) 2 = true) : frG up (27 :: encL (n : Int)) = (msOne (n : Int) 2, 2, (encL (n : Int)).length + 1) := by
  have hF := fr_enc up n hv h hw
  obtain ⟨x, r, e, hx⟩ := enc_head n hv h
  rw [e] at hF ⊢
  have hne : ∀ y : UInt8, y.toNat < 192 → ¬ (x :: r)[0]? = some y := fun y hy e => by
    injection e with e
    rw [e] at hx; omega
  rw [frG, if_neg (fun h => h rfl), if_neg (by
    rintro (h | h)
    · cases h.1
    · exact hne 27 (by decide) h.1), if_neg (by simp), if_neg (hne 91 (by decide)), if_neg (hne 79 (by decide)), hF]
  unfold metaF
  dsimp only
  rw [if_neg (by decide), if_neg]
  · rfl
  rintro (h | h | h)
  · exact absurd h (by show ¬ ((0 : Int) / 2 % 2 = 1); decide)
  · unfold isMouse msOne at h; simp at h; omega
  · rw [show (msOne (n : Int) 0).c = (n : Int) from rfl, show (msOne (n : Int) 0).m + 2 = 2 from rfl, hr] at h; cases h
/-- What key.Bytes tells reads as one key, if the modes say that a paste is told. -/
theorem bytes_one (c m modes : Int) (h : rightK c m = true) (hmo : isMouse c = false) (h64 : bits .and .i64 modes 64 ≠ 0) : OneB (bytesL c m modes) (msOne c m) ∧ bytesL c m modes ≠ [] := by
  obtain ⟨hn, h0, h7⟩ := right_m h
  rw [bytes_B, decide_eq_false h64]
  have hj : (m.toNat : Int) = m := Int.toNat_of_nonneg h0
  have key : ∀ a, keyT c m a = true → OneB (bytesB c m a false) (msOne c m) ∧ bytesB c m a false ≠ [] := fun a ha => by
    unfold keyT at ha
    rw [h, hmo] at ha
    simp only [Bool.not_true, Bool.false_or, Bool.and_eq_true, decide_eq_true_eq] at ha
    exact ⟨oneT_B ha.1, ha.2⟩
  by_cases h1 : 1114112 ≤ c
  · have h31 : c < 1114143 := by
      have : ¬ 1114143 ≤ c := fun hc => hn (by
        unfold nameC
        rw [if_neg (by omega), if_neg (by omega), if_neg (by omega), if_neg (by omega), if_neg (by omega), if_neg (by omega)])
      omega
    have a1 := List.all_eq_true.1 keys_special (c - 1114112).toNat (List.mem_range.2 (by omega))
    have a2 := List.all_eq_true.1 a1 m.toNat (List.mem_range.2 (by omega))
    rw [show 1114112 + ((c - 1114112).toNat : Int) = c by omega, hj, Bool.and_eq_true] at a2
    cases decide (bits .and .i64 modes 16 ≠ 0)
    · exact key false a2.2
    · exact key true a2.1
  by_cases h2 : c < 128
  · have hc0 : 0 ≤ c := by have := right_pos h (by omega); omega
    have a1 := List.all_eq_true.1 keys_ascii c.toNat (List.mem_range.2 (by omega))
    have a2 := List.all_eq_true.1 a1 m.toNat (List.mem_range.2 (by omega))
    rw [Int.toNat_of_nonneg hc0, hj] at a2
    have e : ∀ a, bytesB c m a false = bytesB c m true false := fun a => by
      unfold bytesB
      rw [if_pos (show c < 1114112 by omega), if_pos (show c < 1114112 by omega)]
    rw [e]
    exact key true a2
  rcases name_cases c hn with hw | ⟨n, rfl, _, hn2, hv, hwd, _⟩
  · exfalso
    have hN : nameC c = if 32 < c ∧ c ≤ 1114111 ∧ Lib.validRune c = true ∧ 0 < widthR c then (Utf8.encode c).data.toList else [] := by
      rw [nameC, if_neg (by omega), if_neg (by omega), if_neg (by omega), if_neg (by omega), if_neg (by omega)]
    by_cases h6 : 32 < c ∧ c ≤ 1114111 ∧ Lib.validRune c = true ∧ 0 < widthR c
    · have hE : nameC c = encL c := by rw [hN, if_pos h6]; rfl
      obtain ⟨n, rfl⟩ : ∃ n : Nat, c = n := ⟨c.toNat, by omega⟩
      rw [hE] at hw
      exact enc_word n h6.2.2.1 hw
    · rw [if_neg h6] at hN; exact hn hN
  have h128 : 128 ≤ n := by omega
  have hm4 : ¬ m / 4 % 2 = 1 := fun e => by
    have := right_ctrl h (by omega) e
    omega
  have hm2 : m = 0 ∨ m = 2 := by
    have hm1 : ¬ m % 2 = 1 := fun e => by
      rw [rightK_rk hn h0 h7] at h
      unfold rk at h
      unfold isMouse at hmo
      simp at hmo
      rw [if_neg (by unfold isMouse; simp; omega), if_neg (by omega), if_pos e] at h
      cases h
    omega
  have hB : bytesB (n : Int) m (decide (bits .and .i64 modes 16 ≠ 0)) false = metaL m ++ encL (n : Int) := by
    unfold bytesB
    rw [if_neg (fun e => e.elim (fun e => by rw [h] at e; cases e) (fun e => by rw [hmo] at e; cases e)), if_pos (by omega), if_neg hm4]
  rw [hB]
  obtain ⟨x, r, e, hx⟩ := enc_head n hv h128
  rcases hm2 with rfl | rfl
  · rw [show metaL 0 = [] from rfl, List.nil_append]
    exact ⟨.inl (fr_enc false n hv h128 hwd), by rw [e]; simp⟩
  · rw [show metaL 2 = [27] from rfl]
    rw [List.singleton_append]
    exact ⟨.inl (by rw [fr_meta_enc false n hv h128 hn2 hwd h, List.length_cons]), by simp⟩
end Go.Proofs.YtncokbppijnfiaaGreatDoor
