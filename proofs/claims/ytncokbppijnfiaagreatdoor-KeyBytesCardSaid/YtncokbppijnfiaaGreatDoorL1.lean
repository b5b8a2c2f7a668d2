/- Key: what a mouse's bytes are read as. No program in sight. -/
import Derived.Test.YtncokbppijnfiaaGreatDoorK0
import Derived.Lib.SplitLaws
import Derived.Lib.AtoiAllCases
import Derived.Lib.ItoaNum
namespace Go.Proofs.YtncokbppijnfiaaGreatDoor
set_option linter.unusedSimpArgs false
set_option linter.unusedVariables false

theorem index_semi (a r : List UInt8) (h : (59 : UInt8) ∉ a) : Lib.index (a ++ 59 :: r) [59] = a.length := by
  induction a with
  | nil => simp [Lib.index, List.isPrefixOf]
  | cons b a ih =>
    have hb : (59 : UInt8) ≠ b := fun e => h (by rw [e]; exact List.mem_cons_self)
    have := ih fun hm => h (List.mem_cons_of_mem _ hm)
    rw [List.cons_append, Lib.index]
    have hp : ([59] : List UInt8).isPrefixOf (b :: (a ++ 59 :: r)) = false := by simp [List.isPrefixOf, hb]
    rw [hp, this]
    have h1 : ((a.length : Int) == -1) = false := by rw [beq_eq_false_iff_ne]; omega
    simp [h1]
theorem index_nosemi (a : List UInt8) (h : (59 : UInt8) ∉ a) : Lib.index a [59] = -1 := by
  induction a with
  | nil => simp [Lib.index]
  | cons b a ih =>
    have hb : (59 : UInt8) ≠ b := fun e => h (by rw [e]; exact List.mem_cons_self)
    have := ih fun hm => h (List.mem_cons_of_mem _ hm)
    rw [Lib.index]
    have hp : ([59] : List UInt8).isPrefixOf (b :: a) = false := by simp [List.isPrefixOf, hb]
    rw [hp, this]; rfl
theorem piecesL_eq (p : List UInt8) : piecesL p = Lib.splitK [59] 0 (p.count 59) p := by
  unfold piecesL
  rw [Lib.splitB_data]
  have : Lib.countB ⟨p.toArray⟩ ⟨#[59]⟩ = p.count 59 := by
    show Lib.count _ _ = _
    simp only [List.toList_toArray]
    exact Lib.count_one 59 p
  rw [this]
theorem pieces_cons (a r : List UInt8) (h : (59 : UInt8) ∉ a) : piecesL (a ++ 59 :: r) = a :: piecesL r := by
  rw [piecesL_eq, piecesL_eq]
  have hc : (a ++ 59 :: r).count 59 = r.count 59 + 1 := by
    rw [List.count_append, List.count_eq_zero.2 h, List.count_cons_self]; omega
  rw [hc, Lib.splitK, index_semi a r h]
  have h1 : ((a.length : Int) == -1) = false := by rw [beq_eq_false_iff_ne]; omega
  rw [h1]
  simp
theorem pieces_one (a : List UInt8) (h : (59 : UInt8) ∉ a) : piecesL a = [a] := by
  rw [piecesL_eq, List.count_eq_zero.2 h]; rfl
theorem parse_app : ∀ (l : List UInt8) (acc u : Nat) (d : UInt8), Lib.parseUint10 acc l = .ok u → 48 ≤ d.toNat → d.toNat ≤ 57 → u ≤ 1000000 → Lib.parseUint10 acc (l ++ [d]) = .ok (u * 10 + (d.toNat - 48))
  | [], acc, u, d, h, h1, h2, h3 => by
    simp only [Lib.parseUint10] at h
    injection h with h
    subst h
    rw [List.nil_append, Lib.parseUint10, if_pos ⟨h1, h2⟩, if_neg (by omega), if_neg (by omega)]; rfl
  | c :: r, acc, u, d, h, h1, h2, h3 => by
    simp only [Lib.parseUint10] at h
    rw [List.cons_append, Lib.parseUint10]
    split at h
    · rename_i hc
      rw [if_pos hc]
      split at h
      · cases h
      · rename_i h4
        rw [if_neg h4]
        split at h
        · cases h
        · rename_i h5
          rw [if_neg h5]
          exact parse_app r _ u d h h1 h2 h3
    · cases h
theorem digU (k : Nat) (h : k < 10) : (UInt8.ofNat (48 + k)).toNat = 48 + k := by
  rw [UInt8.toNat_ofNat']; omega
theorem dd_facts : ∀ (u : Nat), u ≤ 1000000 → Lib.parseUint10 0 (Lib.decDigits u) = .ok u ∧ (∀ c ∈ Lib.decDigits u, 48 ≤ c.toNat ∧ c.toNat ≤ 57) ∧ Lib.decDigits u ≠ [] := by
  intro u
  induction u using Nat.strongRecOn with
  | _ u ih =>
    intro hu
    rw [Lib.decDigits]
    split
    · rename_i h
      have := digU u h
      refine ⟨?_, fun c hc => ?_, by simp⟩
      · rw [Lib.parseUint10, if_pos (by omega), if_neg (by omega), if_neg (by omega), Lib.parseUint10, this]; congr 1; omega
      · rw [List.mem_singleton] at hc; subst hc; omega
    · rename_i h
      obtain ⟨h1, h2, h3⟩ := ih (u / 10) (by omega) (by omega)
      have := digU (u % 10) (by omega)
      refine ⟨?_, fun c hc => ?_, by simp⟩
      · rw [parse_app _ _ _ _ h1 (by omega) (by omega) (by omega), this]; congr 1; omega
      · rcases List.mem_append.1 hc with hc | hc
        · exact h2 c hc
        · rw [List.mem_singleton] at hc; subst hc; omega
theorem dd_len : ∀ (k u : Nat), u < 10 ^ (k + 1) → (Lib.decDigits u).length ≤ k + 1
  | 0, u, h => by rw [Lib.decDigits, dif_pos (by omega)]; simp
  | k + 1, u, h => by
    rw [Lib.decDigits]
    split
    · simp
    · have := dd_len k (u / 10) (by rw [Nat.pow_succ] at h; omega)
      simp; omega
theorem itoa_nat (n : Nat) : Lib.itoa (n : Int) = Lib.decDigits n := by unfold Lib.itoa; rw [if_neg (by omega)]; rfl
theorem numL_dd (n : Nat) (h : n < 10000) : numL (Lib.decDigits n) = some (n : Int) := by
  obtain ⟨h1, h2, h3⟩ := dd_facts n (by omega)
  have hl := dd_len 3 n (by omega)
  obtain ⟨c, r, hc⟩ : ∃ c r, Lib.decDigits n = c :: r := by
    cases hd : Lib.decDigits n with
    | nil => exact absurd hd h3
    | cons c r => exact ⟨c, r, rfl⟩
  have hc1 := h2 c (by rw [hc]; exact List.mem_cons_self)
  unfold numL
  rw [hc] at h1 hl ⊢
  rw [Lib.atoiAll_plain c r (by omega) (by omega), Lib.parseMag, if_neg (by simp), h1]
  simp only [Lib.signless]
  rw [if_neg (by omega)]
  dsimp only
  rw [if_neg]
  rintro (h4 | h4)
  · omega
  · simp at h4; omega
theorem dd_nosemi (n : Nat) (h : n ≤ 1000000) : (59 : UInt8) ∉ Lib.decDigits n := fun hm => by
  have := (dd_facts n h).2.1 59 hm
  simp at this
theorem dd_par (n : Nat) (h : n ≤ 1000000) : ∀ c ∈ Lib.decDigits n, parB c = true := fun c hc => by
  have := (dd_facts n h).2.1 c hc
  unfold parB
  simp only [Bool.and_eq_true, decide_eq_true_eq]; omega
theorem listed_one (a : Nat) (ha : a < 10000) : listedL (Lib.decDigits a) = some [(a : Int)] := by
  unfold listedL
  rw [pieces_one _ (dd_nosemi a (by omega))]
  simp only [listedF, numL_dd a ha, Option.map_some]
theorem listed_cons (a : Nat) (r : List UInt8) (ha : a < 10000) : listedL (Lib.decDigits a ++ 59 :: r) = (listedL r).map ((a : Int) :: ·) := by
  unfold listedL
  rw [pieces_cons _ _ (dd_nosemi a (by omega))]
  simp only [listedF, numL_dd a ha]
/-- The bytes of a mouse behind ESC [ <, without the last one. -/
def mouseP (n x y : Nat) : List UInt8 := Lib.decDigits n ++ 59 :: (Lib.decDigits x ++ 59 :: Lib.decDigits y)
theorem listed_mouse (n x y : Nat) (hn : n < 10000) (hx : x < 10000) (hy : y < 10000) : listedL (mouseP n x y) = some [(n : Int), (x : Int), (y : Int)] := by
  unfold mouseP
  rw [listed_cons n _ hn, listed_cons x _ hx, listed_one y hy]; rfl
theorem tw_all (p : UInt8 → Bool) (q : List UInt8) (r : List UInt8) (hq : ∀ c ∈ q, p c = true) : (q ++ r).takeWhile p = q ++ r.takeWhile p := by
  induction q with
  | nil => rfl
  | cons a q ih =>
    rw [List.cons_append, List.takeWhile_cons, if_pos (hq a List.mem_cons_self), ih fun c hc => hq c (List.mem_cons_of_mem _ hc)]; rfl
theorem br_of (q : List UInt8) (z : UInt8) (rest : List UInt8) (up : Bool) (hq : ∀ c ∈ q, parB c = true) (hl : q.length ≤ 30) (h1 : 64 ≤ z.toNat) (h2 : z.toNat ≤ 126) :
    bracketL (27 :: 91 :: (q ++ z :: rest)) up = if (sequenceL q z).2 then ((sequenceL q z).1, 2, q.length + 3) else (msNone, 1, q.length + 3) := by
  have hz : parB z = false := by
    unfold parB
    rw [Bool.and_eq_false_iff]; right; simp; omega
  have ht : (((27 :: 91 :: (q ++ z :: rest)).drop 2).take 31).takeWhile parB = q := by
    show ((q ++ z :: rest).take 31).takeWhile parB = q
    rw [List.take_append, List.take_of_length_le (by omega), tw_all parB _ _ hq]
    rw [show 31 - q.length = (30 - q.length) + 1 by omega, List.take_succ_cons, List.takeWhile_cons, if_neg (by rw [hz]; simp), List.append_nil]
  unfold bracketL
  rw [ht]
  have hk : (27 :: 91 :: (q ++ z :: rest))[2 + q.length]? = some z := by
    rw [show 2 + q.length = q.length + 1 + 1 by omega, List.getElem?_cons_succ, List.getElem?_cons_succ]
    simp
  have ht2 : ((27 :: 91 :: (q ++ z :: rest)).take (2 + q.length)).drop 2 = q := by
    rw [show 2 + q.length = q.length + 1 + 1 by omega, List.take_succ_cons, List.take_succ_cons]
    simp
  dsimp only
  rw [if_neg (by omega), hk]
  dsimp only
  rw [if_pos ⟨h1, h2⟩, ht2]
  split
  · rw [show 2 + q.length + 1 = q.length + 3 by omega]
  · rw [show 2 + q.length + 1 = q.length + 3 by omega]
theorem mouseP_len (n x y : Nat) (hn : n < 10000) (hx : x < 10000) (hy : y < 10000) : (mouseP n x y).length ≤ 14 := by
  have h1 := dd_len 3 n (by omega); have h2 := dd_len 3 x (by omega); have h3 := dd_len 3 y (by omega)
  unfold mouseP
  simp only [List.length_append, List.length_cons]; omega
theorem mouseP_par (n x y : Nat) (hn : n < 10000) (hx : x < 10000) (hy : y < 10000) : ∀ c ∈ 60 :: mouseP n x y, parB c = true := by
  intro c hc
  unfold mouseP at hc
  simp only [List.mem_cons, List.mem_append] at hc
  rcases hc with rfl | hc | rfl | hc | rfl | hc
  · decide
  · exact dd_par n (by omega) c hc
  · decide
  · exact dd_par x (by omega) c hc
  · decide
  · exact dd_par y (by omega) c hc
/-- The number that a mouse's bytes begin with. -/
def mouseN (c m b : Int) : Int := (if c = 1114139 then 64 else if c = 1114140 then 65 else if c = 1114138 then b - 1 + 32 else b - 1) + 4 * m
def mouseZ (c : Int) : UInt8 := if c = 1114137 then 109 else 77
def mouseL (k : Ms) : List UInt8 := [27, 91, 60] ++ Lib.itoa (mouseN k.c k.m k.b) ++ [59] ++ Lib.itoa (k.x + 1) ++ [59] ++ Lib.itoa (k.y + 1) ++ [mouseZ k.c]
structure MouseOk (k : Ms) : Prop where
  c : 1114136 ≤ k.c ∧ k.c ≤ 1114140
  m : 0 ≤ k.m ∧ k.m ≤ 7
  b : if 1114139 ≤ k.c then k.b = 0 else 1 ≤ k.b ∧ k.b ≤ 3
  x : 0 ≤ k.x ∧ k.x ≤ 9998
  y : 0 ≤ k.y ∧ k.y ≤ 9998
theorem pointed_mouse (k : Ms) (h : MouseOk k) (n x y : Nat) (hn : mouseN k.c k.m k.b = n) (hx : k.x + 1 = x) (hy : k.y + 1 = y) (hn2 : n < 10000) : pointedL (mouseP n x y) (mouseZ k.c) = (k, true) := by
  obtain ⟨c, m, b, x0, y0⟩ := k
  obtain ⟨⟨c1, c2⟩, ⟨m1, m2⟩, hb, ⟨x1, x2⟩, ⟨y1, y2⟩⟩ := h
  dsimp only at *
  unfold pointedL
  rw [listed_mouse n x y hn2 (by omega) (by omega)]
  dsimp only
  have hz : mouseZ c = 77 ∨ mouseZ c = 109 := by unfold mouseZ; split <;> simp
  rw [if_neg (by
    rintro (h | h | ⟨h3, h4⟩)
    · omega
    · omega
    · rcases hz with h | h
      · exact h3 h
      · exact h4 h)]
  have hc : c = 1114136 ∨ c = 1114137 ∨ c = 1114138 ∨ c = 1114139 ∨ c = 1114140 := by omega
  have ex : (x : Int) - 1 = x0 := by omega
  have ey : (y : Int) - 1 = y0 := by omega
  rw [ex, ey]
  rcases hc with rfl | rfl | rfl | rfl | rfl
  · rw [if_neg (by decide)] at hb
    have hn' : (n : Int) = b - 1 + 4 * m := by rw [← hn]; rfl
    have e1 : (n : Int) / 32 * 32 + (n : Int) % 4 = b - 1 := by omega
    have e2 : (n : Int) / 4 % 8 = m := by omega
    rw [e1, e2, if_pos (by omega), show b - 1 + 1 = b by omega]; rfl
  · rw [if_neg (by decide)] at hb
    have hn' : (n : Int) = b - 1 + 4 * m := by rw [← hn]; rfl
    have e1 : (n : Int) / 32 * 32 + (n : Int) % 4 = b - 1 := by omega
    have e2 : (n : Int) / 4 % 8 = m := by omega
    rw [e1, e2, if_pos (by omega), show b - 1 + 1 = b by omega]; rfl
  · rw [if_neg (by decide)] at hb
    have hn' : (n : Int) = b - 1 + 32 + 4 * m := by rw [← hn]; rfl
    have e1 : (n : Int) / 32 * 32 + (n : Int) % 4 = b + 31 := by omega
    have e2 : (n : Int) / 4 % 8 = m := by omega
    rw [e1, e2, if_neg (by omega), if_pos (by omega), show b + 31 - 31 = b by omega]; rfl
  · rw [if_pos (by decide)] at hb
    have hn' : (n : Int) = 64 + 4 * m := by rw [← hn]; rfl
    have e1 : (n : Int) / 32 * 32 + (n : Int) % 4 = 64 := by omega
    have e2 : (n : Int) / 4 % 8 = m := by omega
    rw [e1, e2, if_neg (by omega), if_neg (by omega), if_pos rfl, hb]; rfl
  · rw [if_pos (by decide)] at hb
    have hn' : (n : Int) = 65 + 4 * m := by rw [← hn]; rfl
    have e1 : (n : Int) / 32 * 32 + (n : Int) % 4 = 65 := by omega
    have e2 : (n : Int) / 4 % 8 = m := by omega
    rw [e1, e2, if_neg (by omega), if_neg (by omega), if_neg (by omega), if_pos rfl, hb]; rfl
theorem mouseN_in (k : Ms) (h : MouseOk k) : 0 ≤ mouseN k.c k.m k.b ∧ mouseN k.c k.m k.b ≤ 93 := by
  obtain ⟨⟨c1, c2⟩, ⟨m1, m2⟩, hb, _, _⟩ := h
  unfold mouseN
  split at hb
  · repeat' split
    all_goals omega
  · repeat' split
    all_goals omega
/-- A mouse's bytes: their form. -/
theorem mouseL_form (k : Ms) (h : MouseOk k) : ∃ q, mouseL k = 27 :: 91 :: ((60 :: q) ++ [mouseZ k.c]) ∧ q.length ≤ 14 ∧ (∀ c ∈ 60 :: q, parB c = true) ∧ pointedL q (mouseZ k.c) = (k, true) := by
  obtain ⟨n1, n2⟩ := mouseN_in k h
  obtain ⟨n, hn⟩ : ∃ n : Nat, mouseN k.c k.m k.b = n := ⟨_, (Int.toNat_of_nonneg n1).symm⟩
  obtain ⟨x, hx⟩ : ∃ n : Nat, k.x + 1 = n := ⟨_, (Int.toNat_of_nonneg (by have := h.x; omega)).symm⟩
  obtain ⟨y, hy⟩ : ∃ n : Nat, k.y + 1 = n := ⟨_, (Int.toNat_of_nonneg (by have := h.y; omega)).symm⟩
  have x2 := h.x; have y2 := h.y
  refine ⟨mouseP n x y, ?_, mouseP_len n x y (by omega) (by omega) (by omega), mouseP_par n x y (by omega) (by omega) (by omega), pointed_mouse k h n x y hn hx hy (by omega)⟩
  unfold mouseL mouseP
  rw [hn, hx, hy, itoa_nat, itoa_nat, itoa_nat]
  simp
theorem bracket_mouse (k : Ms) (h : MouseOk k) : bracketL (mouseL k) false = (k, 2, (mouseL k).length) := by
  obtain ⟨q, hq, hl, hp, hk⟩ := mouseL_form k h
  have hz : (mouseZ k.c).toNat = 77 ∨ (mouseZ k.c).toNat = 109 := by unfold mouseZ; split <;> simp
  have hs : sequenceL (60 :: q) (mouseZ k.c) = (k, true) := by unfold sequenceL; rw [if_pos (show (60 :: q).head? = some 60 from rfl)]; exact hk
  rw [hq, br_of (60 :: q) (mouseZ k.c) [] false hp (by simp; omega) (by omega) (by omega), hs]
  simp
end Go.Proofs.YtncokbppijnfiaaGreatDoor
