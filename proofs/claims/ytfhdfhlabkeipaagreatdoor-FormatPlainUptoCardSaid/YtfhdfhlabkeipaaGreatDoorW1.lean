/- Format: the plain laws of FormatWays and FormatPlain: what the expander's function gives at their texts. No program in sight. -/
import Derived.Test.YtfhdfhlabkeipaaGreatDoorF5
namespace Go.Proofs.YtfhdfhlabkeipaaGreatDoor
set_option linter.unusedSimpArgs false
set_option linter.unusedVariables false

/-- FormatWays' text. -/
def sW : B := [35, 123, 63, 97, 44, 84, 44, 70, 125, 35, 123, 63, 98, 44, 84, 44, 70, 125, 35, 123, 38, 38, 58, 35, 123, 97, 125, 44, 35, 123, 98, 125, 125, 35, 123, 124, 124, 58, 35, 123, 97, 125, 44, 35, 123, 98, 125, 125, 35, 123, 61, 61, 58, 35, 123, 97, 125, 44, 35, 123, 98, 125, 125, 35, 123, 33, 61, 58, 35, 123, 97, 125, 44, 35, 123, 98, 125, 125, 35, 123, 60, 58, 35, 123, 97, 125, 44, 35, 123, 98, 125, 125, 35, 123, 62, 61, 58, 35, 123, 97, 125, 44, 35, 123, 98, 125, 125]
def scW (a b : B) : Sc := ⟨[([97], a), ([98], b)], []⟩
theorem vW_a (a b : B) : valueL [some (scW a b)] [97] = some (some a) := rfl
theorem vW_b (a b : B) : valueL [some (scW a b)] [98] = some (some b) := rfl
theorem chk_ok {acc : B} {r : Rs} (h : acc.length ≤ 8192) : chk acc r = r := if_pos h
theorem chk_bad {acc : B} {r : Rs} (h : ¬ acc.length ≤ 8192) : chk acc r = .bad 2 := if_neg h
/-- An expression that is a name of one letter. -/
theorem ex_name (d : Nat) (scs : List (Option Sc)) (c : UInt8) (v : B) (n : Nat) (hv : valueL scs [c] = some (some v)) (hc : c = 97 ∨ c = 98) (hn : n + 1 ≤ 10000) : exprL (d + 1) scs [c] n = shortL v (n + 1) := by
  unfold exprL
  rw [if_pos hn]
  have : madeL (fun scs' s n' => textL (exprL d scs') scs' s n') scs [c] (n + 1) = .ok v (n + 1) := by
    unfold madeL
    rcases hc with rfl | rfl
    · simp [outL, hv]
    · simp [outL, hv]
  rw [this]
  rfl
/-- A text that is just such an expression. -/
theorem tx_name (d : Nat) (scs : List (Option Sc)) (c : UInt8) (v : B) (n : Nat) (hv : valueL scs [c] = some (some v)) (hc : c = 97 ∨ c = 98) (hn : n + 1 ≤ 10000) : textL (exprL (d + 1) scs) scs [35, 123, c, 125] n = shortL v (n + 1) := by
  have hk : closeL ([35, 123, c, 125].drop 2) 1 0 = some 1 := by rcases hc with rfl | rfl <;> decide
  rw [textL_G, show ([35, 123, c, 125] : B) = [35, 123, c, 125].drop 0 from rfl, tg_open (i := 0) (k := 1) rfl rfl rfl rfl hk]
  show (exprL (d + 1) scs [c] n).bind _ = _
  rw [ex_name d scs c v n hv hc hn]
  unfold shortL
  by_cases h : v.length ≤ 8192
  · rw [if_pos h]
    show chk ([] ++ v) _ = _
    rw [List.nil_append, chk_ok h]
    rfl
  · rw [if_neg h]
    rfl
theorem ex_either (d : Nat) (scs : List (Option Sc)) (c : UInt8) (v : B) (n : Nat) (hv : valueL scs [c] = some (some v)) (hc : c = 97 ∨ c = 98) (hn : n + 1 ≤ 10000) : exprL (d + 1) scs [63, c, 44, 84, 44, 70] n = if v.length ≤ 8192 then .ok (if trueL v = true then [84] else [70]) (n + 1) else .bad 2 := by
  have hp : piecesF 2 [c, 44, 84, 44, 70] = [[c], [84], [70]] := by rcases hc with rfl | rfl <;> decide
  unfold exprL
  rw [if_pos hn]
  have : madeL (fun scs' s n' => textL (exprL d scs') scs' s n') scs [63, c, 44, 84, 44, 70] (n + 1) = eitherL (fun scs' s n' => textL (exprL d scs') scs' s n') scs [c, 44, 84, 44, 70] (n + 1) := rfl
  rw [this]
  unfold eitherL
  rw [hp]
  show Rs.bind (match valueL scs [c] with | some (some v) => _ | _ => Rs.no) shortL = _
  rw [hv]
  dsimp only
  by_cases h : v.length ≤ 8192
  · rw [if_pos h, if_pos h]
    by_cases ht : trueL v = true
    · rw [if_pos ht, if_pos ht]; rfl
    · rw [if_neg ht, if_neg ht]; rfl
  · rw [if_neg h, if_neg h]; rfl
theorem ex_cmp (d : Nat) (scs : List (Option Sc)) (hd : B) (a b : B) (n : Nat) (ha : valueL scs [97] = some (some a)) (hb : valueL scs [98] = some (some b)) (hn : n + 3 ≤ 10000) (hh : isCmp hd = true) (h63 : ∀ r, hd ≠ 63 :: r) (ho : outL 58 (hd ++ [58, 35, 123, 97, 125, 44, 35, 123, 98, 125]) 0 0 = some hd.length) (hla : a.length ≤ 8192) (hlb : b.length ≤ 8192) (hne : hd ≠ []) :
    exprL (d + 2) scs (hd ++ [58, 35, 123, 97, 125, 44, 35, 123, 98, 125]) n = .ok (flagL (cmpL hd a b)) (n + 3) := by
  unfold exprL
  rw [if_pos (by omega)]
  have hm : madeL (fun scs' s n' => textL (exprL (d + 1) scs') scs' s n') scs (hd ++ [58, 35, 123, 97, 125, 44, 35, 123, 98, 125]) (n + 1) = .ok (flagL (cmpL hd a b)) (n + 3) := by
    have h1 : madeL (fun scs' s n' => textL (exprL (d + 1) scs') scs' s n') scs (hd ++ [58, 35, 123, 97, 125, 44, 35, 123, 98, 125]) (n + 1) = twoL ((fun scs' s n' => textL (exprL (d + 1) scs') scs' s n') scs) [35, 123, 97, 125, 44, 35, 123, 98, 125] (n + 1) fun x y n2 => .ok (flagL (cmpL hd x y)) n2 := by
      unfold madeL
      cases hd with
      | nil => exact absurd rfl hne
      | cons x t =>
        have hx : x ≠ 63 := fun h => h63 t (by rw [h])
        rw [List.cons_append] at ho ⊢
        split
        · rename_i h
          injection h with h _
          exact absurd h hx
        · rw [ho]
          dsimp only
          have e1 : (x :: (t ++ [58, 35, 123, 97, 125, 44, 35, 123, 98, 125])).take (x :: t).length = x :: t := by rw [← List.cons_append, List.take_left]
          have e2 : (x :: (t ++ [58, 35, 123, 97, 125, 44, 35, 123, 98, 125])).drop ((x :: t).length + 1) = [35, 123, 97, 125, 44, 35, 123, 98, 125] := by rw [← List.cons_append, ← List.drop_drop, List.drop_left]; rfl
          rw [e1, e2, if_pos hh]
    rw [h1]
    unfold twoL
    rw [show piecesF 1 [35, 123, 97, 125, 44, 35, 123, 98, 125] = [[35, 123, 97, 125], [35, 123, 98, 125]] by decide]
    dsimp only
    rw [tx_name d scs 97 a (n + 1) ha (.inl rfl) (by omega)]
    unfold shortL
    rw [if_pos hla]
    dsimp only [Rs.bind]
    rw [tx_name d scs 98 b (n + 1 + 1) hb (.inr rfl) (by omega)]
    unfold shortL
    rw [if_pos hlb]
  rw [hm]
  show shortL _ _ = _
  unfold shortL
  rw [if_pos (by unfold flagL; split <;> decide)]
theorem w_step {ex : B → Nat → Rs} {scs : List (Option Sc)} {i k n n' : Nat} {acc v : B} (h0 : sW[i]? = some 35) (h1 : sW[i + 1]? = some 123) (hk : closeL (sW.drop (i + 2)) 1 0 = some k) (he : ex ((sW.drop (i + 2)).take k) n = .ok v n') (hl : (acc ++ v).length ≤ 8192) :
    textG ex scs (sW.drop i) acc n = textG ex scs (sW.drop (i + 2 + k + 1)) (acc ++ v) n' := by
  rw [tg_open h0 rfl h1 rfl hk, he]
  exact chk_ok hl
def tf (b : Bool) : B := if b then [84] else [70]
/-- What FormatWays wants. -/
def wantW (a b : B) : B := tf (trueL a) ++ tf (trueL b) ++ flagL (trueL a && trueL b) ++ flagL (trueL a || trueL b) ++ flagL (a == b) ++ flagL (a != b) ++ flagL (Op.bytesLess a b) ++ flagL (!(Op.bytesLess a b))
theorem tf_len (b : Bool) : (tf b).length = 1 := by cases b <;> rfl
theorem wflag_len (b : Bool) : (flagL b).length = 1 := by cases b <;> rfl
theorem tf_if (v : B) : (if trueL v = true then [84] else [70] : B) = tf (trueL v) := rfl
theorem ways_ok (a b : B) (ha : a.length ≤ 8192) (hb : b.length ≤ 8192) : expandL [some (scW a b)] sW = .ok (wantW a b) 20 := by
  have va := vW_a a b
  have vb := vW_b a b
  obtain ⟨scs, hs⟩ : ∃ scs, scs = [some (scW a b)] := ⟨_, rfl⟩
  rw [← hs] at va vb ⊢
  have e0 := ex_either 15 scs 97 a 0 va (.inl rfl) (by omega)
  rw [if_pos ha, tf_if] at e0
  have e1 := ex_either 15 scs 98 b 1 vb (.inr rfl) (by omega)
  rw [if_pos hb, tf_if] at e1
  have e2 := ex_cmp 14 scs [38, 38] a b 2 va vb (by omega) (by decide) (by intro r h; cases h) (by decide) ha hb (by decide)
  have e3 := ex_cmp 14 scs [124, 124] a b 5 va vb (by omega) (by decide) (by intro r h; cases h) (by decide) ha hb (by decide)
  have e4 := ex_cmp 14 scs [61, 61] a b 8 va vb (by omega) (by decide) (by intro r h; cases h) (by decide) ha hb (by decide)
  have e5 := ex_cmp 14 scs [33, 61] a b 11 va vb (by omega) (by decide) (by intro r h; cases h) (by decide) ha hb (by decide)
  have e6 := ex_cmp 14 scs [60] a b 14 va vb (by omega) (by decide) (by intro r h; cases h) (by decide) ha hb (by decide)
  have e7 := ex_cmp 14 scs [62, 61] a b 17 va vb (by omega) (by decide) (by intro r h; cases h) (by decide) ha hb (by decide)
  unfold expandL
  rw [if_pos (by decide), textL_G]
  rw [show textG (exprL 16 scs) scs sW [] 0 = textG (exprL 16 scs) scs (sW.drop 0) [] 0 from rfl]
  rw [w_step (k := 6) rfl rfl (by decide) e0 (by simp [tf_len])]
  rw [w_step (k := 6) rfl rfl (by decide) e1 (by simp [tf_len])]
  rw [w_step (k := 12) rfl rfl (by decide) e2 (by simp [tf_len, wflag_len])]
  rw [w_step (k := 12) rfl rfl (by decide) e3 (by simp [tf_len, wflag_len])]
  rw [w_step (k := 12) rfl rfl (by decide) e4 (by simp [tf_len, wflag_len])]
  rw [w_step (k := 12) rfl rfl (by decide) e5 (by simp [tf_len, wflag_len])]
  rw [w_step (k := 11) rfl rfl (by decide) e6 (by simp [tf_len, wflag_len])]
  rw [w_step (k := 12) rfl rfl (by decide) e7 (by simp [tf_len, wflag_len])]
  rw [tg_end (by decide)]
  rfl
theorem ways_bad (a b : B) (h : ¬ (a.length ≤ 8192 ∧ b.length ≤ 8192)) : expandL [some (scW a b)] sW = .bad 2 := by
  have va := vW_a a b
  have vb := vW_b a b
  obtain ⟨scs, hs⟩ : ∃ scs, scs = [some (scW a b)] := ⟨_, rfl⟩
  rw [← hs] at va vb ⊢
  have e0 := ex_either 15 scs 97 a 0 va (.inl rfl) (by omega)
  unfold expandL
  rw [if_pos (by decide), textL_G]
  rw [show textG (exprL 16 scs) scs sW [] 0 = textG (exprL 16 scs) scs (sW.drop 0) [] 0 from rfl]
  by_cases ha : a.length ≤ 8192
  · have hb : ¬ b.length ≤ 8192 := fun hb => h ⟨ha, hb⟩
    rw [if_pos ha, tf_if] at e0
    have e1 := ex_either 15 scs 98 b 1 vb (.inr rfl) (by omega)
    rw [if_neg hb] at e1
    rw [w_step (k := 6) rfl rfl (by decide) e0 (by simp [tf_len])]
    rw [tg_open (k := 6) rfl rfl rfl rfl (by decide)]
    rw [show ((sW.drop (0 + 2 + 6 + 1 + 2)).take 6) = [63, 98, 44, 84, 44, 70] from rfl, e1]
    rfl
  · rw [if_neg ha] at e0
    rw [tg_open (k := 6) rfl rfl rfl rfl (by decide)]
    rw [show ((sW.drop (0 + 2)).take 6) = [63, 97, 44, 84, 44, 70] from rfl, e0]
    rfl

/-- Each # doubled. -/
def dblL : B → B
  | [] => []
  | c :: r => if c = 35 then 35 :: 35 :: dblL r else c :: dblL r
def quoL : B → B
  | [] => []
  | c :: r => if c = 35 ∨ c = 125 then 35 :: c :: quoL r else c :: quoL r
theorem dbl_len : ∀ s : B, s.length ≤ (dblL s).length
  | [] => Nat.le_refl _
  | c :: r => by
    have := dbl_len r
    unfold dblL
    split <;> simp only [List.length_cons] <;> omega
theorem tg_dbl {ex : B → Nat → Rs} {scs : List (Option Sc)} : ∀ (s acc : B) (n : Nat), (acc ++ s).length ≤ 8192 → textG ex scs (dblL s) acc n = .ok (acc ++ s) n
  | [], acc, n, _ => by rw [List.append_nil]; rfl
  | c :: r, acc, n, h => by
    have h1 : (acc ++ [c]).length ≤ 8192 := by simp only [List.length_append, List.length_cons, List.length_nil] at h ⊢; omega
    have h2 : (acc ++ [c] ++ r).length ≤ 8192 := by simpa using h
    have ih := tg_dbl (ex := ex) (scs := scs) r (acc ++ [c]) n h2
    rw [List.append_assoc, List.singleton_append] at ih
    unfold dblL
    by_cases hc : c = 35
    · subst hc
      rw [if_pos rfl, textG_cons]
      dsimp only
      rw [if_pos rfl, if_pos (.inl rfl)]
      show chk (acc ++ [35]) (textG ex scs (dblL r) (acc ++ [35]) n) = _
      rw [chk_ok h1, ih]
    · rw [if_neg hc, textG_cons]
      dsimp only
      rw [if_neg hc, if_neg (by decide), if_neg (by decide), if_neg (by decide), chk_ok h1, ih]
theorem plain_ok (o : Option Sc) (s : B) (h : (dblL s).length ≤ 8192) : expandL [o] (dblL s) = .ok s 0 := by
  unfold expandL
  rw [if_pos h, textL_G, tg_dbl s [] 0 (by have := dbl_len s; simp only [List.nil_append]; omega), List.nil_append]
theorem long_bad (scs : List (Option Sc)) (s : B) (h : ¬ s.length ≤ 8192) : expandL scs s = .bad 2 := by
  unfold expandL
  rw [if_neg h]
theorem dbl_same : ∀ s : B, (35 ∈ s) ∨ dblL s = s
  | [] => .inr rfl
  | c :: r => by
    by_cases hc : c = 35
    · exact .inl (by rw [hc]; simp)
    · rcases dbl_same r with h | h
      · exact .inl (by simp [h])
      · right
        unfold dblL
        rw [if_neg hc, h]
theorem cl_quo : ∀ (s t : B) (d k : Nat), closeL (quoL s ++ t) d k = closeL t d (k + (quoL s).length)
  | [], t, d, k => by simp [quoL]
  | c :: r, t, d, k => by
    unfold quoL
    by_cases hc : c = 35 ∨ c = 125
    · rw [if_pos hc, List.cons_append, List.cons_append, closeL_cons, if_neg (by decide), if_pos rfl]
      dsimp only
      rw [if_neg (by rcases hc with rfl | rfl <;> decide), if_pos (by rcases hc with rfl | rfl <;> decide), cl_quo r t d (k + 2)]
      congr 1
      simp only [List.length_cons]
      omega
    · rw [if_neg hc, List.cons_append, closeL_cons, if_neg (fun h => hc (.inr h)), if_neg (fun h => hc (.inl h)), cl_quo r t d (k + 1)]
      congr 1
      simp only [List.length_cons]
      omega
theorem quo_ok (o : Option Sc) (s : B) (h : (quoL s).length + 5 ≤ 8192) : expandL [o] ([35, 123, 108, 58] ++ quoL s ++ [125]) = .ok (quoL s) 1 := by
  obtain ⟨q, hq⟩ : ∃ q, q = quoL s := ⟨_, rfl⟩
  have hk : closeL (([35, 123, 108, 58] ++ q ++ [125]).drop (0 + 2)) 1 0 = some (q.length + 2) := by
    show closeL (108 :: 58 :: (q ++ [125])) 1 0 = _
    rw [closeL_cons, if_neg (by decide), if_neg (by decide), closeL_cons, if_neg (by decide), if_neg (by decide), hq, cl_quo, closeL_cons, if_pos rfl, if_pos rfl]
    congr 1
    omega
  rw [← hq] at h ⊢
  have hx : exprL 16 [o] (108 :: 58 :: q) 0 = .ok q 1 := by
    unfold exprL
    rw [if_pos (by omega)]
    have ho : outL 58 (108 :: 58 :: q) 0 0 = some 1 := by
      rw [outL_cons, if_neg (by decide), if_neg (by decide), if_neg (by decide), outL_cons, if_pos (by decide)]
    have hm : madeL (fun scs' s n' => textL (exprL 15 scs') scs' s n') [o] (108 :: 58 :: q) (0 + 1) = shortL q 1 := by
      unfold madeL
      split
      · rename_i h
        injection h with h _
        cases h
      · rw [ho]
        rfl
    rw [hm]
    unfold shortL
    rw [if_pos (by omega)]
    show shortL q 1 = _
    unfold shortL
    rw [if_pos (by omega)]
  unfold expandL
  rw [if_pos (by simp; omega), textL_G, show textG (exprL 16 [o]) [o] ([35, 123, 108, 58] ++ q ++ [125]) [] 0 = textG (exprL 16 [o]) [o] (([35, 123, 108, 58] ++ q ++ [125]).drop 0) [] 0 from rfl]
  rw [tg_open (k := q.length + 2) rfl rfl rfl rfl hk]
  have e1 : ((([35, 123, 108, 58] ++ q ++ [125]).drop (0 + 2)).take (q.length + 2)) = 108 :: 58 :: q := by
    show (108 :: 58 :: (q ++ [125])).take (q.length + 2) = _
    simp
  rw [e1, hx]
  show chk ([] ++ q) (textG _ _ _ ([] ++ q) 1) = _
  rw [List.nil_append, chk_ok (by omega), tg_end (by simp; omega)]
end Go.Proofs.YtfhdfhlabkeipaaGreatDoor
