/- Format: Match: does a pattern mean a text? -/
import Derived.Test.YtfhdfhlabkeipaaGreatDoorC3
namespace Go.Proofs.YtfhdfhlabkeipaaGreatDoor
open Go.RowKit
set_option linter.unusedSimpArgs false
set_option linter.unusedVariables false

theorem suf_tail {r p : B} (h : r <:+ p) : r.tail <:+ p := (List.tail_suffix r).trans h
theorem classIn_suf (c : UInt8) : ∀ (f : Nat) (first : Bool) (s : B) (is : Bool) (x : Bool × B), classIn c f first s is = some x → x.2 <:+ s
  | 0, _, _, _, _, h => by simp [classIn] at h
  | f + 1, first, s, is, x, h => by
    cases s with
    | nil => simp [classIn] at h
    | cons a r =>
      rw [classIn] at h
      have hr : r <:+ a :: r := List.suffix_cons a r
      split at h
      · injection h with h
        subst h
        exact hr
      · split at h
        · exact (classIn_suf c f _ _ _ _ h).trans (suf_tail (suf_tail hr))
        · exact (classIn_suf c f _ _ _ _ h).trans hr
theorem classL_suf {s : B} {c : UInt8} {x : Bool × B} (h : classL s c = some x) : x.2 <:+ s := by
  unfold classL at h
  dsimp only at h
  rw [Option.map_eq_some_iff] at h
  obtain ⟨y, hy, rfl⟩ := h
  have := classIn_suf c _ _ _ _ _ hy
  refine this.trans ?_
  have : ∀ b : Bool, (if b = true then s.tail else s) <:+ s := fun b => by
    cases b
    · exact List.suffix_refl _
    · exact List.tail_suffix s
  exact this _
theorem partL_suf (p : B) (c : UInt8) : (partL p c).2 <:+ p := by
  cases p with
  | nil => exact List.suffix_refl _
  | cons a r =>
    have hr : r <:+ a :: r := List.suffix_cons a r
    unfold partL
    dsimp only
    split
    · exact hr
    · split
      · cases hc : classL r c with
        | none => exact hr
        | some x => exact (classL_suf hc).trans hr
      · split
        · cases r with
          | nil => exact hr
          | cons b r' => exact (List.suffix_cons b r').trans hr
        · exact hr
theorem drop_suf {r p : B} (h : r <:+ p) : p.drop (p.length - r.length) = r := (List.suffix_iff_eq_drop.1 h).symm
theorem partE_at {P : B} {i : Nat} (hi : i < P.length) (c : UInt8) : i < partE P i c ∧ partE P i c ≤ P.length ∧ P.drop (partE P i c) = (partL (P.drop i) c).2 := by
  have hne : P.drop i ≠ [] := fun h => by
    have := congrArg List.length h
    rw [List.length_drop] at this
    simp at this; omega
  have h1 := partL_len c hne
  rw [List.length_drop] at h1
  unfold partE
  refine ⟨by omega, by omega, drop_suf ((partL_suf _ c).trans (List.drop_suffix i P))⟩

/-- Where the reading stands: star: behind the last one. -/
def MI (P S : B) (i k : Nat) : Option Nat → Nat → Prop
  | none, from_ => from_ = 0 ∧ matchL P S = matchL (P.drop i) (S.drop k)
  | some j, from_ => j ≤ P.length ∧ from_ ≤ k ∧ (∃ m, Adv (P.drop j) (S.drop from_) m (P.drop i) (S.drop k)) ∧ matchL P S = matchL (42 :: P.drop j) (S.drop from_)
def starI : Option Nat → Int
  | none => -1
  | some j => j
def mea (lp ls : Nat) (i k f : Int) : Nat := (ls - f.toNat) * (lp + ls + 1) + ((lp - i.toNat) + (ls - k.toNat))
theorem mea_on {lp ls i k i' k' f f' : Nat} (hf : f ≤ f') (h : (lp - i') + (ls - k') < (lp - i) + (ls - k)) : mea lp ls i' k' f' < mea lp ls i k f := by
  unfold mea
  have : (ls - f') * (lp + ls + 1) ≤ (ls - f) * (lp + ls + 1) := Nat.mul_le_mul_right _ (by omega)
  simp only [Int.toNat_natCast]
  omega
theorem mea_back {lp ls i k i' k' f : Nat} (hf : f < ls) : mea lp ls i' k' ((f + 1 : Nat) : Int) < mea lp ls i k f := by
  unfold mea
  have : (ls - f) * (lp + ls + 1) = (ls - (f + 1)) * (lp + ls + 1) + (lp + ls + 1) := by
    rw [show ls - f = (ls - (f + 1)) + 1 by omega, Nat.add_mul, Nat.one_mul]
  simp only [Int.toNat_natCast]
  omega
section
variable {P S : B} {i k from_ : Nat} {star : Option Nat}
theorem MI.begin_ : MI P S 0 0 none 0 := ⟨rfl, by simp⟩
theorem MI.from_le (h : MI P S i k star from_) : from_ ≤ k := by
  cases star with
  | none => rw [h.1]; exact Nat.zero_le _
  | some j => exact h.2.1
theorem MI.newStar (h : MI P S i k star from_) (ha : P[i]? = some 42) : MI P S (i + 1) k (some (i + 1)) k := by
  have hl := (List.getElem?_eq_some_iff.1 ha).1
  refine ⟨hl, Nat.le_refl _, ⟨0, .refl⟩, ?_⟩
  rw [← drop_at ha]
  cases star with
  | none => exact h.2
  | some j =>
    obtain ⟨_, _, ⟨m, h3⟩, h4⟩ := h
    rw [h4]
    rw [drop_at ha] at h3 ⊢
    exact h3.star
theorem MI.one {a c : UInt8} (h : MI P S i k star from_) (ha : P[i]? = some a) (h42 : a ≠ 42) (hc : S[k]? = some c) (hp : (partL (P.drop i) c).1 = true) : MI P S (partE P i c) (k + 1) star from_ := by
  obtain ⟨_, _, e3⟩ := partE_at (List.getElem?_eq_some_iff.1 ha).1 c
  cases star with
  | none =>
    refine ⟨h.1, ?_⟩
    rw [h.2, e3, drop_at hc, drop_at ha, M_one h42]
    rw [drop_at ha] at hp
    rw [hp, Bool.true_and]
  | some j =>
    obtain ⟨h1, h2, ⟨m, h3⟩, h4⟩ := h
    refine ⟨h1, by omega, ⟨m + 1, ?_⟩, h4⟩
    rw [e3]
    rw [drop_at hc, drop_at ha] at h3
    rw [drop_at ha] at hp ⊢
    exact h3.step h42 hp
theorem miss_of {c : UInt8} (hc : S[k]? = some c) (h : P.length ≤ i ∨ ∃ a, P[i]? = some a ∧ a ≠ 42 ∧ (partL (P.drop i) c).1 = false) : matchL (P.drop i) (S.drop k) = false := by
  rcases h with h | ⟨a, ha, h42, hp⟩
  · rw [List.drop_eq_nil_of_le h, M_nil, drop_at hc]; rfl
  · rw [drop_at hc]
    rw [drop_at ha] at hp ⊢
    rw [M_one h42, hp, Bool.false_and]
theorem MI.miss_none (h : MI P S i k none from_) (hf : matchL (P.drop i) (S.drop k) = false) : matchL P S = false := by rw [h.2, hf]
theorem MI.miss {j : Nat} (h : MI P S i k (some j) from_) (hk : k < S.length) (hf : matchL (P.drop i) (S.drop k) = false) : MI P S j (from_ + 1) (some j) (from_ + 1) := by
  obtain ⟨h1, h2, ⟨m, h3⟩, h4⟩ := h
  refine ⟨h1, Nat.le_refl _, ⟨0, .refl⟩, ?_⟩
  have hl : from_ < S.length := by omega
  have hd := drop_at (l := S) (k := from_) (a := S[from_]) (List.getElem?_eq_getElem hl)
  rw [h4]
  rw [hd] at h3 ⊢
  exact h3.miss hf
theorem MI.end_ (h : MI P S i k star from_) (hk : S.length ≤ k) : matchL P S = stars (P.drop i) := by
  have hd := List.drop_eq_nil_of_le hk
  cases star with
  | none => rw [h.2, hd, M_end]
  | some j =>
    obtain ⟨h1, h2, ⟨m, h3⟩, h4⟩ := h
    rw [h4]
    rw [hd] at h3
    exact h3.end_
end
theorem empty_iff (l : B) : (st l).toList.isEmpty = decide (l = []) := by
  rw [Bool.eq_iff_iff, decide_eq_true_eq, List.isEmpty_iff, st_nil_iff]

set_option maxHeartbeats 1000000 in
set_option maxRecDepth 100000 in
theorem match_any (P S : B) (w : World) (hP : P.length ≤ 20000) (hS : S.length ≤ 20000) :
    Calls Tryz.prog 13 #[.string (st P), .string (st S)] w fun e w' => e = .returned (.bool (matchL P S)) ∧ w.grownBy w' none := by
  obtain ⟨PP, hPP⟩ : ∃ x, x = st P := ⟨_, rfl⟩
  obtain ⟨SS, hSS⟩ : ∃ x, x = st S := ⟨_, rfl⟩
  obtain ⟨lp, hlp⟩ : ∃ x, x = P.length := ⟨_, rfl⟩
  obtain ⟨ls, hls⟩ : ∃ x, x = S.length := ⟨_, rfl⟩
  have hZP : PP.size = lp := by rw [hPP, st_size, hlp]
  have hZS : SS.size = ls := by rw [hSS, st_size, hls]
  rw [← hPP, ← hSS]
  have CP : Hid (∀ (i : Nat) (c : UInt8) (W : World), i < lp → Calls Tryz.prog 21 #[.string PP, .int .i64 i, .int .u8 (c.toNat : Int)] W fun e w' => e = .returned (.tuple #[.int .i64 (partE P i c), .bool (partL (P.drop i) c).1]) ∧ W.grownBy w' none) := Lib.hid fun i c W h => by
    rw [hPP]; exact part_any P i c W hP (by omega)
  have CT : Hid (∀ (i : Nat) (W : World), i ≤ lp → Calls Tryz.prog 22 #[.string (PP.extract i lp), .string ⟨#[42]⟩] W fun e w' => e = .returned (.string (st (trimLL (trimRL (P.drop i))))) ∧ W.grownBy w' none) := Lib.hid fun i W h => by
    rw [hPP, st_drop P i lp hlp]; exact trim_any _ W (by rw [List.length_drop]; omega)
  rw [← hlp] at hP
  rw [← hls] at hS
  replace hPP := Lib.hid hPP; replace hSS := Lib.hid hSS; replace hlp := Lib.hid hlp; replace hls := Lib.hid hls
  go_enter Tryz.func13, Tryz.ntmps13
  go_wp2_with fail
  go_loopw [5, 6, 7, 8] (fun iv kv sv fv wr => ∃ (i k f : Nat) (star : Option Nat), iv = .int .i64 i ∧ kv = .int .i64 k ∧ sv = .int .i64 (starI star) ∧ fv = .int .i64 f ∧ w.grownBy wr none ∧ i ≤ lp ∧ k ≤ ls ∧ Hid (MI P S i k star f)) (fun iv kv _ fv _ => mea lp ls (intOf iv) (intOf kv) (intOf fv))
  case atStart => exact ⟨0, 0, 0, none, rfl, rfl, rfl, rfl, World.grownBy.refl _ _, Nat.zero_le _, Nat.zero_le _, Lib.hid MI.begin_⟩
  case round =>
    obtain ⟨i, k, f, star, rfl, rfl, rfl, rfl, hG, hil, hkl, hI⟩ := hrel
    have hG' := Lib.hid hG
    clear hG
    have hwi : IntKind.i64.wrap ((i : Int) + 1) = ((i + 1 : Nat) : Int) := by rw [IntKind.wrap_i64]; omega
    have hwk : IntKind.i64.wrap ((k : Int) + 1) = ((k + 1 : Nat) : Int) := by rw [IntKind.wrap_i64]; omega
    have hfk : f ≤ k := hI.out.from_le
    have hwf : IntKind.i64.wrap ((f : Int) + 1) = ((f + 1 : Nat) : Int) := by rw [IntKind.wrap_i64]; omega
    by_cases hk : k < ls
    · obtain ⟨c, hc⟩ : ∃ c, S[k]? = some c := ⟨S[k]'(by rw [← hls.out]; exact hk), List.getElem?_eq_getElem _⟩
      have hgc := get_at hc hSS.out
      have hki : (k : Int) < (ls : Int) := by omega
      by_cases hi : i < lp
      · obtain ⟨a, ha⟩ : ∃ a, P[i]? = some a := ⟨P[i]'(by rw [← hlp.out]; exact hi), List.getElem?_eq_getElem _⟩
        have hga := get_at ha hPP.out
        have hii : (i : Int) < (lp : Int) := by omega
        by_cases h42 : a = 42
        · have e42 : (a.toNat : Int) = 42 := u8_eq (n := 42) (by omega) h42
          have hI2 := hI.out.newStar (by rw [ha, h42])
          have hm : mea lp ls ((i + 1 : Nat) : Int) (k : Int) (k : Int) < mea lp ls i k f := mea_on hfk (by omega)
          replace hI := Lib.hid hI; replace hI2 := Lib.hid hI2; replace hc := Lib.hid hc; replace ha := Lib.hid ha; replace h42 := Lib.hid h42; replace hm := Lib.hid hm
          go_wp2_with fail
          exact ⟨⟨i + 1, k, k, some (i + 1), rfl, rfl, rfl, rfl, hG'.out, by omega, by omega, hI2⟩, hm.out⟩
        · have e42 : ¬ ((a.toNat : Int) = 42) := u8_ne (n := 42) (by omega) h42
          obtain ⟨q1, q2, q3⟩ := partE_at (by rw [← hlp.out]; exact hi) c
          have CPi := fun W => CP.out i c W hi
          by_cases hp : (partL (P.drop i) c).1 = true
          · have hI2 := hI.out.one ha h42 hc hp
            rw [hp] at CPi
            obtain ⟨en, hen⟩ : ∃ en, en = partE P i c := ⟨_, rfl⟩
            rw [← hen] at CPi q1 q2 hI2
            rw [← hlp.out] at q2
            have hm : mea lp ls (en : Int) ((k + 1 : Nat) : Int) (f : Int) < mea lp ls i k f := mea_on (Nat.le_refl _) (by omega)
            replace hI := Lib.hid hI; replace hI2 := Lib.hid hI2; replace hc := Lib.hid hc; replace ha := Lib.hid ha; replace h42 := Lib.hid h42; replace hm := Lib.hid hm; replace CPi := Lib.hid CPi; replace q3 := Lib.hid q3; replace hen := Lib.hid hen; replace hp := Lib.hid hp
            go_wp2_with fail
            refine (CPi.out _).mono ?_
            rintro e w1 ⟨rfl, G1⟩
            have hGG := hG'.out.trans G1
            replace G1 := Lib.hid G1; replace hGG := Lib.hid hGG
            go_wp2_with fail
            exact ⟨⟨en, k + 1, f, star, rfl, rfl, rfl, rfl, hGG.out, by omega, by omega, hI2⟩, hm.out⟩
          · replace hp : (partL (P.drop i) c).1 = false := by simpa using hp
            have hmiss := miss_of (P := P) (i := i) hc (.inr ⟨a, ha, h42, hp⟩)
            rw [hp] at CPi
            obtain ⟨en, hen⟩ : ∃ en, en = partE P i c := ⟨_, rfl⟩
            rw [← hen] at CPi
            replace hc := Lib.hid hc; replace ha := Lib.hid ha; replace h42 := Lib.hid h42; replace CPi := Lib.hid CPi; replace q1 := Lib.hid q1; replace q2 := Lib.hid q2; replace q3 := Lib.hid q3; replace hen := Lib.hid hen; replace hp := Lib.hid hp
            cases star with
            | none =>
              have hst : starI none = -1 := rfl
              have hr : matchL P S = false := hI.out.miss_none hmiss
              replace hr := Lib.hid hr; replace hI := Lib.hid hI.out; replace hmiss := Lib.hid hmiss
              go_wp2_with fail
              refine (CPi.out _).mono ?_
              rintro e w1 ⟨rfl, G1⟩
              have hGG := hG'.out.trans G1
              replace G1 := Lib.hid G1; replace hGG := Lib.hid hGG
              go_wp2_with fail
              go_ret
              exact ⟨by rw [hr.out]; rfl, hGG.out⟩
            | some j =>
              have hst : starI (some j) = (j : Int) := rfl
              have hI2 := hI.out.miss (by rw [← hls.out]; exact hk) hmiss
              have hj0 : ¬ ((j : Int) < 0) := by omega
              have hjl : j ≤ lp := by rw [hlp.out]; exact hI2.1
              have hm : mea lp ls (j : Int) ((f + 1 : Nat) : Int) ((f + 1 : Nat) : Int) < mea lp ls i k f := mea_back (by omega)
              replace hI := Lib.hid hI.out; replace hmiss := Lib.hid hmiss; replace hI2 := Lib.hid hI2; replace hm := Lib.hid hm
              go_wp2_with fail
              refine (CPi.out _).mono ?_
              rintro e w1 ⟨rfl, G1⟩
              have hGG := hG'.out.trans G1
              replace G1 := Lib.hid G1; replace hGG := Lib.hid hGG
              go_wp2_with fail
              exact ⟨⟨j, f + 1, f + 1, some j, rfl, rfl, rfl, rfl, hGG.out, by omega, by omega, hI2⟩, hm.out⟩
      · have hii : ¬ ((i : Int) < (lp : Int)) := by omega
        have hmiss := miss_of (P := P) (i := i) hc (.inl (by rw [← hlp.out]; omega))
        replace hc := Lib.hid hc
        cases star with
        | none =>
          have hst : starI none = -1 := rfl
          have hr : matchL P S = false := hI.out.miss_none hmiss
          replace hr := Lib.hid hr; replace hI := Lib.hid hI.out; replace hmiss := Lib.hid hmiss
          go_wp2_with fail
          go_ret
          exact ⟨by rw [hr.out]; rfl, hG'.out⟩
        | some j =>
          have hst : starI (some j) = (j : Int) := rfl
          have hI2 := hI.out.miss (by rw [← hls.out]; exact hk) hmiss
          have hj0 : ¬ ((j : Int) < 0) := by omega
          have hjl : j ≤ lp := by rw [hlp.out]; exact hI2.1
          have hm : mea lp ls (j : Int) ((f + 1 : Nat) : Int) ((f + 1 : Nat) : Int) < mea lp ls i k f := mea_back (by omega)
          replace hI := Lib.hid hI.out; replace hmiss := Lib.hid hmiss; replace hI2 := Lib.hid hI2; replace hm := Lib.hid hm
          go_wp2_with fail
          exact ⟨⟨j, f + 1, f + 1, some j, rfl, rfl, rfl, rfl, hG'.out, by omega, by omega, hI2⟩, hm.out⟩
    · have hki : ¬ ((k : Int) < (ls : Int)) := by omega
      have hr := hI.out.end_ (by rw [← hls.out]; omega)
      have CTi := fun W => CT.out i W hil
      have hr2 : (st (trimLL (trimRL (P.drop i)))).toList.isEmpty = stars (P.drop i) := by
        rw [empty_iff, Bool.eq_iff_iff, decide_eq_true_eq]
        exact trim_nil _
      obtain ⟨X, hX⟩ : ∃ X, X = st (trimLL (trimRL (P.drop i))) := ⟨_, rfl⟩
      rw [← hX] at CTi hr2
      replace hr := Lib.hid hr; replace hI := Lib.hid hI; replace CTi := Lib.hid CTi; replace hX := Lib.hid hX; replace hr2 := Lib.hid hr2
      go_wp2_with fail
      refine (CTi.out _).mono ?_
      rintro e w1 ⟨rfl, G1⟩
      have hGG := hG'.out.trans G1
      replace G1 := Lib.hid G1; replace hGG := Lib.hid hGG
      go_wp2_with fail
      go_ret
      exact ⟨by rw [hr.out, ← hr2.out]; rfl, hGG.out⟩
end Go.Proofs.YtfhdfhlabkeipaaGreatDoor
