/- Words for memory that this claim's proofs share: a slice that reads as a list of cells; bytes; appends onto a row of the call's own. No program in sight. Arguments opened: slices of strings, of bytes, of ints, as lists; what the reach says of them. No program in sight. Layout: a split window as the proofs see it: nodes with their blocks, and where they lie in memory. No program in sight. -/
import Derived.WalkKit
import Derived.WalkSpells
import Derived.WalkLawsBesides
import Derived.Lib.Hide
import Derived.Lib.AppendStr
import Derived.Maps.AppendAt
import Derived.Deep.AppendLies
import Derived.Deep.Draws
import Derived.Outline
import Derived.ProofKit
import Derived.OpenShut
import Derived.ChangeOld
import Derived.SliceStrings
import Derived.SizedLaws
import Derived.Lib.SmallJoins
import Derived.Deep.Slices
import Derived.Deep.Fields
import Derived.ChangeSame
namespace Go.Proofs.YtcklmkjlbpjojaaDoor
open Go.RowKit
set_option linter.unusedSimpArgs false
set_option linter.unusedVariables false

def b8 (b : UInt8) : Value := .int .u8 b.toNat
def bs (l : List UInt8) : List Value := l.map b8
def st (l : List UInt8) : ByteArray := ⟨l.toArray⟩
def sl (s : ByteArray) : List UInt8 := s.data.toList

theorem st_sl (s : ByteArray) : st (sl s) = s := by cases s; simp [st, sl]
theorem sl_st (l : List UInt8) : sl (st l) = l := by simp [st, sl]
theorem sl_len (s : ByteArray) : (sl s).length = s.size := by simp [sl]
theorem st_size (l : List UInt8) : (st l).size = l.length := by simp [st, ByteArray.size]
theorem bs_len (l : List UInt8) : (bs l).length = l.length := by simp [bs]
theorem bs_append (a b : List UInt8) : bs (a ++ b) = bs a ++ bs b := by simp [bs]
theorem bs_one (l : List UInt8) : ∀ u ∈ bs l, u.oneCell' = true := by
  intro u hu
  simp only [bs, List.mem_map] at hu
  obtain ⟨b, _, rfl⟩ := hu
  rfl
theorem strCells_eq (s : ByteArray) : Lib.strCells s = bs (sl s) := rfl

theorem ret_bool {a b : Bool} (h : a = b) : Ending.returned (.bool a) = .returned (.bool b) := by rw [h]
theorem ret_int {k : IntKind} {a b : Int} (h : a = b) : Ending.returned (.int k a) = .returned (.int k b) := by rw [h]
theorem ret_str {a b : ByteArray} (h : a = b) : Ending.returned (.string a) = .returned (.string b) := by rw [h]

/-- The slice with address A holds the cells xs. -/
def Rd (w : World) (A : Option Addr) (xs : List Value) : Prop :=
  xs ≠ [] → ∃ b off, A = some ⟨b, off, none⟩ ∧ b < w.heap.size ∧ ∀ j u, xs[j]? = some u → w.cell? ⟨b, off + j, none⟩ = some u

def ablk (A : Option Addr) : Option Nat := A.map (·.block)

section
variable {w w' : World} {A : Option Addr} {xs : List Value}
theorem Rd.nil (w : World) (A : Option Addr) : Rd w A [] := fun h => absurd rfl h
theorem Rd.grown (h : Rd w A xs) {row : Option Nat} (hg : w.grownBy w' row) (hne : row = none ∨ ablk A ≠ row) : Rd w' A xs := fun hx => by
  obtain ⟨b, off, rfl, hb, hc⟩ := h hx
  refine ⟨b, off, rfl, Nat.lt_of_lt_of_le hb hg.size, fun j u hj => hg.cell (hc j u hj) ?_⟩
  rcases hne with rfl | hne
  · simp
  · exact hne
theorem Rd.below {B : Nat} (h : Rd w A xs) (hb : Below B w w') (hl : ∀ b, ablk A = some b → b < B) : Rd w' A xs := fun hx => by
  obtain ⟨b, off, rfl, hb', hc⟩ := h hx
  exact ⟨b, off, rfl, Nat.lt_of_lt_of_le hb' hb.size, fun j u hj => (hb.cell (p := ⟨b, off + j, none⟩) (hl b rfl)).trans (hc j u hj)⟩
theorem Rd.below' (h : Rd w A xs) (hb : Below w.heap.size w w') : Rd w' A xs := fun hx => by
  obtain ⟨b, off, rfl, hb', hc⟩ := h hx
  exact ⟨b, off, rfl, Nat.lt_of_lt_of_le hb' hb.size, fun j u hj => (hb.cell (p := ⟨b, off + j, none⟩) hb').trans (hc j u hj)⟩
theorem Rd.none_nil (h : Rd w none xs) : xs = [] := by
  rcases xs with _ | ⟨x, xs⟩
  · rfl
  · obtain ⟨_, _, e, _⟩ := h (by simp)
    cases e
theorem Rd.alloc (h : Rd w A xs) (o : Obj) : Rd (w.alloc o) A xs := h.grown (World.grownBy_alloc w o none) (.inl rfl)
theorem Rd.drew (h : Rd w A xs) : Rd w.drew A xs := h
theorem Rd.set (h : Rd w A xs) {p : Addr} (u : Value) (hne : ablk A ≠ some p.block) : Rd (w.setCell p u) A xs := fun hx => by
  obtain ⟨b, off, rfl, hb, hc⟩ := h hx
  refine ⟨b, off, rfl, by simpa using hb, fun j u hj => ?_⟩
  rw [World.cell?_setCell_other]
  · exact hc j u hj
  · rintro rfl; exact hne rfl
theorem Rd.at_ (h : Rd w A xs) {j : Nat} {u : Value} (hj : xs[j]? = some u) : ∃ b off, A = some ⟨b, off, none⟩ ∧ b < w.heap.size ∧ w.cell? ⟨b, off + j, none⟩ = some u := by
  have hx : xs ≠ [] := by rintro rfl; simp at hj
  obtain ⟨b, off, e, hb, hc⟩ := h hx
  exact ⟨b, off, e, hb, hc j u hj⟩
theorem Rd.drop (h : Rd w A xs) (k : Nat) {b off : Nat} (hA : A = some ⟨b, off, none⟩) : Rd w (some ⟨b, off + k, none⟩) (xs.drop k) := fun hx => by
  have hx' : xs ≠ [] := by rintro rfl; simp at hx
  obtain ⟨b', off', e, hb, hc⟩ := h hx'
  rw [hA] at e
  injection e with e; injection e with e1 e2
  subst e1; subst e2
  exact ⟨_, _, rfl, hb, fun j u hj => by rw [Nat.add_assoc]; exact hc (k + j) u (by rw [← hj, List.getElem?_drop])⟩
theorem Rd.take (h : Rd w A xs) (k : Nat) : Rd w A (xs.take k) := fun hx => by
  have hx' : xs ≠ [] := by rintro rfl; simp at hx
  obtain ⟨b, off, e, hb, hc⟩ := h hx'
  refine ⟨b, off, e, hb, fun j u hj => hc j u ?_⟩
  rw [List.getElem?_take] at hj
  split at hj
  · exact hj
  · cases hj
theorem Rd.cut (k cap : Nat) {b off : Nat} (h : Rd w (some ⟨b, off, none⟩) xs) (hc : xs.length ≤ cap) :
    Rd w (if cap = k then some ⟨b, off, none⟩ else some ⟨b, off + k, none⟩) (xs.drop k) := by
  split
  · rename_i e
    rw [List.drop_of_length_le (by omega)]
    exact Rd.nil _ _
  · exact h.drop k rfl
theorem ablk_ite {c : Prop} [Decidable c] {b o1 o2 : Nat} : ablk (if c then some ⟨b, o1, none⟩ else some ⟨b, o2, none⟩) = some b := by split <;> rfl
theorem Rd.of_own {base : Nat} {e : TypeId} {size n : Nat} {v : Value} (h : w.ownsRow base e size v n xs) : ∃ A c, v = .slice A n c ∧ Rd w A xs ∧ ablk A = v.ownBlock ∧ n ≤ c ∧ c ≤ maxLen := by
  rcases h.2 with ⟨rfl, rfl⟩ | ⟨g, cap, cur, rfl, hb, hg, hn, hm, hs, ht⟩
  · have : xs = [] := List.eq_nil_of_length_eq_zero (by simpa using h.1)
    subst this
    exact ⟨none, 0, rfl, Rd.nil _ _, rfl, Nat.le_refl _, Nat.zero_le _⟩
  · refine ⟨_, _, rfl, fun _ => ⟨g, 0, rfl, ?_, fun j u hj => ?_⟩, rfl, hn, hm⟩
    · rcases Nat.lt_or_ge g w.heap.size with hlt | hge
      · exact hlt
      · rw [Array.getElem?_eq_none hge] at hg; cases hg
    · have := h.cells (g := g) rfl j u hj
      rwa [Addr.add_lit] at this
end

theorem g_alloc {w w' : World} {row : Option Nat} (h : w.grownBy w' row) (o : Obj) : w.grownBy (w'.alloc o) row := h.trans (World.grownBy_alloc w' o row)
theorem g_drew {w w' : World} {row : Option Nat} (h : w.grownBy w' row) : w.grownBy w'.drew row := ⟨h.os, h.tape, h.output, h.size, h.block⟩
theorem g_below {w w' : World} (h : w.grownBy w' none) : Below w.heap.size w w' := ⟨h.os, h.tape, h.output, h.size, fun k hk => h.block k hk (by simp)⟩
theorem below_g {w w' : World} (h : Below w.heap.size w w') : w.grownBy w' none := ⟨h.os, h.tape, h.output, h.size, fun k hk _ => h.block k hk⟩
theorem g_own {w a a' b : World} {row : Option Nat} {base size n : Nat} {e : TypeId} {v : Value} {xs : List Value} (h : w.grownBy a row) (ho : a'.ownsRow base e size v n xs) (hb : w.heap.size ≤ base) (hg : a.grownBy b v.ownBlock) : w.grownBy b row :=
  ⟨hg.os.trans h.os, hg.tape.trans h.tape, hg.output.trans h.output, Nat.le_trans h.size hg.size, fun k hk hne =>
    (hg.block k (Nat.lt_of_lt_of_le hk h.size) (fun e => by have := (ho.lt k e.symm).1; omega)).trans (h.block k hk hne)⟩
theorem own_le {w : World} {base base' size n : Nat} {e : TypeId} {v : Value} {xs : List Value} (h : w.ownsRow base e size v n xs) (hb : base' ≤ base) : w.ownsRow base' e size v n xs := by
  refine ⟨h.1, ?_⟩
  rcases h.2 with h2 | ⟨g, cap, cur, hv, hg, r⟩
  · exact .inl h2
  · exact .inr ⟨g, cap, cur, hv, by omega, r⟩
theorem own_keep {w w' : World} {base size n : Nat} {e : TypeId} {v : Value} {xs : List Value} (h : w.ownsRow base e size v n xs) (hg : w.grownBy w' none) : w'.ownsRow base e size v n xs := by
  rcases hv : v.ownBlock with _ | b
  · exact h.kept hg (.inl hv)
  · exact h.kept hg (.inr (by rw [hv]; simp))
def slen : Value → Nat | .slice _ n _ => n | _ => 0
theorem or_bytes (x y : UInt8) : bits .or .i64 ((x.toNat : Int) * 256) (y.toNat : Int) = ((x.toNat * 256 + y.toNat : Nat) : Int) := by
  have hx := x.toNat_lt; have hy := y.toNat_lt
  show IntKind.i64.wrap ((BitVec.ofInt 64 ((x.toNat : Int) * 256) ||| BitVec.ofInt 64 (y.toNat : Int)).toNat : Int) = _
  have e1 : ((x.toNat : Int) * 256) = ((x.toNat * 256 : Nat) : Int) := by simp
  rw [e1, BitVec.toNat_or, ofInt_u64 _ (by omega), ofInt_u64 _ (by omega)]
  have e2 : x.toNat * 256 ||| y.toNat = x.toNat * 256 + y.toNat := by
    have := Nat.two_pow_add_eq_or_of_lt (i := 8) (b := y.toNat) (by omega) x.toNat
    rw [Nat.mul_comm, ← this]
  rw [e2]
  rw [IntWalk.i64_in _ (by omega)]
theorem cast_beq0 (n : Nat) : (((n : Int)) == 0) = decide (n = 0) := by
  by_cases h : n = 0
  · subst h; rfl
  · simp [h]
theorem cast_beq (n m : Nat) : (((n : Int)) == (m : Int)) = decide (n = m) := by
  by_cases h : n = m
  · subst h; simp
  · have : ((n : Int) == (m : Int)) = false := by simp; omega
    simp [h, this]
section
variable {P : Program} (w : World)

theorem run_append_nil_of (base : Nat) (t ty e : TypeId) (i : TypeInfo) (size : Nat) (ht : P.underlying t = some (.slice e)) (hi : P.info? e = some i)
    (v : Value) (n : Nat) (xs : List Value) (hown : w.ownsRow base e size v n xs) (c : Nat) : (Builtin.append_ #[t, t] ty #[v, .slice none 0 c]).run P w = .ok v w := by
  rcases hown.2 with ⟨rfl, rfl⟩ | ⟨g, cap, cur, rfl, _, _, hnc, _⟩
  · simp [Builtin.append_, run_underlying ht, sizeOf, typeInfo, hi, Builtin.lenOf, Builtin.firstCells]
  · simp [Builtin.append_, run_underlying ht, sizeOf, typeInfo, hi, Builtin.lenOf, Builtin.firstCells, hnc, storeCells]

/-- append(v, x...): v is a row of the call's own, x whatever slice reads as 'news'. -/
theorem run_append_rd (base : Nat) (t ty e : TypeId) (i : TypeInfo) (z : Value) (size bytes : Nat) (ht : P.underlying t = some (.slice e)) (hi : P.info? e = some i) (hz : i.zero = some z)
    (hsize : i.size = size) (hby : i.bytes = bytes) (hzs : z.cells.size = size) (hsz : 0 < size)
    (v : Value) (n : Nat) (xs : List Value) (hown : w.ownsRow base e size v n xs)
    (A : Option Addr) (m c : Nat) (news : List Value) (hl : news.length = m * size) (hr : Rd w A news) (h1 : ∀ u ∈ news, u.oneCell' = true)
    (h63 : n + m ≤ maxLen) (hbytes : (n + m) * bytes ≤ 140737488355328) (hbase : base ≤ w.heap.size) :
    ∃ v' w', (Builtin.append_ #[t, t] ty #[v, .slice A m c]).run P w = .ok v' w' ∧ w'.ownsRow base e size v' (n + m) (xs ++ news) ∧ w.grownBy w' v.ownBlock ∧
      (v'.ownBlock = v.ownBlock ∨ v'.ownBlock = some w.heap.size) := by
  rcases A with _ | ad
  · have hn : news = [] := hr.none_nil
    subst hn
    obtain rfl : m = 0 := by
      rcases Nat.mul_eq_zero.1 hl.symm with h | h
      · exact h
      · omega
    exact ⟨v, w, run_append_nil_of w base t ty e i size ht hi v n xs hown c, by simpa using hown, World.grownBy.refl w _, .inl rfl⟩
  · have hcells : ∀ j u, news[j]? = some u → w.cell? (ad.add j) = some u := by
      intro j u hu
      obtain ⟨b, off, e, _, hc⟩ := hr.at_ hu
      injection e with e
      subst e
      rw [Addr.add_lit]
      exact hc
    obtain ⟨v', w', hrun, h2, h3, _, h5⟩ := run_append_own_at (P := P) w base t ty e i z size bytes ht hi hz hsize hby hzs hsz v n xs hown ad m c news hl hcells h1 h63 hbytes hbase
    exact ⟨v', w', hrun, h2, h3, h5⟩

theorem wp_append_rd {o : Oper} {a : Act} {K : Act → World → Prop} {Q : Exit → Act → World → Prop} (s x : Operand) (t : TypeId)
    (ho : o.op = .call { callee := .builtin .append, args := #[s, x], argTypes := #[t, t] })
    (base : Nat) (e : TypeId) (i : TypeInfo) (z : Value) (size bytes : Nat) (ht : P.underlying t = some (.slice e)) (hi : P.info? e = some i) (hz : i.zero = some z)
    (hsize : i.size = size) (hby : i.bytes = bytes) (hzs : z.cells.size = size) (hsz : 0 < size)
    (v : Value) (n : Nat) (xs : List Value) (hs : a.eval s = v) (hown : w.ownsRow base e size v n xs)
    (A : Option Addr) (m c : Nat) (news : List Value) (hx : a.eval x = .slice A m c) (hl : news.length = m * size) (hr : Rd w A news) (h1 : ∀ u ∈ news, u.oneCell' = true)
    (h63 : n + m ≤ maxLen) (hbytes : (n + m) * bytes ≤ 140737488355328) (hbase : base ≤ w.heap.size)
    (h : ∀ A' c' w', w'.ownsRow base e size (.slice A' (n + m) c') (n + m) (xs ++ news) → w.grownBy w' v.ownBlock → (ablk A' = v.ownBlock ∨ ablk A' = some w.heap.size) → K (a.put o.dst (.slice A' (n + m) c')) w') : o.wp P a w K Q := by
  obtain ⟨v', w', hrun, h2, h3, h4⟩ := run_append_rd (P := P) w base t o.type e i z size bytes ht hi hz hsize hby hzs hsz v n xs hown A m c news hl hr h1 h63 hbytes hbase
  unfold Oper.wp execOp
  simp only [ho, resolve, invoke, builtin, Sem.run_bind, Sem.run_pure, Result.andThen_ok, List.map_toArray, List.map_cons, List.map_nil, hs, hx, hrun]
  obtain ⟨A', c', rfl, _, hb', _⟩ := Rd.of_own h2
  exact h A' c' w' h2 h3 (by rw [hb']; exact h4)

theorem wpList_append_rd {ops : Array Oper} {rest : List Oper} {o : Oper} {a : Act} {Q : Exit → Act → World → Prop} (hgd : o.guard = none) (s x : Operand) (t : TypeId)
    (ho : o.op = .call { callee := .builtin .append, args := #[s, x], argTypes := #[t, t] })
    (base : Nat) (e : TypeId) (i : TypeInfo) (z : Value) (size bytes : Nat) (ht : P.underlying t = some (.slice e)) (hi : P.info? e = some i) (hz : i.zero = some z)
    (hsize : i.size = size) (hby : i.bytes = bytes) (hzs : z.cells.size = size) (hsz : 0 < size)
    (v : Value) (n : Nat) (xs : List Value) (hs : a.eval s = v) (hown : w.ownsRow base e size v n xs)
    (A : Option Addr) (m c : Nat) (news : List Value) (hx : a.eval x = .slice A m c) (hl : news.length = m * size) (hr : Rd w A news) (h1 : ∀ u ∈ news, u.oneCell' = true)
    (h63 : n + m ≤ maxLen) (hbytes : (n + m) * bytes ≤ 140737488355328) (hbase : base ≤ w.heap.size)
    (h : ∀ A' c' w', w'.ownsRow base e size (.slice A' (n + m) c') (n + m) (xs ++ news) → w.grownBy w' v.ownBlock → (ablk A' = v.ownBlock ∨ ablk A' = some w.heap.size) → wpList P ops Q rest (a.put o.dst (.slice A' (n + m) c')) w') : wpList P ops Q (o :: rest) a w :=
  wpList_plain hgd fun _ hK => wp_append_rd w s x t ho base e i z size bytes ht hi hz hsize hby hzs hsz v n xs hs hown A m c news hx hl hr h1 h63 hbytes hbase fun A' c' w' h2 h3 h4 => hK _ _ (h A' c' w' h2 h3 h4)

/-- string(b) of bytes. -/
theorem conv_str (src dst e : TypeId) (hs : P.underlying src = some (.slice e)) (he : P.underlying e = some (.int .u8)) (hd : P.underlying dst = some .string)
    (A : Option Addr) (n c : Nat) (l : List UInt8) (hl : n = l.length) (hr : Rd w A (bs l)) :
    (convert src dst (.slice A n c)).run P w = .ok (.string (st l)) w := by
  rw [run_convert_bytes_string w src dst e A n c hs he hd]
  rcases A with _ | ad
  · have : l = [] := by simpa [bs] using hr.none_nil
    subst this
    obtain rfl : n = 0 := hl
    simp [Conv.bytesToString, st]; rfl
  · have hcells : ∀ j u, (bs l)[j]? = some u → w.cell? (ad.add j) = some u := by
      intro j u hu
      obtain ⟨b, off, e, _, hc⟩ := hr.at_ hu
      injection e with e
      subst e
      rw [Addr.add_lit]
      exact hc
    have h1 := run_loadCells_list (P := P) (w := w) ad (bs l) hcells
    have h2 : bs l = (l.map fun b => (b.toNat : Int)).map (Value.int .u8) := by simp [bs, b8]
    rw [bs_len, ← hl, h2] at h1
    rw [run_bytesToString w ad n c _ h1]
    congr 2
    have key : ∀ (l : List UInt8) (r : ByteArray), (l.map fun b => (b.toNat : Int)).foldl (fun r n => r.push (UInt8.ofNat n.toNat)) r = ⟨r.data ++ l.toArray⟩ := by
      intro l
      induction l with
      | nil => intro r; simp
      | cons b l ih =>
        intro r
        simp only [List.map_cons, List.foldl_cons]
        rw [ih]
        simp [ByteArray.push]
    rw [key]
    apply congrArg; simp [st]
end
end Go.Proofs.YtcklmkjlbpjojaaDoor
namespace Go.Proofs.YtcklmkjlbpjojaaDoor
open Go.RowKit Go.ChangeShapes Go.WideShapes Go.Joins Go.Deep
set_option linter.unusedSimpArgs false
set_option linter.unusedVariables false

theorem rd_add {w : World} {a : Addr} {xs : List Value} (h : ∀ i u, xs[i]? = some u → w.cell? (a.add i) = some u) : Rd w (some a) xs := fun hx => by
  obtain ⟨x, l, rfl⟩ := List.exists_cons_of_ne_nil hx
  have h0 := h 0 x rfl
  have e0 : a.add 0 = a := by simp [Addr.add]
  rw [e0] at h0
  have hb := World.block_lt_of_cell? w a h0
  obtain ⟨b, off, sp⟩ := a
  have hsp : sp = none := by
    rcases sp with _ | s
    · rfl
    · unfold World.cell? at h0
      split at h0 <;> simp at h0
  subst hsp
  refine ⟨b, off, rfl, hb, fun j u hj => ?_⟩
  have := h j u hj
  rwa [Addr.add_lit] at this

section
variable {H : Type} {enc : TypeId × Value → H} {P : Program} {w : World} {base : Nat} {spare : Nat → Bool} {held : Bool}
def Wt (P : Program) (t : TypeId) (d : DataW H) : Prop := ∀ n ∈ d.weights P t, n ≤ 140737488351232
theorem wt_each {ts : List TypeId} {ds : List (DataW H)} (h : (DataW.weightsEach P ts ds).all (· ≤ reachBytes) = true) {j : Nat} {t : TypeId} {d : DataW H} (ht : ts[j]? = some t) (hd : ds[j]? = some d) : Wt P t d := by
  intro n hn
  have := List.all_eq_true.1 h n (DataW.weights_mem_each ht hd n hn)
  exact of_decide_eq_true this
theorem wt_part {t : TypeId} {fs : Array Field} {ps : List (DataW H)} (hs : P.underlying t = some (.struct fs)) (h : Wt P t (.agg ps)) {j : Nat} {f : Field} {d : DataW H} (hf : fs[j]? = some f) (hd : ps[j]? = some d) : Wt P f.type d := by
  intro n hn
  refine h n ?_
  simp only [DataW.weights, hs]
  exact DataW.weights_mem_each (j := j) (by simp [hf]) hd n hn
theorem weights_mem_all {e : TypeId} : ∀ {ds : List (DataW H)} {d : DataW H}, d ∈ ds → ∀ n ∈ d.weights P e, n ∈ DataW.weightsAll P e ds
  | d0 :: ds, d, hd, n, hn => by
    simp only [DataW.weightsAll, List.mem_append]
    rcases List.mem_cons.1 hd with rfl | hd
    · exact .inl hn
    · exact .inr (weights_mem_all hd n hn)
theorem wt_slice {t e : TypeId} {es sp : List (DataW H)} (hs : P.underlying t = some (.slice e)) (h : Wt P t (.slice es sp)) : (es.length + sp.length) * P.bytesOf e ≤ 140737488351232 ∧ ∀ d ∈ es, Wt P e d := by
  refine ⟨h _ (by simp [DataW.weights, hs]), fun d hd n hn => h n ?_⟩
  simp only [DataW.weights, hs, List.mem_cons, List.mem_append]
  exact .inr (.inl (weights_mem_all hd n hn))

theorem strings_in {t e : TypeId} {fuel : Nat} {A : Option Addr} {n c : Nat} {x : DataW H × List MemPlace} (ht : P.underlying t = some (.slice e)) (he : P.underlying e = some .string) (hc : P.cellsOf e = 1) (hb : P.bytesOf e = 16)
    (h : DataW.trod enc P w base spare held fuel t [.slice A n c] = some x) (hw : Wt P t x.1) :
    ∃ ws : List ByteArray, n = ws.length ∧ Rd w A (ws.map .string) ∧ (∀ s ∈ ws, s.size ≤ 140737488351232) ∧ ws.length * 16 ≤ 140737488351232 := by
  rcases open_strings ht he hc h with ⟨hcs, rfl⟩ | ⟨a, len, cap, ss, hcs, _, hl, hm, hz, rfl, hcell, _⟩
  · simp only [List.cons.injEq, and_true, Value.slice.injEq] at hcs
    obtain ⟨rfl, rfl, rfl⟩ := hcs
    exact ⟨[], rfl, Rd.nil _ _, by simp, by simp⟩
  · simp only [List.cons.injEq, and_true, Value.slice.injEq] at hcs
    obtain ⟨rfl, rfl, rfl⟩ := hcs
    have hlen : n ≤ ss.length := by rw [hz]; split <;> omega
    obtain ⟨w1, w2⟩ := wt_slice ht hw
    rw [hb] at w1
    simp only [strs, List.length_map, List.length_take, List.length_drop] at w1
    have hn : (ss.take n).length = n := by rw [List.length_take]; omega
    refine ⟨ss.take n, hn.symm, rd_add fun i u hu => ?_, fun s hs => ?_, by omega⟩
    · have hi : i < n := by
        have := (List.getElem?_eq_some_iff.1 hu).1
        simp at this; omega
      rw [hcell i (by omega)]
      rw [List.getElem?_map, List.getElem?_take, if_pos hi] at hu
      rw [List.getD_eq_getElem?_getD]
      have hi2 : i < ss.length := by omega
      rw [List.getElem?_eq_getElem hi2] at hu ⊢
      simpa using hu
    · have := w2 (.lit (.string s.data.toList)) (List.mem_map.2 ⟨s, hs, rfl⟩) s.data.toList.length (by rw [DataW.weights]; exact List.mem_singleton.2 rfl)
      have e : s.data.toList.length = s.size := Array.length_toList
      rw [← e]; exact this
theorem ints_in {t e : TypeId} {k : IntKind} {fuel : Nat} {A : Option Addr} {n c : Nat} {x : DataW H × List MemPlace} (ht : P.underlying t = some (.slice e)) (he : P.underlying e = some (.int k)) (hc : P.cellsOf e = 1)
    (h : DataW.trod enc P w base spare held fuel t [.slice A n c] = some x) (hw : Wt P t x.1) :
    ∃ zs : List Int, n = zs.length ∧ Rd w A (zs.map (.int k)) ∧ (∀ z ∈ zs, (Lit.int k z).wf = true) ∧ zs.length * P.bytesOf e ≤ 140737488351232 ∧ n ≤ c := by
  rcases open_ints ht he hc h with ⟨hcs, rfl⟩ | ⟨a, len, cap, ss, hcs, _, hl, hm, hz, rfl, hcell, hwf⟩
  · simp only [List.cons.injEq, and_true, Value.slice.injEq] at hcs
    obtain ⟨rfl, rfl, rfl⟩ := hcs
    exact ⟨[], rfl, Rd.nil _ _, by simp, by simp, Nat.le_refl _⟩
  · simp only [List.cons.injEq, and_true, Value.slice.injEq] at hcs
    obtain ⟨rfl, rfl, rfl⟩ := hcs
    have hlen : n ≤ ss.length := by rw [hz]; split <;> omega
    obtain ⟨w1, w2⟩ := wt_slice ht hw
    simp only [lits, List.length_map, List.length_take, List.length_drop] at w1
    have hn : (ss.take n).length = n := by rw [List.length_take]; omega
    refine ⟨ss.take n, hn.symm, rd_add fun i u hu => ?_, fun s hs => hwf s (List.mem_of_mem_take hs), ?_, hl⟩
    · have hi : i < n := by
        have := (List.getElem?_eq_some_iff.1 hu).1
        simp at this; omega
      rw [hcell i (by omega)]
      rw [List.getElem?_map, List.getElem?_take, if_pos hi] at hu
      rw [List.getD_eq_getElem?_getD]
      have hi2 : i < ss.length := by omega
      rw [List.getElem?_eq_getElem hi2] at hu ⊢
      simpa using hu
    · rw [hn]
      refine Nat.le_trans (Nat.mul_le_mul_right _ ?_) w1
      omega
theorem bytes_in {t e : TypeId} {fuel : Nat} {A : Option Addr} {n c : Nat} {x : DataW H × List MemPlace} (ht : P.underlying t = some (.slice e)) (he : P.underlying e = some (.int .u8)) (hc : P.cellsOf e = 1) (hb : P.bytesOf e = 1)
    (h : DataW.trod enc P w base spare held fuel t [.slice A n c] = some x) (hw : Wt P t x.1) :
    ∃ l : List UInt8, n = l.length ∧ Rd w A (bs l) ∧ l.length ≤ 140737488351232 ∧ n ≤ c := by
  obtain ⟨zs, h1, h2, h3, h4, h5⟩ := ints_in ht he hc h hw
  rw [hb, Nat.mul_one] at h4
  refine ⟨zs.map fun z => UInt8.ofNat z.toNat, by simpa using h1, ?_, by simpa using h4, h5⟩
  have e1 : bs (zs.map fun z => UInt8.ofNat z.toNat) = zs.map (.int .u8) := by
    simp only [bs, List.map_map]
    refine List.map_congr_left fun z hz => ?_
    have := h3 z hz
    simp [Lit.wf, IntKind.min, IntKind.max, IntKind.signed, IntKind.bits] at this
    simp only [Function.comp, b8, UInt8.toNat_ofNat']
    congr 1
    omega
  rw [e1]; exact h2
theorem open_agg5 {r : Reach} {b0 : Nat} {t : TypeId} {f0 f1 f2 f3 f4 : Field} {v : Value} {d : DataW H} {p : List MemPlace} (hs : P.underlying t = some (.struct #[f0, f1, f2, f3, f4])) (hone : oneCellFields P #[f0, f1, f2, f3, f4] = true) (hC : P.cellsOf t = 5)
    (hv : Value.okWide P w r b0 t v) (h : DataW.Trod enc P w base spare held t v d p) :
    ∃ (v0 v1 v2 v3 v4 : Value) (y0 y1 y2 y3 y4 : DataW H × List MemPlace) (n : Nat), v = .agg #[v0, v1, v2, v3, v4] ∧ d = .agg [y0.1, y1.1, y2.1, y3.1, y4.1] ∧ p = y0.2 ++ (y1.2 ++ (y2.2 ++ (y3.2 ++ y4.2))) ∧
      DataW.trod enc P w base spare held n f0.type [v0] = some y0 ∧ DataW.trod enc P w base spare held n f1.type [v1] = some y1 ∧ DataW.trod enc P w base spare held n f2.type [v2] = some y2 ∧ DataW.trod enc P w base spare held n f3.type [v3] = some y3 ∧ DataW.trod enc P w base spare held n f4.type [v4] = some y4 := by
  obtain ⟨cs, rfl, hsz⟩ := okWide_struct hs hv
  obtain ⟨l⟩ := cs
  match l, hsz.trans hC with
  | [c0, c1, c2, c3, c4], _ =>
    obtain ⟨fuel, hf⟩ := h
    obtain ⟨xs, n, _, hx, _, hlen, hg⟩ := DataW.trod_struct hs hf
    obtain ⟨o0, k0⟩ := hone_of hone 0 f0 rfl
    obtain ⟨o1, k1⟩ := hone_of hone 1 f1 rfl
    obtain ⟨o2, k2⟩ := hone_of hone 2 f2 rfl
    obtain ⟨o3, k3⟩ := hone_of hone 3 f3 rfl
    obtain ⟨o4, k4⟩ := hone_of hone 4 f4 rfl
    match xs, hlen with
    | [y0, y1, y2, y3, y4], _ =>
      simp only [Prod.mk.injEq] at hx
      exact ⟨c0, c1, c2, c3, c4, y0, y1, y2, y3, y4, n, rfl, by simpa using hx.1, by simpa using hx.2, by simpa [Value.cells, o0, k0] using hg 0 f0 rfl, by simpa [Value.cells, o1, k1] using hg 1 f1 rfl, by simpa [Value.cells, o2, k2] using hg 2 f2 rfl, by simpa [Value.cells, o3, k3] using hg 3 f3 rfl, by simpa [Value.cells, o4, k4] using hg 4 f4 rfl⟩
theorem open_slice_fields {t e : TypeId} {fs : Array Field} {fuel : Nat} {cs : List Value} {x : DataW H × List MemPlace} (ht : P.underlying t = some (.slice e)) (he : P.underlying e = some (.struct fs))
    (hone : oneCellFields P fs = true) (hC : P.cellsOf e = fs.size) (h : DataW.trod enc P w base spare held fuel t cs = some x) :
    (cs = [.slice none 0 0] ∧ x = (.nil, [])) ∨
    ∃ (a : Addr) (len cap m : Nat) (D : Nat → DataW H) (Pl : Nat → List MemPlace), cs = [.slice (some a) len cap] ∧ base ≤ a.block ∧ len ≤ cap ∧ cap ≤ maxLen ∧ m = (if spare a.block then cap else len) ∧
      x = (.slice ((List.range len).map D) ((List.range (m - len)).map fun j => D (len + j)), MemPlace.row a (m * fs.size) ++ (List.range m).flatMap Pl) ∧
      ∀ i, i < m → ∃ (ys : List (DataW H × List MemPlace)) (n : Nat), D i = .agg (ys.map (·.1)) ∧ Pl i = ys.flatMap (·.2) ∧ ys.length = fs.size ∧
        ∀ (j : Nat) (f : Field), fs[j]? = some f → ∃ (v : Value) (y : DataW H × List MemPlace), w.cell? (a.add (i * fs.size + j)) = some v ∧ ys[j]? = some y ∧ DataW.trod enc P w base spare held n f.type [v] = some y := by
  rcases open_slice ht h with h0 | ⟨a, len, cap, m, n, D, Pl, hcs, hb, hl, hm, hmm, hx, hi⟩
  · exact .inl h0
  · refine .inr ⟨a, len, cap, m, D, Pl, hcs, hb, hl, hm, hmm, by rw [hC] at hx; exact hx, fun i him => ?_⟩
    obtain ⟨cs', hc, ht'⟩ := hi i him
    rw [hC] at hc
    obtain ⟨ys, n', hn', hy, hlen, hyl, hf⟩ := DataW.trod_struct he ht'
    obtain ⟨_, hcl, hat⟩ := World.cells?_some hc
    simp only [Prod.mk.injEq] at hy
    refine ⟨ys, n', hy.1, hy.2, hyl, fun j f hj => ?_⟩
    obtain ⟨ho, hk⟩ := hone_of hone j f hj
    have hjl : j < fs.size := (Array.getElem?_eq_some_iff.1 hj).1
    have hcell := hat j hjl
    have hv : cs'[j]? = some (cs'[j]'(by omega)) := List.getElem?_eq_getElem (by omega)
    have h1 := hf j f hj
    rw [ho, hk] at h1
    have hone' : (cs'.drop j).take 1 = [cs'[j]'(by omega)] := by
      rw [List.drop_eq_getElem_cons (by omega)]
      rfl
    rw [hone'] at h1
    have hys : ys[j]? = some (ys[j]'(by omega)) := List.getElem?_eq_getElem (by omega)
    refine ⟨_, _, ?_, hys, h1.trans hys⟩
    rw [← Go.Deep.add_add, hcell, hv]
theorem slice_form {t e : TypeId} {fuel : Nat} {v : Value} {x : DataW H × List MemPlace} (ht : P.underlying t = some (.slice e)) (h : DataW.trod enc P w base spare held fuel t [v] = some x) : ∃ A n c, v = .slice A n c := by
  rcases DataW.trod_slice ht h with ⟨hcs, _⟩ | ⟨a, len, cap, _, _, _, _, hcs, _⟩
  · simp only [List.cons.injEq, and_true] at hcs; exact ⟨_, _, _, hcs⟩
  · simp only [List.cons.injEq, and_true] at hcs; exact ⟨_, _, _, hcs⟩
theorem int_form {t : TypeId} {k : IntKind} {fuel : Nat} {v : Value} {x : DataW H × List MemPlace} (ht : P.underlying t = some (.int k)) (h : DataW.trod enc P w base spare held fuel t [v] = some x) : ∃ m, v = .int k m ∧ (Lit.int k m).wf = true := by
  obtain ⟨m, hcs, _, hw⟩ := DataW.trod_int ht h
  simp only [List.cons.injEq, and_true] at hcs
  exact ⟨m, hcs, hw⟩
theorem Rd.trod_base {A : Option Addr} {xs : List Value} (h : Rd w A xs) : Rd w A xs := h
end
end Go.Proofs.YtcklmkjlbpjojaaDoor
namespace Go.Proofs.YtcklmkjlbpjojaaDoor
open Go.RowKit
set_option linter.unusedSimpArgs false
set_option linter.unusedVariables false

/-- A node: its block, its array's block and capacity, what it holds. -/
structure Nd where
  g : Nat
  A : Option Nat
  c : Nat
  p : Int
  x : Int
  y : Int
  a : Int
  b : Int
  way : Int
inductive T where
  | mk (n : Nd) (ks : List T)
def T.n : T → Nd | .mk n _ => n
def T.ks : T → List T | .mk _ ks => ks
def T.g (t : T) : Nat := t.n.g
theorem T.ind {P : T → Prop} (h : ∀ n ks, (∀ k ∈ ks, P k) → P (.mk n ks)) (t : T) : P t :=
  T.rec (motive_1 := P) (motive_2 := fun ks => ∀ k ∈ ks, P k) (fun n ks ih => h n ks ih) (fun _ hk => by cases hk)
    (fun k ks h1 h2 j hj => by rcases List.mem_cons.1 hj with rfl | hj; exact h1; exact h2 j hj) t

def ptr (g : Nat) : Value := .pointer (some ⟨g, 0, none⟩)
def uptr : Option Nat → Value
  | none => .pointer none
  | some g => ptr g
def adr (A : Option Nat) : Option Addr := A.map fun b => ⟨b, 0, none⟩
def ptrs (l : List T) : List Value := l.map fun t => ptr t.g
def Nd.row (n : Nd) (k : Nat) : Value := .slice (adr n.A) k n.c
theorem ptrs_len (l : List T) : (ptrs l).length = l.length := by simp [ptrs]
theorem ptrs_one (l : List T) : ∀ u ∈ ptrs l, u.oneCell' = true := by
  intro u hu
  simp only [ptrs, List.mem_map] at hu
  obtain ⟨t, _, rfl⟩ := hu
  rfl

/-- A node in memory. -/
structure At (w : World) (up : Option Nat) (n : Nd) (ks : List T) : Prop where
  h : w.heap[n.g]? = some (.cells #[.int .i64 n.p, .int .i64 n.x, .int .i64 n.y, .int .i64 n.a, .int .i64 n.b, .int .i64 n.way, n.row ks.length, uptr up] 58 (0, 0))
  r : w.ownsRow 0 55 1 (n.row ks.length) ks.length (ptrs ks)
mutual
/-- The tree t lies in memory, below 'up'. -/
def TP (w : World) : Option Nat → T → Prop
  | up, .mk n ks => At w up n ks ∧ TPs w (some n.g) ks
def TPs (w : World) : Option Nat → List T → Prop
  | _, [] => True
  | up, k :: ks => TP w up k ∧ TPs w up ks
end
theorem TPs_iff {w : World} {up : Option Nat} : ∀ {ks : List T}, TPs w up ks ↔ ∀ k ∈ ks, TP w up k
  | [] => by simp [TPs]
  | k :: ks => by rw [TPs, TPs_iff]; simp
theorem TPs_app {w : World} {up : Option Nat} {l r : List T} : TPs w up (l ++ r) ↔ TPs w up l ∧ TPs w up r := by
  simp only [TPs_iff, List.mem_append]
  exact ⟨fun h => ⟨fun k hk => h k (.inl hk), fun k hk => h k (.inr hk)⟩, fun h k hk => hk.elim (h.1 k) (h.2 k)⟩
theorem TP.mk {w : World} {up : Option Nat} {n : Nd} {ks : List T} (h : At w up n ks) (hk : TPs w (some n.g) ks) : TP w up (.mk n ks) := by rw [TP]; exact ⟨h, hk⟩
theorem TP.at_ {w : World} {up : Option Nat} {n : Nd} {ks : List T} (h : TP w up (.mk n ks)) : At w up n ks := by rw [TP] at h; exact h.1
theorem TP.kids {w : World} {up : Option Nat} {n : Nd} {ks : List T} (h : TP w up (.mk n ks)) : TPs w (some n.g) ks := by rw [TP] at h; exact h.2

mutual
/-- The blocks of a tree. -/
def T.bl : T → List Nat
  | .mk n ks => n.g :: (n.A.toList ++ blL ks)
def blL : List T → List Nat
  | [] => []
  | k :: ks => k.bl ++ blL ks
end
theorem T.bl_mk (n : Nd) (ks : List T) : (T.mk n ks).bl = n.g :: (n.A.toList ++ blL ks) := by rw [T.bl]
theorem blL_cons (k : T) (ks : List T) : blL (k :: ks) = k.bl ++ blL ks := by rw [blL]
theorem blL_nil : blL [] = [] := by rw [blL]
theorem blL_app (l r : List T) : blL (l ++ r) = blL l ++ blL r := by
  induction l with
  | nil => simp [blL_nil]
  | cons k l ih => simp [blL_cons, ih]
theorem mem_blL {b : Nat} {ks : List T} : b ∈ blL ks ↔ ∃ k ∈ ks, b ∈ k.bl := by
  induction ks with
  | nil => simp [blL_nil]
  | cons k ks ih => simp [blL_cons, ih]
theorem T.g_mem (t : T) : t.g ∈ t.bl := by cases t; rw [T.bl_mk]; simp [T.g, T.n]

/-- What w' and w agree on: all but the blocks S. -/
structure Off (S : List Nat) (w w' : World) : Prop where
  os : w'.os = w.os
  tape : w'.tape = w.tape
  output : w'.output = w.output
  size : w.heap.size ≤ w'.heap.size
  block : ∀ k, k < w.heap.size → k ∉ S → w'.heap[k]? = w.heap[k]?
section
variable {w w' w'' : World} {S S' : List Nat}
theorem Off.refl (S : List Nat) (w : World) : Off S w w := ⟨rfl, rfl, rfl, Nat.le_refl _, fun _ _ _ => rfl⟩
theorem Off.trans (h : Off S w w') (k : Off S' w' w'') (hs : ∀ b ∈ S', b ∈ S ∨ w.heap.size ≤ b) : Off S w w'' :=
  ⟨k.os.trans h.os, k.tape.trans h.tape, k.output.trans h.output, Nat.le_trans h.size k.size, fun b hb hn =>
    (k.block b (Nat.lt_of_lt_of_le hb h.size) (fun hm => (hs b hm).elim hn (fun h => by omega))).trans (h.block b hb hn)⟩
theorem Off.sub (h : Off S w w') (hs : ∀ b ∈ S, b ∈ S' ∨ w.heap.size ≤ b) : Off S' w w' := (Off.refl S' w).trans h hs
theorem Off.of_grown (h : w.grownBy w' none) : Off S w w' := ⟨h.os, h.tape, h.output, h.size, fun k hk _ => h.block k hk (by simp)⟩
theorem Off.of_row {r : Option Nat} (h : w.grownBy w' r) : Off r.toList w w' := ⟨h.os, h.tape, h.output, h.size, fun k hk hn => h.block k hk (by rintro rfl; simp at hn)⟩
theorem Off.grown (h : Off S w w') (hs : ∀ b ∈ S, w.heap.size ≤ b) : w.grownBy w' none := ⟨h.os, h.tape, h.output, h.size, fun k hk _ => h.block k hk (fun hm => by have := hs k hm; omega)⟩
theorem Off.below {B : Nat} (h : Off S w w') (hs : ∀ b ∈ S, B ≤ b) (hB : B ≤ w.heap.size) : Below B w w' := ⟨h.os, h.tape, h.output, h.size, fun k hk => h.block k (by omega) (fun hm => by have := hs k hm; omega)⟩
theorem Off.set (w : World) (a : Addr) (v : Value) : Off [a.block] w (w.setCell a v) :=
  ⟨rfl, rfl, rfl, by simp, fun k hk hn => by
    simp only [List.mem_singleton] at hn
    unfold World.setCell
    simp only [Array.getElem?_modify]
    rw [if_neg (fun e => hn e.symm)]⟩
theorem Off.alloc (w : World) (o : Obj) : Off S w (w.alloc o) := Off.of_grown (World.grownBy_alloc w o none)
theorem Off.drew (w : World) : Off S w w.drew := ⟨rfl, rfl, rfl, Nat.le_refl _, fun _ _ _ => rfl⟩
end
theorem lt_of_heap {w : World} {g : Nat} {o : Obj} (h : w.heap[g]? = some o) : g < w.heap.size := by
  rcases Nat.lt_or_ge g w.heap.size with hlt | hge
  · exact hlt
  · rw [Array.getElem?_eq_none hge] at h; cases h
theorem ownBlock_row {n : Nd} {k : Nat} : (n.row k).ownBlock = n.A := by
  unfold Nd.row adr; cases n.A <;> rfl

section
variable {w w' : World} {up : Option Nat} {n : Nd} {ks : List T}
theorem At.lt (h : At w up n ks) : ∀ b ∈ n.g :: n.A.toList, b < w.heap.size := by
  intro b hb
  rcases List.mem_cons.1 hb with rfl | hb
  · exact lt_of_heap h.h
  · exact (h.r.lt b (by rw [ownBlock_row]; simpa using hb)).2
theorem own_same {base size m : Nat} {e : TypeId} {v : Value} {xs : List Value} (h : w.ownsRow base e size v m xs) (hb : ∀ b, v.ownBlock = some b → w'.heap[b]? = w.heap[b]?) : w'.ownsRow base e size v m xs := by
  refine ⟨h.1, ?_⟩
  rcases h.2 with hn | ⟨g, cap, cur, rfl, hbs, hgg, rest⟩
  · exact .inl hn
  · refine .inr ⟨g, cap, cur, rfl, hbs, ?_, rest⟩
    rw [hb g rfl]; exact hgg
theorem At.same (h : At w up n ks) (hs : ∀ b ∈ n.g :: n.A.toList, w'.heap[b]? = w.heap[b]?) : At w' up n ks :=
  ⟨by rw [hs n.g (by simp)]; exact h.h, own_same h.r fun b hb => hs b (by rw [ownBlock_row] at hb; simp [hb])⟩
end
theorem TP.same {w w' : World} : ∀ (t : T) (up : Option Nat), TP w up t → (∀ b ∈ t.bl, w'.heap[b]? = w.heap[b]?) → TP w' up t := by
  intro t
  induction t using T.ind with
  | h n ks ih =>
    intro up h hs
    rw [T.bl_mk] at hs
    refine .mk (h.at_.same fun b hb => hs b ?_) (TPs_iff.2 fun k hk => ih k hk _ (TPs_iff.1 h.kids k hk) fun b hb => hs b ?_)
    · rcases List.mem_cons.1 hb with rfl | hb
      · simp
      · simp [List.mem_append, Option.mem_toList.1 hb]
    · simp only [List.mem_cons, List.mem_append]
      exact .inr (.inr (mem_blL.2 ⟨k, hk, hb⟩))
theorem TP.lt {w : World} : ∀ (t : T) (up : Option Nat), TP w up t → ∀ b ∈ t.bl, b < w.heap.size := by
  intro t
  induction t using T.ind with
  | h n ks ih =>
    intro up h b hb
    rw [T.bl_mk] at hb
    simp only [List.mem_cons, List.mem_append] at hb
    rcases hb with rfl | hb | hb
    · exact h.at_.lt _ (by simp)
    · exact h.at_.lt _ (by simp [Option.mem_toList.1 hb])
    · obtain ⟨k, hk, hb⟩ := mem_blL.1 hb
      exact ih k hk _ (TPs_iff.1 h.kids k hk) b hb
theorem TP.off {w w' : World} {S : List Nat} {t : T} {up : Option Nat} (h : TP w up t) (ho : Off S w w') (hd : ∀ b ∈ t.bl, b ∉ S) : TP w' up t :=
  h.same _ _ fun b hb => ho.block b (h.lt _ _ b hb) (hd b hb)
theorem TPs.off {w w' : World} {S : List Nat} {ks : List T} {up : Option Nat} (h : TPs w up ks) (ho : Off S w w') (hd : ∀ b ∈ blL ks, b ∉ S) : TPs w' up ks :=
  TPs_iff.2 fun k hk => (TPs_iff.1 h k hk).off ho fun b hb => hd b (mem_blL.2 ⟨k, hk, hb⟩)
theorem TP.below {w w' : World} {B : Nat} {t : T} {up : Option Nat} (h : TP w up t) (ho : Below B w w') (hd : ∀ b ∈ t.bl, b < B) : TP w' up t :=
  h.same _ _ fun b hb => ho.block b (hd b hb)
theorem TP.grown {w w' : World} {t : T} {up : Option Nat} (h : TP w up t) (ho : w.grownBy w' none) : TP w' up t :=
  h.same _ _ fun b hb => ho.block b (h.lt _ _ b hb) (by simp)
end Go.Proofs.YtcklmkjlbpjojaaDoor
