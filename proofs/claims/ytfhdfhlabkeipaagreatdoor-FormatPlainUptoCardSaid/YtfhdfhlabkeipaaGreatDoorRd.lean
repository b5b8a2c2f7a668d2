/- Words for memory that this claim's proofs share: a slice that reads as a list of cells; bytes; appends onto a row of the call's own. No program in sight. -/
import Derived.WalkKit
import Derived.WalkSpells
import Derived.WalkLawsBesides
import Derived.Lib.Hide
import Derived.Lib.AppendStr
import Derived.Maps.AppendAt
import Derived.Deep.AppendLies
import Derived.Deep.Draws
import Derived.Outline
namespace Go.Proofs.YtfhdfhlabkeipaaGreatDoor
open Go.RowKit
set_option linter.unusedSimpArgs false
set_option linter.unusedVariables false

def b8 (b : UInt8) : Value := .int .u8 b.toNat
def bs (l : List UInt8) : List Value := l.map b8
def st (l : List UInt8) : ByteArray := ⟨l.toArray⟩
def sl (s : ByteArray) : List UInt8 := s.data.toList

theorem st_sl (s : ByteArray) : st (sl s) = s := by cases s; simp [st, sl]
theorem sl_st (l : List UInt8) : sl (st l) = l := by simp [st, sl]
theorem sl_len (s : ByteArray) : (sl s).length = s.size := by simp [sl]
theorem st_size (l : List UInt8) : (st l).size = l.length := by simp [st, ByteArray.size]
theorem bs_len (l : List UInt8) : (bs l).length = l.length := by simp [bs]
theorem bs_append (a b : List UInt8) : bs (a ++ b) = bs a ++ bs b := by simp [bs]
theorem bs_one (l : List UInt8) : ∀ u ∈ bs l, u.oneCell' = true := by
  intro u hu
  simp only [bs, List.mem_map] at hu
  obtain ⟨b, _, rfl⟩ := hu
  rfl
theorem strCells_eq (s : ByteArray) : Lib.strCells s = bs (sl s) := rfl

theorem ret_bool {a b : Bool} (h : a = b) : Ending.returned (.bool a) = .returned (.bool b) := by rw [h]
theorem ret_int {k : IntKind} {a b : Int} (h : a = b) : Ending.returned (.int k a) = .returned (.int k b) := by rw [h]
theorem ret_str {a b : ByteArray} (h : a = b) : Ending.returned (.string a) = .returned (.string b) := by rw [h]

/-- The slice with address A holds the cells xs. -/
def Rd (w : World) (A : Option Addr) (xs : List Value) : Prop :=
  xs ≠ [] → ∃ b off, A = some ⟨b, off, none⟩ ∧ b < w.heap.size ∧ ∀ j u, xs[j]? = some u → w.cell? ⟨b, off + j, none⟩ = some u

def ablk (A : Option Addr) : Option Nat := A.map (·.block)

section
variable {w w' : World} {A : Option Addr} {xs : List Value}
theorem Rd.nil (w : World) (A : Option Addr) : Rd w A [] := fun h => absurd rfl h
theorem Rd.grown (h : Rd w A xs) {row : Option Nat} (hg : w.grownBy w' row) (hne : row = none ∨ ablk A ≠ row) : Rd w' A xs := fun hx => by
  obtain ⟨b, off, rfl, hb, hc⟩ := h hx
  refine ⟨b, off, rfl, Nat.lt_of_lt_of_le hb hg.size, fun j u hj => hg.cell (hc j u hj) ?_⟩
  rcases hne with rfl | hne
  · simp
  · exact hne
theorem Rd.below {B : Nat} (h : Rd w A xs) (hb : Below B w w') (hl : ∀ b, ablk A = some b → b < B) : Rd w' A xs := fun hx => by
  obtain ⟨b, off, rfl, hb', hc⟩ := h hx
  exact ⟨b, off, rfl, Nat.lt_of_lt_of_le hb' hb.size, fun j u hj => (hb.cell (p := ⟨b, off + j, none⟩) (hl b rfl)).trans (hc j u hj)⟩
theorem Rd.below' (h : Rd w A xs) (hb : Below w.heap.size w w') : Rd w' A xs := fun hx => by
  obtain ⟨b, off, rfl, hb', hc⟩ := h hx
  exact ⟨b, off, rfl, Nat.lt_of_lt_of_le hb' hb.size, fun j u hj => (hb.cell (p := ⟨b, off + j, none⟩) hb').trans (hc j u hj)⟩
theorem Rd.none_nil (h : Rd w none xs) : xs = [] := by
  rcases xs with _ | ⟨x, xs⟩
  · rfl
  · obtain ⟨_, _, e, _⟩ := h (by simp)
    cases e
theorem Rd.alloc (h : Rd w A xs) (o : Obj) : Rd (w.alloc o) A xs := h.grown (World.grownBy_alloc w o none) (.inl rfl)
theorem Rd.drew (h : Rd w A xs) : Rd w.drew A xs := h
theorem Rd.set (h : Rd w A xs) {p : Addr} (u : Value) (hne : ablk A ≠ some p.block) : Rd (w.setCell p u) A xs := fun hx => by
  obtain ⟨b, off, rfl, hb, hc⟩ := h hx
  refine ⟨b, off, rfl, by simpa using hb, fun j u hj => ?_⟩
  rw [World.cell?_setCell_other]
  · exact hc j u hj
  · rintro rfl; exact hne rfl
theorem Rd.at_ (h : Rd w A xs) {j : Nat} {u : Value} (hj : xs[j]? = some u) : ∃ b off, A = some ⟨b, off, none⟩ ∧ b < w.heap.size ∧ w.cell? ⟨b, off + j, none⟩ = some u := by
  have hx : xs ≠ [] := by rintro rfl; simp at hj
  obtain ⟨b, off, e, hb, hc⟩ := h hx
  exact ⟨b, off, e, hb, hc j u hj⟩
theorem Rd.drop (h : Rd w A xs) (k : Nat) {b off : Nat} (hA : A = some ⟨b, off, none⟩) : Rd w (some ⟨b, off + k, none⟩) (xs.drop k) := fun hx => by
  have hx' : xs ≠ [] := by rintro rfl; simp at hx
  obtain ⟨b', off', e, hb, hc⟩ := h hx'
  rw [hA] at e
  injection e with e; injection e with e1 e2
  subst e1; subst e2
  exact ⟨_, _, rfl, hb, fun j u hj => by rw [Nat.add_assoc]; exact hc (k + j) u (by rw [← hj, List.getElem?_drop])⟩
theorem Rd.take (h : Rd w A xs) (k : Nat) : Rd w A (xs.take k) := fun hx => by
  have hx' : xs ≠ [] := by rintro rfl; simp at hx
  obtain ⟨b, off, e, hb, hc⟩ := h hx'
  refine ⟨b, off, e, hb, fun j u hj => hc j u ?_⟩
  rw [List.getElem?_take] at hj
  split at hj
  · exact hj
  · cases hj
theorem Rd.cut (k cap : Nat) {b off : Nat} (h : Rd w (some ⟨b, off, none⟩) xs) (hc : xs.length ≤ cap) :
    Rd w (if cap = k then some ⟨b, off, none⟩ else some ⟨b, off + k, none⟩) (xs.drop k) := by
  split
  · rename_i e
    rw [List.drop_of_length_le (by omega)]
    exact Rd.nil _ _
  · exact h.drop k rfl
theorem ablk_ite {c : Prop} [Decidable c] {b o1 o2 : Nat} : ablk (if c then some ⟨b, o1, none⟩ else some ⟨b, o2, none⟩) = some b := by split <;> rfl
theorem Rd.of_own {base : Nat} {e : TypeId} {size n : Nat} {v : Value} (h : w.ownsRow base e size v n xs) : ∃ A c, v = .slice A n c ∧ Rd w A xs ∧ ablk A = v.ownBlock ∧ n ≤ c ∧ c ≤ maxLen := by
  rcases h.2 with ⟨rfl, rfl⟩ | ⟨g, cap, cur, rfl, hb, hg, hn, hm, hs, ht⟩
  · have : xs = [] := List.eq_nil_of_length_eq_zero (by simpa using h.1)
    subst this
    exact ⟨none, 0, rfl, Rd.nil _ _, rfl, Nat.le_refl _, Nat.zero_le _⟩
  · refine ⟨_, _, rfl, fun _ => ⟨g, 0, rfl, ?_, fun j u hj => ?_⟩, rfl, hn, hm⟩
    · rcases Nat.lt_or_ge g w.heap.size with hlt | hge
      · exact hlt
      · rw [Array.getElem?_eq_none hge] at hg; cases hg
    · have := h.cells (g := g) rfl j u hj
      rwa [Addr.add_lit] at this
end

theorem g_alloc {w w' : World} {row : Option Nat} (h : w.grownBy w' row) (o : Obj) : w.grownBy (w'.alloc o) row := h.trans (World.grownBy_alloc w' o row)
theorem g_drew {w w' : World} {row : Option Nat} (h : w.grownBy w' row) : w.grownBy w'.drew row := ⟨h.os, h.tape, h.output, h.size, h.block⟩
theorem g_below {w w' : World} (h : w.grownBy w' none) : Below w.heap.size w w' := ⟨h.os, h.tape, h.output, h.size, fun k hk => h.block k hk (by simp)⟩
theorem below_g {w w' : World} (h : Below w.heap.size w w') : w.grownBy w' none := ⟨h.os, h.tape, h.output, h.size, fun k hk _ => h.block k hk⟩
theorem g_own {w a a' b : World} {row : Option Nat} {base size n : Nat} {e : TypeId} {v : Value} {xs : List Value} (h : w.grownBy a row) (ho : a'.ownsRow base e size v n xs) (hb : w.heap.size ≤ base) (hg : a.grownBy b v.ownBlock) : w.grownBy b row :=
  ⟨hg.os.trans h.os, hg.tape.trans h.tape, hg.output.trans h.output, Nat.le_trans h.size hg.size, fun k hk hne =>
    (hg.block k (Nat.lt_of_lt_of_le hk h.size) (fun e => by have := (ho.lt k e.symm).1; omega)).trans (h.block k hk hne)⟩
theorem own_le {w : World} {base base' size n : Nat} {e : TypeId} {v : Value} {xs : List Value} (h : w.ownsRow base e size v n xs) (hb : base' ≤ base) : w.ownsRow base' e size v n xs := by
  refine ⟨h.1, ?_⟩
  rcases h.2 with h2 | ⟨g, cap, cur, hv, hg, r⟩
  · exact .inl h2
  · exact .inr ⟨g, cap, cur, hv, by omega, r⟩
theorem own_keep {w w' : World} {base size n : Nat} {e : TypeId} {v : Value} {xs : List Value} (h : w.ownsRow base e size v n xs) (hg : w.grownBy w' none) : w'.ownsRow base e size v n xs := by
  rcases hv : v.ownBlock with _ | b
  · exact h.kept hg (.inl hv)
  · exact h.kept hg (.inr (by rw [hv]; simp))
def slen : Value → Nat | .slice _ n _ => n | _ => 0
theorem or_bytes (x y : UInt8) : bits .or .i64 ((x.toNat : Int) * 256) (y.toNat : Int) = ((x.toNat * 256 + y.toNat : Nat) : Int) := by
  have hx := x.toNat_lt; have hy := y.toNat_lt
  show IntKind.i64.wrap ((BitVec.ofInt 64 ((x.toNat : Int) * 256) ||| BitVec.ofInt 64 (y.toNat : Int)).toNat : Int) = _
  have e1 : ((x.toNat : Int) * 256) = ((x.toNat * 256 : Nat) : Int) := by simp
  rw [e1, BitVec.toNat_or, ofInt_u64 _ (by omega), ofInt_u64 _ (by omega)]
  have e2 : x.toNat * 256 ||| y.toNat = x.toNat * 256 + y.toNat := by
    have := Nat.two_pow_add_eq_or_of_lt (i := 8) (b := y.toNat) (by omega) x.toNat
    rw [Nat.mul_comm, ← this]
  rw [e2]
  rw [IntWalk.i64_in _ (by omega)]
theorem cast_beq0 (n : Nat) : (((n : Int)) == 0) = decide (n = 0) := by
  by_cases h : n = 0
  · subst h; rfl
  · simp [h]
theorem cast_beq (n m : Nat) : (((n : Int)) == (m : Int)) = decide (n = m) := by
  by_cases h : n = m
  · subst h; simp
  · have : ((n : Int) == (m : Int)) = false := by simp; omega
    simp [h, this]
section
variable {P : Program} (w : World)

theorem run_append_nil_of (base : Nat) (t ty e : TypeId) (i : TypeInfo) (size : Nat) (ht : P.underlying t = some (.slice e)) (hi : P.info? e = some i)
    (v : Value) (n : Nat) (xs : List Value) (hown : w.ownsRow base e size v n xs) (c : Nat) : (Builtin.append_ #[t, t] ty #[v, .slice none 0 c]).run P w = .ok v w := by
  rcases hown.2 with ⟨rfl, rfl⟩ | ⟨g, cap, cur, rfl, _, _, hnc, _⟩
  · simp [Builtin.append_, run_underlying ht, sizeOf, typeInfo, hi, Builtin.lenOf, Builtin.firstCells]
  · simp [Builtin.append_, run_underlying ht, sizeOf, typeInfo, hi, Builtin.lenOf, Builtin.firstCells, hnc, storeCells]

/-- append(v, x...): v is a row of the call's own, x whatever slice reads as 'news'. -/
theorem run_append_rd (base : Nat) (t ty e : TypeId) (i : TypeInfo) (z : Value) (size bytes : Nat) (ht : P.underlying t = some (.slice e)) (hi : P.info? e = some i) (hz : i.zero = some z)
    (hsize : i.size = size) (hby : i.bytes = bytes) (hzs : z.cells.size = size) (hsz : 0 < size)
    (v : Value) (n : Nat) (xs : List Value) (hown : w.ownsRow base e size v n xs)
    (A : Option Addr) (m c : Nat) (news : List Value) (hl : news.length = m * size) (hr : Rd w A news) (h1 : ∀ u ∈ news, u.oneCell' = true)
    (h63 : n + m ≤ maxLen) (hbytes : (n + m) * bytes ≤ 140737488355328) (hbase : base ≤ w.heap.size) :
    ∃ v' w', (Builtin.append_ #[t, t] ty #[v, .slice A m c]).run P w = .ok v' w' ∧ w'.ownsRow base e size v' (n + m) (xs ++ news) ∧ w.grownBy w' v.ownBlock ∧
      (v'.ownBlock = v.ownBlock ∨ v'.ownBlock = some w.heap.size) := by
  rcases A with _ | ad
  · have hn : news = [] := hr.none_nil
    subst hn
    obtain rfl : m = 0 := by
      rcases Nat.mul_eq_zero.1 hl.symm with h | h
      · exact h
      · omega
    exact ⟨v, w, run_append_nil_of w base t ty e i size ht hi v n xs hown c, by simpa using hown, World.grownBy.refl w _, .inl rfl⟩
  · have hcells : ∀ j u, news[j]? = some u → w.cell? (ad.add j) = some u := by
      intro j u hu
      obtain ⟨b, off, e, _, hc⟩ := hr.at_ hu
      injection e with e
      subst e
      rw [Addr.add_lit]
      exact hc
    obtain ⟨v', w', hrun, h2, h3, _, h5⟩ := run_append_own_at (P := P) w base t ty e i z size bytes ht hi hz hsize hby hzs hsz v n xs hown ad m c news hl hcells h1 h63 hbytes hbase
    exact ⟨v', w', hrun, h2, h3, h5⟩

theorem wp_append_rd {o : Oper} {a : Act} {K : Act → World → Prop} {Q : Exit → Act → World → Prop} (s x : Operand) (t : TypeId)
    (ho : o.op = .call { callee := .builtin .append, args := #[s, x], argTypes := #[t, t] })
    (base : Nat) (e : TypeId) (i : TypeInfo) (z : Value) (size bytes : Nat) (ht : P.underlying t = some (.slice e)) (hi : P.info? e = some i) (hz : i.zero = some z)
    (hsize : i.size = size) (hby : i.bytes = bytes) (hzs : z.cells.size = size) (hsz : 0 < size)
    (v : Value) (n : Nat) (xs : List Value) (hs : a.eval s = v) (hown : w.ownsRow base e size v n xs)
    (A : Option Addr) (m c : Nat) (news : List Value) (hx : a.eval x = .slice A m c) (hl : news.length = m * size) (hr : Rd w A news) (h1 : ∀ u ∈ news, u.oneCell' = true)
    (h63 : n + m ≤ maxLen) (hbytes : (n + m) * bytes ≤ 140737488355328) (hbase : base ≤ w.heap.size)
    (h : ∀ A' c' w', w'.ownsRow base e size (.slice A' (n + m) c') (n + m) (xs ++ news) → w.grownBy w' v.ownBlock → (ablk A' = v.ownBlock ∨ ablk A' = some w.heap.size) → K (a.put o.dst (.slice A' (n + m) c')) w') : o.wp P a w K Q := by
  obtain ⟨v', w', hrun, h2, h3, h4⟩ := run_append_rd (P := P) w base t o.type e i z size bytes ht hi hz hsize hby hzs hsz v n xs hown A m c news hl hr h1 h63 hbytes hbase
  unfold Oper.wp execOp
  simp only [ho, resolve, invoke, builtin, Sem.run_bind, Sem.run_pure, Result.andThen_ok, List.map_toArray, List.map_cons, List.map_nil, hs, hx, hrun]
  obtain ⟨A', c', rfl, _, hb', _⟩ := Rd.of_own h2
  exact h A' c' w' h2 h3 (by rw [hb']; exact h4)

theorem wpList_append_rd {ops : Array Oper} {rest : List Oper} {o : Oper} {a : Act} {Q : Exit → Act → World → Prop} (hgd : o.guard = none) (s x : Operand) (t : TypeId)
    (ho : o.op = .call { callee := .builtin .append, args := #[s, x], argTypes := #[t, t] })
    (base : Nat) (e : TypeId) (i : TypeInfo) (z : Value) (size bytes : Nat) (ht : P.underlying t = some (.slice e)) (hi : P.info? e = some i) (hz : i.zero = some z)
    (hsize : i.size = size) (hby : i.bytes = bytes) (hzs : z.cells.size = size) (hsz : 0 < size)
    (v : Value) (n : Nat) (xs : List Value) (hs : a.eval s = v) (hown : w.ownsRow base e size v n xs)
    (A : Option Addr) (m c : Nat) (news : List Value) (hx : a.eval x = .slice A m c) (hl : news.length = m * size) (hr : Rd w A news) (h1 : ∀ u ∈ news, u.oneCell' = true)
    (h63 : n + m ≤ maxLen) (hbytes : (n + m) * bytes ≤ 140737488355328) (hbase : base ≤ w.heap.size)
    (h : ∀ A' c' w', w'.ownsRow base e size (.slice A' (n + m) c') (n + m) (xs ++ news) → w.grownBy w' v.ownBlock → (ablk A' = v.ownBlock ∨ ablk A' = some w.heap.size) → wpList P ops Q rest (a.put o.dst (.slice A' (n + m) c')) w') : wpList P ops Q (o :: rest) a w :=
  wpList_plain hgd fun _ hK => wp_append_rd w s x t ho base e i z size bytes ht hi hz hsize hby hzs hsz v n xs hs hown A m c news hx hl hr h1 h63 hbytes hbase fun A' c' w' h2 h3 h4 => hK _ _ (h A' c' w' h2 h3 h4)

/-- string(b) of bytes. -/
theorem conv_str (src dst e : TypeId) (hs : P.underlying src = some (.slice e)) (he : P.underlying e = some (.int .u8)) (hd : P.underlying dst = some .string)
    (A : Option Addr) (n c : Nat) (l : List UInt8) (hl : n = l.length) (hr : Rd w A (bs l)) :
    (convert src dst (.slice A n c)).run P w = .ok (.string (st l)) w := by
  rw [run_convert_bytes_string w src dst e A n c hs he hd]
  rcases A with _ | ad
  · have : l = [] := by simpa [bs] using hr.none_nil
    subst this
    obtain rfl : n = 0 := hl
    simp [Conv.bytesToString, st]; rfl
  · have hcells : ∀ j u, (bs l)[j]? = some u → w.cell? (ad.add j) = some u := by
      intro j u hu
      obtain ⟨b, off, e, _, hc⟩ := hr.at_ hu
      injection e with e
      subst e
      rw [Addr.add_lit]
      exact hc
    have h1 := run_loadCells_list (P := P) (w := w) ad (bs l) hcells
    have h2 : bs l = (l.map fun b => (b.toNat : Int)).map (Value.int .u8) := by simp [bs, b8]
    rw [bs_len, ← hl, h2] at h1
    rw [run_bytesToString w ad n c _ h1]
    congr 2
    have key : ∀ (l : List UInt8) (r : ByteArray), (l.map fun b => (b.toNat : Int)).foldl (fun r n => r.push (UInt8.ofNat n.toNat)) r = ⟨r.data ++ l.toArray⟩ := by
      intro l
      induction l with
      | nil => intro r; simp
      | cons b l ih =>
        intro r
        simp only [List.map_cons, List.foldl_cons]
        rw [ih]
        simp [ByteArray.push]
    rw [key]
    apply congrArg; simp [st]
end
end Go.Proofs.YtfhdfhlabkeipaaGreatDoor
