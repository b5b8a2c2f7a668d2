/- Layout: a split window as the proofs see it: nodes with their blocks, and where they lie in memory. No program in sight. -/
import Derived.WalkKit
import Derived.WalkSpells
import Derived.WalkLawsBesides
import Derived.Lib.Hide
import Derived.Lib.AppendStr
import Derived.Maps.AppendAt
import Derived.Deep.AppendLies
import Derived.Deep.Draws
import Derived.Outline
namespace Go.Proofs.YtcklmkjlbpjojaaDoor
open Go.RowKit
set_option linter.unusedSimpArgs false
set_option linter.unusedVariables false

/-- A node: its block, its array's block and capacity, what it holds. -/
structure Nd where
  g : Nat
  A : Option Nat
  c : Nat
  p : Int
  x : Int
  y : Int
  a : Int
  b : Int
  way : Int
inductive T where
  | mk (n : Nd) (ks : List T)
def T.n : T → Nd | .mk n _ => n
def T.ks : T → List T | .mk _ ks => ks
def T.g (t : T) : Nat := t.n.g
theorem T.ind {P : T → Prop} (h : ∀ n ks, (∀ k ∈ ks, P k) → P (.mk n ks)) (t : T) : P t :=
  T.rec (motive_1 := P) (motive_2 := fun ks => ∀ k ∈ ks, P k) (fun n ks ih => h n ks ih) (fun _ hk => by cases hk)
    (fun k ks h1 h2 j hj => by rcases List.mem_cons.1 hj with rfl | hj; exact h1; exact h2 j hj) t

def ptr (g : Nat) : Value := .pointer (some ⟨g, 0, none⟩)
def uptr : Option Nat → Value
  | none => .pointer none
  | some g => ptr g
def adr (A : Option Nat) : Option Addr := A.map fun b => ⟨b, 0, none⟩
def ptrs (l : List T) : List Value := l.map fun t => ptr t.g
def Nd.row (n : Nd) (k : Nat) : Value := .slice (adr n.A) k n.c
theorem ptrs_len (l : List T) : (ptrs l).length = l.length := by simp [ptrs]
theorem ptrs_one (l : List T) : ∀ u ∈ ptrs l, u.oneCell' = true := by
  intro u hu
  simp only [ptrs, List.mem_map] at hu
  obtain ⟨t, _, rfl⟩ := hu
  rfl

/-- A node in memory. -/
structure At (w : World) (up : Option Nat) (n : Nd) (ks : List T) : Prop where
  h : w.heap[n.g]? = some (.cells #[.int .i64 n.p, .int .i64 n.x, .int .i64 n.y, .int .i64 n.a, .int .i64 n.b, .int .i64 n.way, n.row ks.length, uptr up] 58 (0, 0))
  r : w.ownsRow 0 55 1 (n.row ks.length) ks.length (ptrs ks)
mutual
/-- The tree t lies in memory, below 'up'. -/
def TP (w : World) : Option Nat → T → Prop
  | up, .mk n ks => At w up n ks ∧ TPs w (some n.g) ks
def TPs (w : World) : Option Nat → List T → Prop
  | _, [] => True
  | up, k :: ks => TP w up k ∧ TPs w up ks
end
theorem TPs_iff {w : World} {up : Option Nat} : ∀ {ks : List T}, TPs w up ks ↔ ∀ k ∈ ks, TP w up k
  | [] => by simp [TPs]
  | k :: ks => by rw [TPs, TPs_iff]; simp
theorem TPs_app {w : World} {up : Option Nat} {l r : List T} : TPs w up (l ++ r) ↔ TPs w up l ∧ TPs w up r := by
  simp only [TPs_iff, List.mem_append]
  exact ⟨fun h => ⟨fun k hk => h k (.inl hk), fun k hk => h k (.inr hk)⟩, fun h k hk => hk.elim (h.1 k) (h.2 k)⟩
theorem TP.mk {w : World} {up : Option Nat} {n : Nd} {ks : List T} (h : At w up n ks) (hk : TPs w (some n.g) ks) : TP w up (.mk n ks) := by rw [TP]; exact ⟨h, hk⟩
theorem TP.at_ {w : World} {up : Option Nat} {n : Nd} {ks : List T} (h : TP w up (.mk n ks)) : At w up n ks := by rw [TP] at h; exact h.1
theorem TP.kids {w : World} {up : Option Nat} {n : Nd} {ks : List T} (h : TP w up (.mk n ks)) : TPs w (some n.g) ks := by rw [TP] at h; exact h.2

mutual
/-- The blocks of a tree. -/
def T.bl : T → List Nat
  | .mk n ks => n.g :: (n.A.toList ++ blL ks)
def blL : List T → List Nat
  | [] => []
  | k :: ks => k.bl ++ blL ks
end
theorem T.bl_mk (n : Nd) (ks : List T) : (T.mk n ks).bl = n.g :: (n.A.toList ++ blL ks) := by rw [T.bl]
theorem blL_cons (k : T) (ks : List T) : blL (k :: ks) = k.bl ++ blL ks := by rw [blL]
theorem blL_nil : blL [] = [] := by rw [blL]
theorem blL_app (l r : List T) : blL (l ++ r) = blL l ++ blL r := by
  induction l with
  | nil => simp [blL_nil]
  | cons k l ih => simp [blL_cons, ih]
theorem mem_blL {b : Nat} {ks : List T} : b ∈ blL ks ↔ ∃ k ∈ ks, b ∈ k.bl := by
  induction ks with
  | nil => simp [blL_nil]
  | cons k ks ih => simp [blL_cons, ih]
theorem T.g_mem (t : T) : t.g ∈ t.bl := by cases t; rw [T.bl_mk]; simp [T.g, T.n]

/-- What w' and w agree on: all but the blocks S. -/
structure Off (S : List Nat) (w w' : World) : Prop where
  os : w'.os = w.os
  tape : w'.tape = w.tape
  output : w'.output = w.output
  size : w.heap.size ≤ w'.heap.size
  block : ∀ k, k < w.heap.size → k ∉ S → w'.heap[k]? = w.heap[k]?
section
variable {w w' w'' : World} {S S' : List Nat}
theorem Off.refl (S : List Nat) (w : World) : Off S w w := ⟨rfl, rfl, rfl, Nat.le_refl _, fun _ _ _ => rfl⟩
theorem Off.trans (h : Off S w w') (k : Off S' w' w'') (hs : ∀ b ∈ S', b ∈ S ∨ w.heap.size ≤ b) : Off S w w'' :=
  ⟨k.os.trans h.os, k.tape.trans h.tape, k.output.trans h.output, Nat.le_trans h.size k.size, fun b hb hn =>
    (k.block b (Nat.lt_of_lt_of_le hb h.size) (fun hm => (hs b hm).elim hn (fun h => by omega))).trans (h.block b hb hn)⟩
theorem Off.sub (h : Off S w w') (hs : ∀ b ∈ S, b ∈ S' ∨ w.heap.size ≤ b) : Off S' w w' := (Off.refl S' w).trans h hs
theorem Off.of_grown (h : w.grownBy w' none) : Off S w w' := ⟨h.os, h.tape, h.output, h.size, fun k hk _ => h.block k hk (by simp)⟩
theorem Off.of_row {r : Option Nat} (h : w.grownBy w' r) : Off r.toList w w' := ⟨h.os, h.tape, h.output, h.size, fun k hk hn => h.block k hk (by rintro rfl; simp at hn)⟩
theorem Off.grown (h : Off S w w') (hs : ∀ b ∈ S, w.heap.size ≤ b) : w.grownBy w' none := ⟨h.os, h.tape, h.output, h.size, fun k hk _ => h.block k hk (fun hm => by have := hs k hm; omega)⟩
theorem Off.below {B : Nat} (h : Off S w w') (hs : ∀ b ∈ S, B ≤ b) (hB : B ≤ w.heap.size) : Below B w w' := ⟨h.os, h.tape, h.output, h.size, fun k hk => h.block k (by omega) (fun hm => by have := hs k hm; omega)⟩
theorem Off.set (w : World) (a : Addr) (v : Value) : Off [a.block] w (w.setCell a v) :=
  ⟨rfl, rfl, rfl, by simp, fun k hk hn => by
    simp only [List.mem_singleton] at hn
    unfold World.setCell
    simp only [Array.getElem?_modify]
    rw [if_neg (fun e => hn e.symm)]⟩
theorem Off.alloc (w : World) (o : Obj) : Off S w (w.alloc o) := Off.of_grown (World.grownBy_alloc w o none)
theorem Off.drew (w : World) : Off S w w.drew := ⟨rfl, rfl, rfl, Nat.le_refl _, fun _ _ _ => rfl⟩
end
theorem lt_of_heap {w : World} {g : Nat} {o : Obj} (h : w.heap[g]? = some o) : g < w.heap.size := by
  rcases Nat.lt_or_ge g w.heap.size with hlt | hge
  · exact hlt
  · rw [Array.getElem?_eq_none hge] at h; cases h
theorem ownBlock_row {n : Nd} {k : Nat} : (n.row k).ownBlock = n.A := by
  unfold Nd.row adr; cases n.A <;> rfl

section
variable {w w' : World} {up : Option Nat} {n : Nd} {ks : List T}
theorem At.lt (h : At w up n ks) : ∀ b ∈ n.g :: n.A.toList, b < w.heap.size := by
  intro b hb
  rcases List.mem_cons.1 hb with rfl | hb
  · exact lt_of_heap h.h
  · exact (h.r.lt b (by rw [ownBlock_row]; simpa using hb)).2
theorem own_same {base size m : Nat} {e : TypeId} {v : Value} {xs : List Value} (h : w.ownsRow base e size v m xs) (hb : ∀ b, v.ownBlock = some b → w'.heap[b]? = w.heap[b]?) : w'.ownsRow base e size v m xs := by
  refine ⟨h.1, ?_⟩
  rcases h.2 with hn | ⟨g, cap, cur, rfl, hbs, hgg, rest⟩
  · exact .inl hn
  · refine .inr ⟨g, cap, cur, rfl, hbs, ?_, rest⟩
    rw [hb g rfl]; exact hgg
theorem At.same (h : At w up n ks) (hs : ∀ b ∈ n.g :: n.A.toList, w'.heap[b]? = w.heap[b]?) : At w' up n ks :=
  ⟨by rw [hs n.g (by simp)]; exact h.h, own_same h.r fun b hb => hs b (by rw [ownBlock_row] at hb; simp [hb])⟩
end
theorem TP.same {w w' : World} : ∀ (t : T) (up : Option Nat), TP w up t → (∀ b ∈ t.bl, w'.heap[b]? = w.heap[b]?) → TP w' up t := by
  intro t
  induction t using T.ind with
  | h n ks ih =>
    intro up h hs
    rw [T.bl_mk] at hs
    refine .mk (h.at_.same fun b hb => hs b ?_) (TPs_iff.2 fun k hk => ih k hk _ (TPs_iff.1 h.kids k hk) fun b hb => hs b ?_)
    · rcases List.mem_cons.1 hb with rfl | hb
      · simp
      · simp [List.mem_append, Option.mem_toList.1 hb]
    · simp only [List.mem_cons, List.mem_append]
      exact .inr (.inr (mem_blL.2 ⟨k, hk, hb⟩))
theorem TP.lt {w : World} : ∀ (t : T) (up : Option Nat), TP w up t → ∀ b ∈ t.bl, b < w.heap.size := by
  intro t
  induction t using T.ind with
  | h n ks ih =>
    intro up h b hb
    rw [T.bl_mk] at hb
    simp only [List.mem_cons, List.mem_append] at hb
    rcases hb with rfl | hb | hb
    · exact h.at_.lt _ (by simp)
    · exact h.at_.lt _ (by simp [Option.mem_toList.1 hb])
    · obtain ⟨k, hk, hb⟩ := mem_blL.1 hb
      exact ih k hk _ (TPs_iff.1 h.kids k hk) b hb
theorem TP.off {w w' : World} {S : List Nat} {t : T} {up : Option Nat} (h : TP w up t) (ho : Off S w w') (hd : ∀ b ∈ t.bl, b ∉ S) : TP w' up t :=
  h.same _ _ fun b hb => ho.block b (h.lt _ _ b hb) (hd b hb)
theorem TPs.off {w w' : World} {S : List Nat} {ks : List T} {up : Option Nat} (h : TPs w up ks) (ho : Off S w w') (hd : ∀ b ∈ blL ks, b ∉ S) : TPs w' up ks :=
  TPs_iff.2 fun k hk => (TPs_iff.1 h k hk).off ho fun b hb => hd b (mem_blL.2 ⟨k, hk, hb⟩)
theorem TP.below {w w' : World} {B : Nat} {t : T} {up : Option Nat} (h : TP w up t) (ho : Below B w w') (hd : ∀ b ∈ t.bl, b < B) : TP w' up t :=
  h.same _ _ fun b hb => ho.block b (hd b hb)
theorem TP.grown {w w' : World} {t : T} {up : Option Nat} (h : TP w up t) (ho : w.grownBy w' none) : TP w' up t :=
  h.same _ _ fun b hb => ho.block b (h.lt _ _ b hb) (by simp)
end Go.Proofs.YtcklmkjlbpjojaaDoor
