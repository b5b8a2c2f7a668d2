/- Key: names of keys; what the package reads of the library's tables. No walk. -/
import Derived.Test.YtncokbppijnfiaaGreatDoorC1
import Derived.Test.YtncokbppijnfiaaGreatDoorShelf
namespace Go.Proofs.YtncokbppijnfiaaGreatDoor
open Go.RowKit
set_option linter.unusedSimpArgs false
set_option linter.unusedVariables false

def specialsT : List UInt8 := [85, 112, 32, 68, 111, 119, 110, 32, 76, 101, 102, 116, 32, 82, 105, 103, 104, 116, 32, 72, 111, 109, 101, 32, 69, 110, 100, 32, 73, 67, 32, 68, 67, 32, 80, 80, 97, 103, 101, 32, 78, 80, 97, 103, 101, 32, 70, 49, 32, 70, 50, 32, 70, 51, 32, 70, 52, 32, 70, 53, 32, 70, 54, 32, 70, 55, 32, 70, 56, 32, 70, 57, 32, 70, 49, 48, 32, 70, 49, 49, 32, 70, 49, 50, 32, 66, 84, 97, 98, 32, 69, 115, 99, 97, 112, 101, 32, 77, 111, 117, 115, 101, 68, 111, 119, 110, 32, 77, 111, 117, 115, 101, 85, 112, 32, 77, 111, 117, 115, 101, 68, 114, 97, 103, 32, 87, 104, 101, 101, 108, 85, 112, 32, 87, 104, 101, 101, 108, 68, 111, 119, 110, 32, 80, 97, 115, 116, 101, 66, 101, 103, 105, 110, 32, 80, 97, 115, 116, 101, 69, 110, 100]
def specialsL : List (List UInt8) := [[85, 112], [68, 111, 119, 110], [76, 101, 102, 116], [82, 105, 103, 104, 116], [72, 111, 109, 101], [69, 110, 100], [73, 67], [68, 67], [80, 80, 97, 103, 101], [78, 80, 97, 103, 101], [70, 49], [70, 50], [70, 51], [70, 52], [70, 53], [70, 54], [70, 55], [70, 56], [70, 57], [70, 49, 48], [70, 49, 49], [70, 49, 50], [66, 84, 97, 98], [69, 115, 99, 97, 112, 101], [77, 111, 117, 115, 101, 68, 111, 119, 110], [77, 111, 117, 115, 101, 85, 112], [77, 111, 117, 115, 101, 68, 114, 97, 103], [87, 104, 101, 101, 108, 85, 112], [87, 104, 101, 101, 108, 68, 111, 119, 110], [80, 97, 115, 116, 101, 66, 101, 103, 105, 110], [80, 97, 115, 116, 101, 69, 110, 100]]
set_option maxRecDepth 100000 in
theorem specials_eq : Lib.fields specialsT = specialsL := by kernel_rfl
def I64 (z : Int) : Prop := -9223372036854775808 ≤ z ∧ z ≤ 9223372036854775807
def nameC (c : Int) : List UInt8 :=
  if c = 9 then [84, 97, 98] else if c = 13 then [69, 110, 116, 101, 114] else if c = 32 then [83, 112, 97, 99, 101] else if c = 127 then [66, 83, 112, 97, 99, 101]
  else if 1114112 ≤ c ∧ c < 1114143 then specialsL.getD (c - 1114112).toNat []
  else if 32 < c ∧ c ≤ 1114111 ∧ Lib.validRune c = true ∧ 0 < widthR c then (Utf8.encode c).data.toList else []
def rightK (c m : Int) : Bool :=
  if nameC c = [] ∨ m < 0 ∨ 7 < m then false
  else if (1114112 ≤ c ∧ c ≤ 1114133) ∨ isMouse c = true then true
  else if c = 1114141 ∨ c = 1114142 then decide (m = 0)
  else if m % 2 = 1 then false
  else if m / 4 % 2 = 0 then true
  else decide ((97 ≤ c ∧ c ≤ 122 ∧ c ≠ 105 ∧ c ≠ 109) ∨ (92 ≤ c ∧ c ≤ 95) ∨ c = 32)
def nameK (c m : Int) : List UInt8 :=
  if rightK c m = true then (if m / 4 % 2 = 1 then [67, 45] else []) ++ (if m / 2 % 2 = 1 then [77, 45] else []) ++ (if m % 2 = 1 then [83, 45] else []) ++ nameC c else []
/-- What the package reads of variables. -/
structure Wd (w : World) : Prop where
  sp : Lib.TabIs Tryz.prog w "strings.asciiSpace" .u8 Lib.asciiSpaceTab
  p10 : Lib.TabIs Tryz.prog w "internal/strconv.uint64pow10" .u64 Lib.pow10Tab
  ut : Lib.Utf8Tabs 4 5 w
  es : ∃ tp p, w.var? Tryz.prog "strconv.ErrSyntax" = some #[.iface tp p]
  er : ∃ tp p, w.var? Tryz.prog "strconv.ErrRange" = some #[.iface tp p]
  ml : ∃ m, w.cell? ⟨6, 0, none⟩ = some (.int .i64 m)
  le : Lib.TabIs Tryz.prog w "mullion/key.letters" .u8 [65, 66, 68, 67, 72, 70]
  nu : Lib.TabIs Tryz.prog w "mullion/key.numbers" .i64 numbersL
theorem var_below {w w' : World} {n : String} {c : Array Value} (h : w.var? Tryz.prog n = some c) (hB : Below w.heap.size w w') : w'.var? Tryz.prog n = some c := by
  unfold World.var? at *
  cases hn : Tryz.prog.globalNamed n with
  | none => simp [hn] at h
  | some g =>
    simp only [hn, Option.bind_some] at h ⊢
    have hlt : g < w.heap.size := by
      rcases Nat.lt_or_ge g w.heap.size with h' | h'
      · exact h'
      · rw [Array.getElem?_eq_none h'] at h; simp at h
    rw [hB.block g hlt]
    exact h
theorem Wd.below {w w' : World} (h : Wd w) (hB : Below w.heap.size w w') : Wd w' := by
  obtain ⟨h1, h2, h3, ⟨t1, p1, h4⟩, ⟨t2, p2, h5⟩, ⟨m, h6⟩, h7, h8⟩ := h
  exact ⟨var_below h1 hB, var_below h2 hB, Utf8Tabs_below h3 hB, ⟨t1, p1, var_below h4 hB⟩, ⟨t2, p2, var_below h5 hB⟩, ⟨m, (World.cell?_of_block (hB.block _ (World.block_lt_of_cell? w _ h6))).trans h6⟩, var_below h7 hB, var_below h8 hB⟩
theorem Below.of_grown {w w' : World} (h : w.grownBy w' none) : Below w.heap.size w w' := ⟨h.os, h.tape, h.output, h.size, fun k hk => h.block k hk (by simp)⟩
theorem Wd.grown {w w' : World} (h : Wd w) (hg : w.grownBy w' none) : Wd w' := h.below (Below.of_grown hg)
theorem grown_of_below {w w' : World} (h : Below w.heap.size w w') : w.grownBy w' none := ⟨h.os, h.tape, h.output, h.size, fun k hk _ => h.block k hk⟩
theorem st_data (l : List UInt8) : (st l).data.toList = l := by simp [st]
theorem ba_st (b : ByteArray) : st b.data.toList = b := by apply ByteArray.ext; simp [st]
set_option maxRecDepth 100000 in
/-- The specials' names, as the package has them laid. -/
theorem fields_any (w : World) (hW : Wd w) : Calls Tryz.prog 34 #[.string ⟨specialsT.toArray⟩] w fun e w' => e = .returned (.slice (some ⟨w.heap.size, 0, none⟩) 31 31) ∧ w.grownBy w' none ∧ ∀ j s, specialsL[j]? = some s → w'.cell? ⟨w.heap.size, j, none⟩ = some (.string (st s)) := by
  have hf : Lib.fields (⟨specialsT.toArray⟩ : ByteArray).data.toList = specialsL := by
    show Lib.fields specialsT.toArray.toList = _
    rw [List.toList_toArray]; exact specials_eq
  have hasc : ∀ b ∈ specialsT, b.toNat < 128 := by decide
  have h := Tryz.strings_Fields_laid ⟨specialsT.toArray⟩ w (by show specialsT.toArray.size < _; rw [List.size_toArray]; decide) (fun j b hj => hasc b (by
    have : specialsT.toArray.toList[j]? = some b := hj
    rw [List.toList_toArray] at this
    exact List.mem_of_getElem? this)) hW.sp
  rw [hf] at h
  refine h.mono ?_
  rintro e w' ⟨rfl, rfl⟩
  refine ⟨rfl, World.grownBy_alloc _ _ _, fun j s hj => ?_⟩
  unfold World.cell?
  rw [heap_alloc_new]
  simp [hj, st]
end Go.Proofs.YtncokbppijnfiaaGreatDoor
