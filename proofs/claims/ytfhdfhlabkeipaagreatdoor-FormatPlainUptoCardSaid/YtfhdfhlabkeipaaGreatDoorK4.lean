/- Format: digits, fmtEFG at 350. Turned from Calc by tools/mkFK.py. -/
import Derived.Test.YtfhdfhlabkeipaaGreatDoorK3
import Derived.Test.YtfhdfhlabkeipaaGreatDoorShelf
namespace Go.Proofs.YtfhdfhlabkeipaaGreatDoor.K
open Go.RowKit
set_option linter.unusedSimpArgs false
set_option linter.unusedVariables false

section
open Go.Sort Go.Lib
/-- A block of bytes. -/
def BF (w : World) (b : Nat) (e : TypeId) (l : List UInt8) : Prop := w.heap[b]? = some (.cells (l.map fun x => Value.int .u8 (x.toNat : Int)).toArray e (0, 0))
theorem BF.cell {w : World} {b : Nat} {e : TypeId} {l : List UInt8} (h : BF w b e l) {j : Nat} {v : UInt8} (hj : l[j]? = some v) : w.cell? ⟨b, j, none⟩ = some (.int .u8 (v.toNat : Int)) := by
  unfold BF at h
  unfold World.cell?
  rw [h]
  simp [hj]
theorem BF.free {w : World} {b : Nat} {e : TypeId} {l : List UInt8} (h : BF w b e l) (j : Nat) : w.frozen? ⟨b, j, none⟩ = false := by
  unfold BF at h
  unfold World.frozen?
  rw [h]
  simp
def z24 : List UInt8 := [0, 0, 0, 0, 0, 0, 0, 0, 0, 0, 0, 0, 0, 0, 0, 0, 0, 0, 0, 0, 0, 0, 0, 0]
def b350 : List UInt8 := [51, 53, 48, 0, 0, 0, 0, 0, 0, 0, 0, 0, 0, 0, 0, 0, 0, 0, 0, 0, 0, 0, 0, 0]
theorem BF.put {w : World} {b : Nat} {e : TypeId} {l : List UInt8} (h : BF w b e l) (dk : Array UInt8) (n : Nat) : ((putRow (fun (b : UInt8) => Value.int .u8 (b.toNat : Int)) w b 0 dk).drewN n).heap[b]? = some (.cells (putCells (fun (b : UInt8) => Value.int .u8 (b.toNat : Int)) 0 dk (l.map fun x => Value.int .u8 (x.toNat : Int)).toArray) e (0, 0)) := by
  show (mapBlock w b _).heap[b]? = _
  unfold mapBlock
  unfold BF at h
  simp [Array.getElem?_modify, h]
  rfl
set_option maxHeartbeats 1000000 in
set_option maxRecDepth 100000 in
theorem base10_350 (b : Nat) (e : TypeId) (w : World) (hB : BF w b e z24) : Calls Tryz.prog 162 #[.slice (some ⟨b, 0, none⟩) 3 24, .int .u64 350] w fun e' w' => e' = .returned (.tuple #[]) ∧ BF w' b e b350 ∧ w.grownBy w' (some b) := by
  have hH : Holds (fun (b : UInt8) => Value.int .u8 (b.toNat : Int)) w b 0 (Array.replicate 3 (0 : UInt8)) := fun j hj => by
    have hj' : j < 3 := by simpa using hj
    have e0 : (Array.replicate 3 (0 : UInt8))[j]! = 0 := by
      rw [getElem!_pos _ j hj]; simp
    rw [e0, Nat.zero_add]
    refine ⟨hB.cell ?_, hB.free j⟩
    have : j = 0 ∨ j = 1 ∨ j = 2 := by omega
    rcases this with rfl | rfl | rfl <;> rfl
  have C := Tryz.internal_strconv_formatBase10 b 0 24 350 (Array.replicate 3 0) w hH (by decide) (by decide) (by decide)
  refine C.mono ?_
  rintro e' w' ⟨he, n, v', dk, rfl, hI⟩
  have hdk : dk = #[51, 53, 48] := by
    have hs : dk.size = 3 := hI.size
    apply Array.ext
    · rw [hs]; rfl
    · intro i h1 h2
      have hi : i < 3 := by omega
      have hd := hI.done i (Nat.zero_le _) (by simpa using hi)
      rw [getElem!_pos _ i h1] at hd
      rw [hd]
      have : i = 0 ∨ i = 1 ∨ i = 2 := by omega
      rcases this with rfl | rfl | rfl <;> first | rfl | decide | (exact absurd hi (by decide))
  refine ⟨he, ?_, ?_⟩
  · have := hB.put dk n
    rw [hdk] at this ⊢
    unfold BF
    rw [this]
    rfl
  · refine ⟨rfl, rfl, rfl, ?_, fun k hk hne => ?_⟩
    · show w.heap.size ≤ (mapBlock w b _).heap.size
      unfold mapBlock; simp
    · show (mapBlock w b _).heap[k]? = _
      have hkb : b ≠ k := fun e => hne (by rw [e])
      unfold mapBlock
      simp [Array.getElem?_modify, hkb]
set_option maxHeartbeats 1000000 in
set_option maxRecDepth 100000 in
theorem setd_350 (b : Nat) (e : TypeId) (w : World) (hB : BF w b e z24) : Calls Tryz.prog 180 #[.slice (some ⟨b, 0, none⟩) 24 24, .int .u64 350, .int .i64 (-2), .int .i64 3] w fun e' w' => e' = .returned (.tuple #[.int .i64 1, .int .i64 2]) ∧ BF w' b e b350 ∧ w.grownBy w' (some b) := by
  have C := base10_350 b e w hB
  replace C := Lib.hid C; replace hB := Lib.hid hB
  go_enter Tryz.func180, Tryz.ntmps180
  go_wp2_with fail
  refine C.out.mono ?_
  rintro e' w1 ⟨rfl, B1, g1⟩
  have x0 : w1.cell? ⟨b, 0, none⟩ = some (.int .u8 51) := B1.cell (v := 51) rfl
  have x1 : w1.cell? ⟨b, 1, none⟩ = some (.int .u8 53) := B1.cell (v := 53) rfl
  have x2 : w1.cell? ⟨b, 2, none⟩ = some (.int .u8 48) := B1.cell (v := 48) rfl
  replace B1 := Lib.hid B1; replace g1 := Lib.hid g1
  clear C
  go_wp2_with fail
  refine wp_loop_in (loopWp_round ?_)
  go_wp2_with fail
  refine loopWp_round ?_
  go_wp2_with fail
  go_ret2
  exact ⟨rfl, B1.out, g1.out⟩
end
end Go.Proofs.YtfhdfhlabkeipaaGreatDoor.K
