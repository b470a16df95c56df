/- disk.New, disk.Load. -/
import Derived.Test.YthfidlhefkjpdaaGreatDoorTae
namespace Go.Proofs.YthfidlhefkjpdaaGreatDoor
open Go.RowKit

theorem zeros_getElem (n i : Nat) (h : i < (cellsB (zeros n)).size) : (cellsB (zeros n))[i] = .int .u8 0 := by
  simp [cellsB, zeros, u8]
theorem made_any (k n : Nat) (hk : 0 < k) : madeCells (cellsB (zeros k)) n = cellsB (zeros n) := by
  apply Array.ext
  · rw [size_madeCells, cellsB_size, zeros_length]
  · intro i h1 h2
    have hz : (cellsB (zeros k)).size = k := by rw [cellsB_size, zeros_length]
    have hlt : i % (cellsB (zeros k)).size < (cellsB (zeros k)).size := by rw [hz]; exact Nat.mod_lt _ hk
    rw [zeros_getElem]
    simp only [madeCells, Array.getElem_map, Array.getElem_range]
    rw [getElem!_pos (cellsB (zeros k)) _ hlt, zeros_getElem]
theorem made_sectors (n : Nat) : madeCells (cellsB (zeros 512)) (n * 512) = cellsB (zeros (n * 512)) := made_any 512 (n * 512) (by omega)

theorem makeSec (n : Nat) (hn : n ≤ 4096) (x : Int) (hx : x = (n : Int)) (W : World) : (Instr.makeSlice 108 (.int .i64 x) (.int .i64 x)).run Tryz.prog W = .ok (.slice (some ⟨W.heap.size, 0, none⟩) n n) (W.alloc (.cells (cellsB (zeros (n * 512))) 113)) := by
  subst hx
  obtain ⟨i0, hi0, hz0, hz1, hz2⟩ := info_parts infoSec
  have hb : (i0.bytes : Int) * (n : Int) ≤ 281474976710656 := by rw [hz2]; omega
  have hr := run_make (P := Tryz.prog) W 108 113 i0 _ Tryz.underlying108 hi0 hz0 .i64 .i64 n n (by omega) (by omega) hb (by omega)
  simp only [Int.toNat_natCast, hz1] at hr
  rw [hr]
  show Result.ok _ (W.alloc (.cells (madeCells (cellsB (zeros 512)) (n * 512)) _)) = _
  rw [made_sectors]

def Dk.new (n : Nat) : Dk := ⟨List.replicate n (zeros 512), fun _ => none, [], 0, false⟩
theorem flat_zeros (n : Nat) : flat (List.replicate n (zeros 512)) = zeros (n * 512) := by
  induction n with
  | zero => rfl
  | succ n ih =>
    rw [List.replicate_succ, flat_cons, ih]
    simp only [zeros, List.replicate_append_replicate]
    congr 1
    omega

set_option maxRecDepth 100000 in
set_option maxHeartbeats 2000000 in
theorem dnew_any (n : Nat) (w : World) (hn : n ≤ 4096) :
    Calls Tryz.prog 79 #[.int .i64 (n : Int)] w fun e w' => e = .returned (.pointer (some ⟨w.heap.size + 2, 0, none⟩)) ∧ DiskAt w' (w.heap.size + 2) w.heap.size (w.heap.size + 1) (Dk.new n) ∧ Below w.heap.size w w' := by
  have hmk := makeSec n hn (n : Int) rfl
  have hmm := @run_makeMap Tryz.prog
  go_enter Tryz.func79, Tryz.ntmps79
  go_wp2_with fail
  go_ret
  refine ⟨rfl, ⟨.slice none 0 0, 0, ?_, ?_, ?_, ?_, ?_⟩, bl_alloc (bl_alloc (bl_alloc (Below.refl _ _) _) _) _⟩
  · have := alloc_new ((w.alloc (.cells (cellsB (zeros (n * 512))) 113)).alloc (.map #[] 0)) (.cells #[.slice (some ⟨w.heap.size, 0, none⟩) n n, .map (some (w.heap.size + 1)), .slice none 0 0, .int .i64 0, .bool false] 111)
    rw [World.size_alloc, World.size_alloc] at this
    rw [show (Dk.new n).sec.length = n by simp [Dk.new]]
    exact this
  · rw [show flat (Dk.new n).sec = zeros (n * 512) from flat_zeros n]
    exact ((Below.heap_alloc _ _ _ (by rw [World.size_alloc, World.size_alloc]; omega)).trans (heap_at0 w _ _))
  · have := MapAt.made Tryz.prog 3 (w.alloc (.cells (cellsB (zeros (n * 512))) 113))
    rw [World.size_alloc] at this
    exact this.alloc _
  · exact Int.le_refl _
  · exact World.ownsRow_nil _ _ _ _

theorem Dk.new_wf (n : Nat) (hn : n ≤ 4096) : (Dk.new n).wf := by
  refine ⟨by simp [Dk.new]; exact hn, ?_, fun k b h => (by cases h), fun k h => (by cases h), Int.le_refl _, by show (0 : Int) ≤ _; omega⟩
  intro x hx
  rw [(List.mem_replicate.1 hx).2, zeros_length]

end Go.Proofs.YthfidlhefkjpdaaGreatDoor
