/- The reference's Copy, Wide, Spoil of bytes. -/
import Derived.Test.YthfidlhefkjpdaaGreatDoorTbl
import Derived.Laws.OwnMore
namespace Go.Proofs.YthfidlhefkjpdaaGreatDoor
open Go.RowKit

set_option maxRecDepth 100000 in
set_option maxHeartbeats 1000000 in
theorem copyB_any (A : Option Addr) (n c : Nat) (bs : List UInt8) (w : World) (hR : RdB w A n bs) (hn : n ≤ 140737488355000) :
    Calls Tryz.prog 97 #[.slice A n c] w fun e w' => ∃ v, e = .returned v ∧ w'.ownsRow w.heap.size 5 1 v n (bs.map Go.Proofs.YthfidlhefkjpdaaGreatDoor.u8) ∧ Below w.heap.size w w' := by
  have HR : Aside (RdB w A n bs) := ⟨hR⟩
  clear hR
  go_enter Tryz.func97, Tryz.ntmps97
  go_wp2_with fail
  go_loopg [3, 4] n (fun q v i wr => ∃ k : Nat, k + q = n ∧ i = .int .i64 (k : Nat) ∧ Hid (wr.ownsRow w.heap.size 5 1 v k ((bs.take k).map Go.Proofs.YthfidlhefkjpdaaGreatDoor.u8) ∧ Below w.heap.size w wr))
  case atStart =>
    refine ⟨0, by omega, rfl, ?_, bl_alloc (Below.refl _ _) _⟩
    exact own_blk (n := 0) (cap := 0) (alloc_new w (.cells #[] 5)) (Nat.le_refl _) rfl rfl rfl (by unfold maxLen; omega)
  case round =>
    obtain ⟨k, hk, rfl, hI⟩ := hrel
    obtain ⟨hO, hB⟩ := hI.out
    obtain ⟨A2, c2, rfl, hc2, hc3, -⟩ := own_form hO
    have HI : Aside (wr.ownsRow w.heap.size 5 1 (.slice A2 k c2) k ((bs.take k).map Go.Proofs.YthfidlhefkjpdaaGreatDoor.u8) ∧ Below w.heap.size w wr) := ⟨hO, hB⟩
    have hsz := hB.size
    clear hI hO hB hc2 hc3
    by_cases hlt : k < n
    · have d1 : decide ((k : Int) < (n : Int)) = true := by simp; omega
      obtain ⟨b, o, rfl, hb, hcell⟩ := HR.out.2 (by omega)
      have hkb : k < bs.length := by have := HR.out.1; omega
      have c1 := (HI.out.2.cell (p := ⟨b, o + k, none⟩) hb).trans (hcell k hkb)
      obtain ⟨x, hx⟩ : ∃ x, bs[k] = x := ⟨_, rfl⟩
      rw [hx] at c1
      have hrd : RdB (wr.alloc (.cells #[.int .u8 (x.toNat : Int)] 5)) (some ⟨wr.heap.size, 0, none⟩) 1 [x] := (Byt.new wr [x]).rd0
      have HX : Aside (bs[k]? = some x) := ⟨by rw [List.getElem?_eq_getElem hkb, hx]⟩
      clear hcell hkb hx
      go_wp2_with (
        (at_builtin
         refine wpList_app_bytes rfl (.tmp 12) (.tmp 17) rfl w.heap.size (.slice A2 k c2) k (bs.take k) rfl (HI.out.1.alloc _) (some ⟨wr.heap.size, 0, none⟩) 1 1 [x] rfl hrd (by omega) (by simp; omega) ?_
         intro A3 c3 w3 hO3 hg3 ha3
         have H3 : Aside (w3.ownsRow w.heap.size 5 1 (.slice A3 (k + 1) c3) (k + 1) ((bs.take (k + 1)).map Go.Proofs.YthfidlhefkjpdaaGreatDoor.u8) ∧ Below w.heap.size w w3) := by
           have e : bs.take k ++ [x] = bs.take (k + 1) := by rw [List.take_add_one, HX.out]; rfl
           refine ⟨by rw [e] at hO3; exact hO3, ?_⟩
           exact (bl_alloc HI.out.2 _ (Nat.le_refl _)).trans (grown_below hg3 (HI.out.1.alloc _) (by simp; omega))
         clear hO3 hg3 ha3))
      go_roundg (n - 1 - k)
      case rel => exact ⟨k + 1, by omega, by go_num, H3.out⟩
      case measure => omega
    · obtain rfl : k = n := by omega
      have d1 : decide ((k : Int) < (k : Int)) = false := by simp
      go_wp2_with fail
      go_ret
      refine ⟨_, rfl, ?_, HI.out.2⟩
      have := HI.out.1
      rw [List.take_of_length_le (by have := HR.out.1; omega)] at this
      exact this

/-- Wide: the bytes, and 64 more. -/
def wideB : List UInt8 := (List.range 64).map fun i => UInt8.ofNat (208 + i % 9)
theorem wideB_take (k : Nat) (hk : k < 64) : wideB.take k ++ [UInt8.ofNat (208 + k % 9)] = wideB.take (k + 1) := by
  rw [List.take_add_one]
  congr 1
  unfold wideB
  rw [List.getElem?_map, List.getElem?_range hk]
  rfl

set_option maxRecDepth 100000 in
set_option maxHeartbeats 1000000 in
theorem wide_any (A : Option Addr) (n c : Nat) (bs : List UInt8) (w : World) (hR : RdB w A n bs) (hn : n ≤ 140737488351232) :
    Calls Tryz.prog 61 #[.slice A n c] w fun e w' => ∃ g cap, e = .returned (.slice (some ⟨g, 0, none⟩) (n + 64) cap) ∧ w'.ownsRow w.heap.size 5 1 (.slice (some ⟨g, 0, none⟩) (n + 64) cap) (n + 64) ((bs ++ wideB).map Go.Proofs.YthfidlhefkjpdaaGreatDoor.u8) ∧ Below w.heap.size w w' := by
  have hcp := copyB_any A n c bs w hR (by omega)
  have HR : Aside (bs.length = n) := ⟨hR.1⟩
  clear hR
  go_enter Tryz.func61, Tryz.ntmps61
  go_wp2_with fail
  refine hcp.mono ?_
  rintro e w1 ⟨v1, rfl, hO1, hb1⟩
  have H1 : Aside (w1.ownsRow w.heap.size 5 1 v1 n (bs.map Go.Proofs.YthfidlhefkjpdaaGreatDoor.u8) ∧ Below w.heap.size w w1) := ⟨hO1, hb1⟩
  clear hO1 hb1 hcp
  go_wp2_with fail
  go_loopg [3, 4] 64 (fun q v i wr => ∃ k : Nat, k + q = 64 ∧ i = .int .i64 (k : Nat) ∧ Hid (wr.ownsRow w.heap.size 5 1 v (n + k) ((bs ++ wideB.take k).map Go.Proofs.YthfidlhefkjpdaaGreatDoor.u8) ∧ Below w.heap.size w wr))
  case atStart => exact ⟨0, by omega, rfl, by rw [List.take_zero, List.append_nil]; exact H1.out⟩
  case round =>
    obtain ⟨k, hk, rfl, hI⟩ := hrel
    obtain ⟨hO, hB⟩ := hI.out
    obtain ⟨A2, c2, rfl, hc2, hc3, hA2⟩ := own_form hO
    have HI : Aside (wr.ownsRow w.heap.size 5 1 (.slice A2 (n + k) c2) (n + k) ((bs ++ wideB.take k).map Go.Proofs.YthfidlhefkjpdaaGreatDoor.u8) ∧ Below w.heap.size w wr) := ⟨hO, hB⟩
    have hsz := hB.size
    clear hI hO hB hc2 hc3
    by_cases hlt : k < 64
    · have d1 : decide ((k : Int) < 64) = true := by simp; omega
      obtain ⟨x, hx⟩ : ∃ x : UInt8, UInt8.ofNat (208 + k % 9) = x := ⟨_, rfl⟩
      have hxn : (208 : Int) + (k : Int) % 9 = (x.toNat : Int) := by
        rw [← hx]
        have : (208 + k % 9) < 256 := by omega
        rw [UInt8.toNat_ofNat_of_lt' (by simpa using this)]
        omega
      have hrd : RdB (wr.alloc (.cells #[.int .u8 ((208 : Int) + (k : Int) % 9)] 5)) (some ⟨wr.heap.size, 0, none⟩) 1 [x] := by rw [hxn]; exact (Byt.new wr [x]).rd0
      have HX : Aside (wideB.take k ++ [x] = wideB.take (k + 1)) := ⟨by rw [← hx]; exact wideB_take k hlt⟩
      clear hx hA2 hxn
      go_wp2_with (
        (at_builtin
         refine wpList_app_bytes rfl (.tmp 11) (.tmp 16) rfl w.heap.size (.slice A2 (n + k) c2) (n + k) (bs ++ wideB.take k) rfl (HI.out.1.alloc _) (some ⟨wr.heap.size, 0, none⟩) 1 1 [x] rfl hrd (by omega) (by simp; omega) ?_
         intro A3 c3 w3 hO3 hg3 ha3
         have H3 : Aside (w3.ownsRow w.heap.size 5 1 (.slice A3 (n + k + 1) c3) (n + k + 1) ((bs ++ wideB.take (k + 1)).map Go.Proofs.YthfidlhefkjpdaaGreatDoor.u8) ∧ Below w.heap.size w w3) := by
           refine ⟨by rw [List.append_assoc, HX.out] at hO3; exact hO3, ?_⟩
           exact (bl_alloc HI.out.2 _ (Nat.le_refl _)).trans (grown_below hg3 (HI.out.1.alloc _) (by simp; omega))
         clear hO3 hg3 ha3))
      go_roundg (64 - 1 - k)
      case rel => exact ⟨k + 1, by omega, by go_num, H3.out⟩
      case measure => omega
    · obtain rfl : k = 64 := by omega
      obtain ⟨g, rfl, -, -, -⟩ := hA2 (by omega)
      go_wp2_with fail
      go_ret
      refine ⟨g, c2, rfl, ?_, HI.out.2⟩
      have := HI.out.1
      rw [List.take_of_length_le (by simp [wideB])] at this
      exact this

/-- Spoil writes over a slice of one's own. -/
theorem spoil_any (g n c base : Nat) (bs : List UInt8) (w : World) (hO : w.ownsRow base 5 1 (.slice (some ⟨g, 0, none⟩) n c) n (bs.map Go.Proofs.YthfidlhefkjpdaaGreatDoor.u8)) (hn : n ≤ 140737488355328) :
    Calls Tryz.prog 64 #[.slice (some ⟨g, 0, none⟩) n c] w fun e w' => (∃ v, e = .returned v) ∧ Fr (· = g) w w' := by
  obtain ⟨A', c', e', hc1, hc2, -⟩ := own_form hO
  injection e' with e1 e2 e3
  subst e3
  have hO0 := hid hO
  clear hO e1 e2
  go_enter Tryz.func64, Tryz.ntmps64
  go_wp2_with fail
  go_loopg [2] n (fun q i wr => ∃ k : Nat, k + q = n ∧ i = .int .i64 (k : Nat) ∧ Hid ((∃ xs : List Value, wr.ownsRow base 5 1 (.slice (some ⟨g, 0, none⟩) n c) n xs ∧ ∀ v ∈ xs, ∃ z, v = .int .u8 z) ∧ Fr (· = g) w wr))
  case atStart => exact ⟨0, by omega, rfl, ⟨_, hO0.out, fun v hv => by
    obtain ⟨x, -, rfl⟩ := List.mem_map.1 hv
    exact ⟨_, rfl⟩⟩, Fr.refl _ _⟩
  case round =>
    obtain ⟨k, hk, rfl, hI⟩ := hrel
    obtain ⟨⟨xs, hX, hz⟩, hF⟩ := hI.out
    by_cases hlt : k < n
    · have d1 : decide ((k : Int) < (n : Int)) = true := by simp; omega
      have hxl : xs.length = n := by have := hX.1; simpa using this
      have ck := hX.cellAt k (by omega)
      obtain ⟨z, hzk⟩ := hz xs[k] (List.getElem_mem (by omega))
      rw [List.getElem?_eq_getElem (by omega), hzk] at ck
      have fk := hX.frozenAt k
      have hgl : g < wr.heap.size := (hX.lt g rfl).2
      have HX : Aside (wr.ownsRow base 5 1 (.slice (some ⟨g, 0, none⟩) n c) n xs ∧ (∀ v ∈ xs, ∃ z, v = .int .u8 z) ∧ Fr (· = g) w wr) := ⟨hX, hz, hF⟩
      clear hI hX hz hF hxl hzk
      go_wp2_with fail
      go_roundg (n - 1 - k)
      case rel =>
        refine ⟨k + 1, by omega, by go_num, ⟨_, (HX.out.1.stored k _).1, fun v hv => ?_⟩, HX.out.2.2.set (p := ⟨g, k, none⟩) (.inl rfl) _⟩
        rcases List.mem_or_eq_of_mem_set hv with h | h
        · exact HX.out.2.1 v h
        · exact ⟨_, h⟩
      case measure => omega
    · obtain rfl : k = n := by omega
      have d1 : decide ((k : Int) < (k : Int)) = false := by simp
      have HF := hid hF
      clear hI hX hF hz
      go_wp2_with fail
      go_end0
      exact ⟨⟨_, rfl⟩, HF.out⟩
end Go.Proofs.YthfidlhefkjpdaaGreatDoor
