/- page.Bytes.
   wal.build. -/
import Derived.Test.YthfidlhefkjpdaaGreatDoorTae
import Derived.Test.YthfidlhefkjpdaaGreatDoorTag
import Derived.Deep.RegionWith
import Derived.Test.YthfidlhefkjpdaaGreatDoorTaf
import Derived.Test.YthfidlhefkjpdaaGreatDoorTad
import Derived.Outline
import Derived.Deep.LoopGhost
namespace Go.Proofs.YthfidlhefkjpdaaGreatDoor
open Go.RowKit

theorem size5 : (Tryz.prog.info? 5).map (·.size) = some 1 := by kernel_rfl

theorem from_at (b k : Nat) (hk : k ≤ 512) (W : World) :
    (Instr.sliceAt 43 (.slice (some ⟨b, 0, none⟩) 512 512) (some (.int .i64 (k : Int))) none none).run Tryz.prog W = .ok (.slice (if 512 = k then some ⟨b, 0, none⟩ else some ⟨b, k, none⟩) (512 - k) (512 - k)) W := by
  have h1 : (0 : Int) ≤ (k : Int) := by omega
  have h2 : (k : Int) ≤ 512 := by omega
  by_cases h : 512 = k
  · subst h
    simp [go_sem, sliced]
  · simp [go_sem, sliced, h, h2, Addr.add_lit]

theorem make512 (W : World) : (Instr.makeSlice 43 (.int .i64 512) (.int .i64 512)).run Tryz.prog W = .ok (.slice (some ⟨W.heap.size, 0, none⟩) 512 512) (W.alloc (.cells (cellsB (zeros 512)) 5)) := by
  obtain ⟨i0, hi0, hz0, hz1, hz2⟩ := info_parts info5
  have := run_make_two (P := Tryz.prog) 43 5 i0 _ Tryz.underlying43 hi0 hz0 hz1 512 512 512 512 rfl rfl (by omega) (by rw [hz2]; omega) (by omega) W
  rw [made_zeros] at this
  exact this

set_option maxRecDepth 100000 in
set_option maxHeartbeats 1000000 in
theorem bytes_any (base g : Nat) (p : Pg) (w : World) (hP : PageAt w base g p) (hw : p.wf) :
    Calls Tryz.prog 27 #[.pointer (some ⟨g, 0, none⟩)] w fun e w' => ∃ g' cap, e = .returned (.slice (some ⟨g', 0, none⟩) 512 cap) ∧ w'.ownsRow w.heap.size 5 1 (.slice (some ⟨g', 0, none⟩) 512 cap) 512 ((bytesP p).map u8) ∧ Below w.heap.size w w' := by
  have hmk := make512
  go_enter Tryz.func27, Tryz.ntmps27
  go_wp2_with fail
  clear hmk
  have Q0 : Aside (∀ w', Below w.heap.size w w' → PageAt w' base g p) := ⟨fun w' hb => hP.below hb⟩
  obtain ⟨A, cap, c3w, hcap, hI⟩ := page_items hP
  have hI := hid hI
  obtain ⟨hb, v, vs, hB, hO, hR⟩ := hP
  have hgl := hB.lt
  have c0 := hB.cell 0
  have c1 := hB.cell 1
  have c2 := hB.cell 2
  simp at c0 c1 c2
  clear hb hB hO hR v vs
  obtain ⟨L, hL⟩ : ∃ L : Nat, p.lsn = (L : Int) := ⟨p.lsn.toNat, by have := hw.lsn0; omega⟩
  have hL1 : L ≤ 9223372036854775807 := by have := hw.lsn1; omega
  have hX1 : p.extra < 4294967296 := hw.extra
  have hk1 := hw.slots
  rw [hL] at c0
  have hL := hid hL
  obtain ⟨X, hX⟩ : ∃ X, p.extra = X := ⟨_, rfl⟩
  rw [hX] at c2 hX1
  have hX := hid hX
  obtain ⟨W0, hW0⟩ : ∃ W0, w.alloc (.cells (cellsB (zeros 512)) 5) = W0 := ⟨_, rfl⟩
  have hb0 : Below w.heap.size w W0 := by rw [← hW0]; exact (Below.refl _ _).alloc (Nat.le_refl _) _
  have hY0 : Byt W0 w.heap.size (zeros 512) := by rw [← hW0]; exact Byt.new w _
  rw [hW0]
  clear hW0
  have c0' := ((bcell hb0).1 g 0 hgl).trans c0
  have R0 : Aside (Below w.heap.size w W0 ∧ Byt W0 w.heap.size (zeros 512)) := ⟨hb0, hY0⟩
  clear hb0 hY0
  have wL : IntKind.u64.wrap (L : Int) = (L : Int) := by simp [IntKind.wrap, IntKind.bits, IntKind.signed]; omega
  have wX : IntKind.u64.wrap (X : Int) = (X : Int) := by simp [IntKind.wrap, IntKind.bits, IntKind.signed]; omega
  go_region_with (
    (go_at_call 71
     (with_reducible refine Calls.mono (setLow_any w.heap.size 4 8 508 L (zeros 512) _ ?_ ?_ ?_ ?_) ?_)
     · exact R0.out.2
     · rw [zeros_length]; omega
     · omega
     · omega
     rintro e W1 ⟨rfl, hY1, hg1⟩
     have R1 : Aside (Below w.heap.size w W1 ∧ Byt W1 w.heap.size (splice (zeros 512) 4 (leN 8 L))) := ⟨R0.out.1.trans ((below_of_only (gr_undrew hg1) (Nat.le_refl _) R0.out.1.size)), hY1⟩
     clear hY1 hg1))
  obtain ⟨B1, hB1⟩ : ∃ B1, splice (zeros 512) 4 (leN 8 L) = B1 := ⟨_, rfl⟩
  have hB1l : B1.length = 512 := by rw [← hB1, splice_length (by rw [leN_length, zeros_length]; omega), zeros_length]
  rw [hB1] at R1
  have hB1 := hid hB1
  have c1' := ((bcell R1.out.1).1 g 1 hgl).trans c1
  obtain ⟨v1, k1⟩ := R1.out.2.some_ (i := 12) (by omega)
  have f1 := R1.out.2.frozen 12
  go_wp2_with fail
  obtain ⟨W2, hW2⟩ : ∃ W2, W1.setCell ⟨w.heap.size, 12, none⟩ (.int .u8 (p.kind.toNat : Int)) = W2 := ⟨_, rfl⟩
  have hb2 : Below w.heap.size w W2 := by rw [← hW2]; exact R1.out.1.setCell (p := ⟨w.heap.size, 12, none⟩) (Nat.le_refl _) _
  have hY2 : Byt W2 w.heap.size (B1.set 12 p.kind) := by rw [← hW2]; exact R1.out.2.set 12 p.kind
  rw [hW2]
  clear hW2
  have c2' := ((bcell hb2).1 g 2 hgl).trans c2
  have R2 : Aside (Below w.heap.size w W2 ∧ Byt W2 w.heap.size (B1.set 12 p.kind)) := ⟨hb2, hY2⟩
  clear hb2 hY2 f1 k1 c1'
  go_region_with (
    (go_at_call 71
     (with_reducible refine Calls.mono (setLow_any w.heap.size 13 4 499 X (B1.set 12 p.kind) _ ?_ ?_ ?_ ?_) ?_)
     · exact R2.out.2
     · rw [List.length_set]; omega
     · omega
     · omega
     rintro e W3 ⟨rfl, hY3, hg3⟩
     have R3 : Aside (Below w.heap.size w W3 ∧ Byt W3 w.heap.size (splice (B1.set 12 p.kind) 13 (leN 4 X))) := ⟨R2.out.1.trans ((below_of_only (gr_undrew hg3) (Nat.le_refl _) R2.out.1.size)), hY3⟩
     clear hY3 hg3))
  obtain ⟨B3, hB3⟩ : ∃ B3, splice (B1.set 12 p.kind) 13 (leN 4 X) = B3 := ⟨_, rfl⟩
  have hB3l : B3.length = 512 := by rw [← hB3, splice_length (by rw [leN_length, List.length_set]; omega), List.length_set, hB1l]
  rw [hB3] at R3
  have hB3 := hid hB3
  have c3' := ((bcell R3.out.1).1 g 3 hgl).trans c3w
  obtain ⟨v3, k3⟩ := R3.out.2.some_ (i := 17) (by omega)
  have f3 := R3.out.2.frozen 17
  go_wp2_with fail
  obtain ⟨W4, hW4⟩ : ∃ W4, W3.setCell ⟨w.heap.size, 17, none⟩ (.int .u8 (p.items.length : Int)) = W4 := ⟨_, rfl⟩
  have hb4 : Below w.heap.size w W4 := by rw [← hW4]; exact R3.out.1.setCell (p := ⟨w.heap.size, 17, none⟩) (Nat.le_refl _) _
  have hY4 : Byt W4 w.heap.size (bufK p 0) := by
    have := R3.out.2.set 17 (UInt8.ofNat p.items.length)
    rw [← ofNat_val (p.items.length : Int) p.items.length (by omega), hW4, ← hB3.out, ← hB1.out, ← hX.out] at this
    rw [← buf_start p, hL.out]
    exact this
  rw [hW4]
  clear hW4 f3 k3 c3' c2' c1 c2 c0 c0' c3w
  obtain ⟨n, hn⟩ : ∃ n, p.items.length = n := ⟨_, rfl⟩
  rw [hn] at hk1 hcap ⊢
  have hn := hid hn
  go_loopg [4, 43] n (fun q e i wr => ∃ k e0 : Nat, k + q = n ∧ i = .int .i64 (k : Nat) ∧ e = .int .i64 (e0 : Nat) ∧ e0 + tot (p.items.take k) = 512 ∧ Byt wr w.heap.size (bufK p k) ∧ Below w.heap.size w wr)
  case atStart => exact ⟨0, 512, by omega, rfl, rfl, by simp [tot], hY4, hb4⟩
  case round =>
    obtain ⟨k, e0, hk, rfl, rfl, he0, hY, hbw⟩ := hrel
    by_cases hlt : k < n
    · obtain ⟨gr, rfl, hgr, hc⟩ := hI.out (by have := hn.out; omega)
      obtain ⟨B, cb, hcell, hle, hRd⟩ := hc k (by have := hn.out; omega)
      have hki : k < p.items.length := by have := hn.out; omega
      have hr := room_take hw (k := k + 1) hki
      have ht := tot_take_succ hki
      have hcell := ((bcell hbw).1 gr k hgr).trans hcell
      have hRd := hRd.below (hbw)
      have hst := buf_step hw hki rfl
      have hbl := bufK_length p k (by omega) (by omega)
      obtain ⟨x, hx⟩ : ∃ x, p.items[k] = x := ⟨_, rfl⟩
      rw [hx] at hcell hRd hst ht hle
      obtain ⟨m, hm⟩ : ∃ m, x.length = m := ⟨_, rfl⟩
      rw [hm] at hcell hRd ht hle
      obtain ⟨E, hE⟩ : ∃ E, 512 - tot (p.items.take (k + 1)) = E := ⟨_, rfl⟩
      rw [hE] at hst
      have hE0 : (e0 : Int) - (m : Int) = (E : Int) := by omega
      have hE1 : 18 + 2 * k + 2 ≤ E := by omega
      have hE2 : E ≤ 512 := by omega
      have hme : m ≤ e0 := by omega
      have hEt : E + tot (p.items.take (k + 1)) = 512 := by omega
      have hEm : E + m ≤ 512 := by omega
      have he2 : e0 ≤ 512 := by omega
      have H : Aside (E + tot (p.items.take (k + 1)) = 512 ∧ x.length = m ∧ Byt wr w.heap.size (bufK p k) ∧ Below w.heap.size w wr ∧ RdB wr B m x ∧ (bufK p k).length = 512 ∧ ((splice (bufK p k) E x).set (18 + 2 * k) (UInt8.ofNat E)).set (18 + 2 * k + 1) (UInt8.ofNat (E / 256)) = bufK p (k + 1) ∧ E + m ≤ 512) := ⟨hEt, hm, hY, hbw, hRd, hbl, hst, hEm⟩
      clear hE he0 hm hx hr hc hst hbl hRd hbw hY hki ht hEt hEm
      obtain ⟨AD, hAD⟩ : ∃ AD, (if 512 = E then some (⟨w.heap.size, 0, none⟩ : Addr) else some ⟨w.heap.size, E, none⟩) = AD := ⟨_, rfl⟩
      have hsl := from_at w.heap.size E hE2
      rw [hAD] at hsl
      have hAD := hid hAD
      have HG : Aside (wr.heap[w.heap.size]? = some (.cells ((bufK p k).map u8).toArray 5 (0, 0))) := ⟨H.out.2.2.1⟩
      go_wp2_with (
                            (with_reducible refine wpList_copy_splice (o := ⟨some 56, _, _, _, _, _⟩) rfl (.tmp 54) (.tmp 55) 43 43 rfl 5 Tryz.underlying43 size5 _ _ _ _ _ _ rfl rfl w.heap.size E ((bufK p k).map u8) 5 HG.out (x.map u8) ?_ ?_ ?_ (u8_one x) w.heap.size w H.out.2.2.2.1 (Nat.le_refl _) ?_)
                            · rw [List.length_map, H.out.2.1]
                              exact (Nat.min_eq_left (by have := H.out.2.2.2.2.2.2.2; omega)).symm
                            · intro h0
                              rw [List.length_map, H.out.2.1] at h0
                              obtain ⟨ad, had, hcs⟩ := H.out.2.2.2.2.1.news h0
                              have hne : ¬ 512 = E := by have := H.out.2.2.2.2.2.2.2; omega
                              refine ⟨?_, ad, had, hcs wr (Below.refl _ _)⟩
                              rw [← hAD.out, if_neg hne]
                            · rw [List.length_map, List.length_map, H.out.2.1, H.out.2.2.2.2.2.1]; omega
                            intro w4 HG4 hB4
                            have hY4 : Byt w4 w.heap.size (splice (bufK p k) E x) := by
                              have := HG4.out
                              rw [splice_map] at this
                              exact this
                            have hs4 : (splice (bufK p k) E x).length = 512 := by rw [splice_length (by rw [H.out.2.1, H.out.2.2.2.2.2.1]; exact H.out.2.2.2.2.2.2.2), H.out.2.2.2.2.2.1]
                            obtain ⟨z1, k1⟩ := hY4.some_ (i := 18 + 2 * k) (by omega)
                            obtain ⟨z2, k2⟩ := hY4.some_ (i := 18 + 2 * k + 1) (by omega)
                            have f1 := hY4.frozen (18 + 2 * k)
                            have f2 := hY4.frozen (18 + 2 * k + 1)
                            have H4 : Aside (Byt w4 w.heap.size (splice (bufK p k) E x) ∧ Below w.heap.size w w4) := ⟨hY4, hB4⟩
                            clear hs4 hY4 HG4 hB4)
      obtain ⟨q1, q2, q3, q4, q5, q6, q7, q8⟩ := H.out
      go_roundg (n - 1 - k)
      case rel =>
        refine ⟨k + 1, E, by omega, by go_num, rfl, q1, ?_, (H4.out.2.setCell (p := ⟨w.heap.size, 18 + 2 * k, none⟩) (Nat.le_refl _) _).setCell (p := ⟨w.heap.size, 18 + 2 * k + 1, none⟩) (Nat.le_refl _) _⟩
        have h1 := (H4.out.1.set (18 + 2 * k) (UInt8.ofNat E)).set (18 + 2 * k + 1) (UInt8.ofNat (E / 256))
        rw [q7, ← ofNat_val ((E : Int) % 256) E (by omega), ← ofNat_val ((E : Int) / 256) (E / 256) (by omega)] at h1
        exact h1
      case measure => omega
    · obtain rfl : k = n := by omega
      have hYn : bufK p k = bufK p p.items.length := by rw [hn.out]
      rw [hYn] at hY
      have hbl := bufK_length p _ (Nat.le_refl _) (room_take hw (Nat.le_refl _))
      have hRd : RdB wr (some ⟨w.heap.size, 4, none⟩) 508 (bodyP p) := by
        have := hY.rd (off := 4) (n := 508) (by omega)
        rw [List.take_of_length_le (by rw [List.length_drop]; omega)] at this
        exact this
      have HE : Aside (Below w.heap.size w wr) := ⟨hbw⟩
      clear hYn hY hbw hbl
      go_wp2_with fail
      refine (seal_any _ 508 508 _ _ hRd (by omega) (by omega)).mono ?_
      rintro e w5 ⟨g5, cap5, rfl, hown5, hb5⟩
      go_wp2
      go_ret
      exact ⟨g5, cap5, rfl, own_mono hown5 HE.out.size, HE.out.trans (hb5.mono HE.out.size)⟩

end Go.Proofs.YthfidlhefkjpdaaGreatDoor

namespace Go.Proofs.YthfidlhefkjpdaaGreatDoor
open Go.RowKit

def logBody (run : Nat) (used : List UInt8) : List UInt8 := leN 8 run ++ ([UInt8.ofNat used.length, UInt8.ofNat (used.length / 256)] ++ (used ++ zeros (498 - used.length)))
theorem logBody_length (run : Nat) (used : List UInt8) (h : used.length ≤ 498) : (logBody run used).length = 508 := by
  simp [logBody, leN_length, zeros_length]; omega
def sectorL (run : Nat) (used : List UInt8) : List UInt8 := sealB (logBody run used)
theorem sectorL_length (run : Nat) (used : List UInt8) (h : used.length ≤ 498) : (sectorL run used).length = 512 := by
  simp [sectorL, sealB, le4, logBody_length run used h]

theorem make508 (W : World) : (Instr.makeSlice 43 (.int .i64 508) (.int .i64 508)).run Tryz.prog W = .ok (.slice (some ⟨W.heap.size, 0, none⟩) 508 508) (W.alloc (.cells (cellsB (zeros 508)) 5)) := by
  obtain ⟨i0, hi0, hz0, hz1, hz2⟩ := info_parts info5
  have := run_make_two (P := Tryz.prog) 43 5 i0 _ Tryz.underlying43 hi0 hz0 hz1 508 508 508 508 rfl rfl (by omega) (by rw [hz2]; omega) (by omega) W
  rw [made_zeros] at this
  exact this

theorem shift_byte (run k : Nat) : (run : Int) / 2 ^ (8 * k) % 256 = ((run / 256 ^ k % 256 : Nat) : Int) := by
  have e : ((256 : Nat) ^ k) = 2 ^ (8 * k) := (congrArg (· ^ k) (by decide : (256 : Nat) = 2 ^ 8)).trans (Nat.pow_mul 2 8 k).symm
  have e2 : ((2 : Int) ^ (8 * k)) = ((2 ^ (8 * k) : Nat) : Int) := (Int.natCast_pow 2 (8 * k)).symm
  rw [e, e2]
  generalize 2 ^ (8 * k) = q
  rfl
theorem log_body_eq (run : Nat) (used : List UInt8) (h : used.length ≤ 498) :
    splice (((splice (zeros 508) 0 (leN 8 run)).set 8 (UInt8.ofNat used.length)).set 9 (UInt8.ofNat (used.length / 256))) 10 used = logBody run used := by
  obtain ⟨L, hL⟩ : ∃ L, leN 8 run = L := ⟨_, rfl⟩
  have hl : L.length = 8 := by rw [← hL, leN_length]
  obtain ⟨a, ha⟩ : ∃ a, UInt8.ofNat used.length = a := ⟨_, rfl⟩
  obtain ⟨b, hb⟩ : ∃ b, UInt8.ofNat (used.length / 256) = b := ⟨_, rfl⟩
  unfold logBody
  rw [hL, ha, hb]
  have h1 : splice (zeros 508) 0 L = L ++ (0 :: 0 :: zeros 498) := by
    unfold splice
    rw [List.take_zero, List.nil_append, Nat.zero_add, hl]
    rfl
  have h2 : (L ++ (0 :: 0 :: zeros 498)).set 8 a = L ++ (a :: 0 :: zeros 498) := by
    rw [List.set_append_right _ _ (by omega), hl]; rfl
  have h3 : (L ++ (a :: 0 :: zeros 498)).set 9 b = L ++ (a :: b :: zeros 498) := by
    rw [List.set_append_right _ _ (by omega), hl]; rfl
  rw [h1, h2, h3]
  unfold splice
  rw [show L ++ (a :: b :: zeros 498) = (L ++ [a, b]) ++ zeros 498 by simp, List.take_append_of_le_length (by simp [hl]), List.take_of_length_le (by simp [hl]), List.drop_append, List.drop_of_length_le (by simp [hl]),
    show (zeros 498).drop (10 + used.length - (L ++ [a, b]).length) = zeros (498 - used.length) by rw [show 10 + used.length - (L ++ [a, b]).length = used.length by simp [hl]]; exact List.drop_replicate ..]
  simp

set_option maxRecDepth 100000 in
set_option maxHeartbeats 1000000 in
theorem build_any (run : Nat) (A : Option Addr) (n c : Nat) (used : List UInt8) (w : World) (hr : run < 9223372036854775808) (hR : RdB w A n used) (hn : n ≤ 498) :
    Calls Tryz.prog 82 #[.int .i64 (run : Int), .slice A n c] w fun e w' => ∃ g cap, e = .returned (.slice (some ⟨g, 0, none⟩) 512 cap) ∧ w'.ownsRow w.heap.size 5 1 (.slice (some ⟨g, 0, none⟩) 512 cap) 512 ((sectorL run used).map u8) ∧ Below w.heap.size w w' := by
  have hl := hid hR.1
  have HR : Aside (∀ W, Below w.heap.size w W → RdB W A n used) := ⟨fun W hB => hR.below hB⟩
  have hmk := make508
  clear hR
  go_enter Tryz.func82, Tryz.ntmps82
  go_wp2_with fail
  clear hmk
  obtain ⟨W0, hW0⟩ : ∃ W0, w.alloc (.cells (cellsB (zeros 508)) 5) = W0 := ⟨_, rfl⟩
  have hb0 : Below w.heap.size w W0 := by rw [← hW0]; exact (Below.refl _ _).alloc (Nat.le_refl _) _
  have hY0 : Byt W0 w.heap.size (zeros 508) := by rw [← hW0]; exact Byt.new w _
  rw [hW0]
  clear hW0
  go_loopg [8] 8 (fun q i wr => ∃ k : Nat, k + q = 8 ∧ i = .int .i64 (k : Nat) ∧ Hid (Byt wr w.heap.size (splice (zeros 508) 0 (leN k run)) ∧ Below w.heap.size w wr))
  case atStart => exact ⟨0, by omega, rfl, by rw [leN, splice_nil]; exact hY0, hb0⟩
  case round =>
    obtain ⟨k, hk, rfl, hI⟩ := hrel
    by_cases hlt : k < 8
    · have hls : (splice (zeros 508) 0 (leN k run)).length = 508 := by rw [splice_length (by rw [leN_length, zeros_length]; omega), zeros_length]
      obtain ⟨v, hc⟩ := hI.out.1.some_ (i := k) (by omega)
      have hf := hI.out.1.frozen k
      have hls := hid hls
      go_wp2_with fail
      have hI' := hI.out
      go_roundg (7 - k)
      case rel =>
        refine ⟨k + 1, by omega, by go_num, ?_, hI'.2.setCell (p := ⟨w.heap.size, k, none⟩) (Nat.le_refl _) _⟩
        have h1 := hI'.1.set k (UInt8.ofNat (run / 256 ^ k))
        rw [leN]
        have h2 := splice_snoc (bs := zeros 508) (off := 0) (xs := leN k run) (UInt8.ofNat (run / 256 ^ k)) (by rw [leN_length, zeros_length]; omega)
        rw [leN_length, Nat.zero_add] at h2
        rw [← h2, ofNat_val _ (run / 256 ^ k) (shift_byte run k)]
        exact h1
      case measure => omega
    · obtain rfl : k = 8 := by omega
      obtain ⟨B1, hB1⟩ : ∃ B1, splice (zeros 508) 0 (leN 8 run) = B1 := ⟨_, rfl⟩
      have hls : B1.length = 508 := by rw [← hB1, splice_length (by rw [leN_length, zeros_length]; omega), zeros_length]
      rw [hB1] at hI
      have hB1 := hid hB1
      have hI' := hid hI.out
      clear hI
      obtain ⟨v8, k8⟩ := hI'.out.1.some_ (i := 8) (by omega)
      obtain ⟨v9, k9⟩ := hI'.out.1.some_ (i := 9) (by omega)
      have f8 := hI'.out.1.frozen 8
      have f9 := hI'.out.1.frozen 9
      have hls := hid hls
      have hRw := HR.out wr hI'.out.2
      have hul : used.length = n := hRw.1
      obtain ⟨a8, ha8⟩ : ∃ a8, UInt8.ofNat n = a8 := ⟨_, rfl⟩
      obtain ⟨a9, ha9⟩ : ∃ a9, UInt8.ofNat (n / 256) = a9 := ⟨_, rfl⟩
      obtain ⟨W8, hW8⟩ : ∃ W8, (wr.setCell ⟨w.heap.size, 8, none⟩ (.int .u8 ((n : Int) % 256))).setCell ⟨w.heap.size, 9, none⟩ (.int .u8 ((n : Int) / 256)) = W8 := ⟨_, rfl⟩
      have hY8 : Byt W8 w.heap.size ((B1.set 8 a8).set 9 a9) := by
        rw [← hW8, ofNat_val _ n (by omega), ofNat_val ((n : Int) / 256) (n / 256) (by omega), ha8, ha9]
        exact (hI'.out.1.set 8 a8).set 9 a9
      have hb8 : Below w.heap.size w W8 := by
        rw [← hW8]; exact (hI'.out.2.setCell (p := ⟨w.heap.size, 8, none⟩) (Nat.le_refl _) _).setCell (p := ⟨w.heap.size, 9, none⟩) (Nat.le_refl _) _
      have hR8 := HR.out W8 hb8
      have H8 : Aside (Byt W8 w.heap.size ((B1.set 8 a8).set 9 a9) ∧ Below w.heap.size w W8 ∧ RdB W8 A n used ∧ used.length = n ∧ ((B1.set 8 a8).set 9 a9).length = 508) := ⟨hY8, hb8, hR8, hul, by simpa using hls.out⟩
      have HBe : Aside (splice ((B1.set 8 a8).set 9 a9) 10 used = logBody run used) := ⟨by rw [← hB1.out, ← ha8, ← ha9, ← hul]; exact log_body_eq run used (by omega)⟩
      clear hY8 hb8 hR8 hul hRw
      have HG8 : Aside (W8.heap[w.heap.size]? = some (.cells (((B1.set 8 a8).set 9 a9).map u8).toArray 5 (0, 0))) := ⟨H8.out.1⟩
      have ha8 := hid ha8
      have ha9 := hid ha9
      go_wp2_with (
        ((with_reducible refine wpList_copy_splice (o := ⟨some 35, _, _, _, _, _⟩) rfl (.tmp 33) (.tmp 34) 43 43 rfl 5 Tryz.underlying43 size5 _ _ _ _ _ _ rfl rfl w.heap.size 10 (((B1.set 8 a8).set 9 a9).map u8) 5 HG8.out (used.map u8) ?_ ?_ ?_ (u8_one used) w.heap.size w H8.out.2.1 (Nat.le_refl _) ?_)
         · rw [List.length_map, H8.out.2.2.2.1]
           exact (Nat.min_eq_left (by omega)).symm
         · intro h0
           rw [List.length_map, H8.out.2.2.2.1] at h0
           obtain ⟨ad, had, hcs⟩ := H8.out.2.2.1.news h0
           exact ⟨rfl, ad, had, hcs W8 (Below.refl _ _)⟩
         · rw [List.length_map, List.length_map, H8.out.2.2.2.1, H8.out.2.2.2.2]; omega
         intro w4 HG4 hB4
         have hY4 : Byt w4 w.heap.size (logBody run used) := by
           have := HG4.out
           rw [splice_map, HBe.out] at this
           exact this
         have H4 : Aside (Byt w4 w.heap.size (logBody run used) ∧ Below w.heap.size w w4) := ⟨hY4, hB4⟩
         clear hY4 HG4 hB4))
      have hll := logBody_length run used (by rw [H8.out.2.2.2.1]; exact hn)
      have hRl : RdB w4 (some ⟨w.heap.size, 0, none⟩) 508 (logBody run used) := by
        have := H4.out.1.rd0
        rw [hll] at this
        exact this
      refine (seal_any _ 508 508 _ _ hRl (by omega) (by omega)).mono ?_
      rintro e w5 ⟨g5, cap5, rfl, hown5, hb5⟩
      go_wp2
      go_ret
      exact ⟨g5, cap5, rfl, own_mono hown5 H4.out.2.size, H4.out.2.trans (hb5.mono H4.out.2.size)⟩
end Go.Proofs.YthfidlhefkjpdaaGreatDoor
