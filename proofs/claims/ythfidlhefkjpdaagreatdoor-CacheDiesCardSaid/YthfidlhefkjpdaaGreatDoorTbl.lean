/- disk.Load.
   The law's made.
   cache.Put, Get, Pin and the log's Append over the pool's laws.
   cache: where no frame can leave. -/
import Derived.Test.YthfidlhefkjpdaaGreatDoorTbk
import Derived.Test.YthfidlhefkjpdaaGreatDoorTak
import Derived.Deep.LoopGhost
import Derived.Test.YthfidlhefkjpdaaGreatDoorTbj
import Derived.Test.YthfidlhefkjpdaaGreatDoorTan
import Derived.Test.YthfidlhefkjpdaaGreatDoorTbi
namespace Go.Proofs.YthfidlhefkjpdaaGreatDoor
open Go.RowKit

def chunks (bs : List UInt8) (n : Nat) : List (List UInt8) := (List.range n).map fun i => piece bs (i * 512) ((i + 1) * 512)
def Dk.load (bs : List UInt8) (n : Nat) : Dk := ⟨chunks bs n, fun _ => none, [], 0, false⟩

theorem flat_append (a b : List (List UInt8)) : flat (a ++ b) = flat a ++ flat b := by simp [flat]
theorem flat_chunks (bs : List UInt8) (n : Nat) : flat (chunks bs n) = bs.take (n * 512) := by
  induction n with
  | zero => simp [chunks, flat]
  | succ n ih =>
    have e : chunks bs (n + 1) = chunks bs n ++ [piece bs (n * 512) ((n + 1) * 512)] := by simp [chunks, List.range_succ]
    rw [e, flat_append, ih]
    simp only [flat, List.flatten_cons, List.flatten_nil, List.append_nil, piece]
    rw [show (n + 1) * 512 - n * 512 = 512 by omega, show (n + 1) * 512 = n * 512 + 512 by omega, List.take_add]
theorem Dk.load_wf (bs : List UInt8) (n : Nat) (hn : n ≤ 4096) (hl : bs.length = n * 512) : (Dk.load bs n).wf := by
  refine ⟨by simp [Dk.load, chunks]; exact hn, ?_, fun k b h => (by cases h), fun k h => (by cases h), Int.le_refl _, by show (0 : Int) ≤ _; omega⟩
  intro x hx
  simp only [Dk.load, chunks, List.mem_map, List.mem_range] at hx
  obtain ⟨i, hi, rfl⟩ := hx
  rw [piece_length (by rw [hl]; exact Nat.mul_le_mul_right 512 hi)]
  omega

def buf (bs : List UInt8) (n k : Nat) : List UInt8 := bs.take (k * 512) ++ zeros ((n - k) * 512)
theorem buf_zero (bs : List UInt8) (n : Nat) : buf bs n 0 = zeros (n * 512) := by simp [buf]
theorem buf_full (bs : List UInt8) (n : Nat) : buf bs n n = bs.take (n * 512) := by simp [buf, zeros]
theorem buf_length {bs : List UInt8} {n k : Nat} (hl : bs.length = n * 512) (hk : k ≤ n) : (buf bs n k).length = n * 512 := by
  have : k * 512 ≤ n * 512 := Nat.mul_le_mul_right 512 hk
  simp only [buf, List.length_append, List.length_take, zeros_length, hl, Nat.sub_mul]
  omega
theorem buf_next {bs : List UInt8} {n k : Nat} (hl : bs.length = n * 512) (hk : k < n) : splice (buf bs n k) (k * 512) (piece bs (k * 512) ((k + 1) * 512)) = buf bs n (k + 1) := by
  have h1 : k * 512 ≤ n * 512 := Nat.mul_le_mul_right 512 (by omega)
  have h2 : (k + 1) * 512 ≤ n * 512 := Nat.mul_le_mul_right 512 (by omega)
  have hz : zeros ((n - k) * 512) = zeros 512 ++ zeros ((n - (k + 1)) * 512) := by
    rw [← zeros_add]
    congr 1
    rw [show n - k = (n - (k + 1)) + 1 by omega]
    omega
  unfold buf
  rw [hz, splice_at _ _ _ _ (k * 512) (by simp [hl]; omega) (by rw [piece_length (by rw [hl]; exact h2), zeros_length]; omega), ← List.append_assoc]
  congr 1
  unfold piece
  rw [show (k + 1) * 512 - k * 512 = 512 by omega, show (k + 1) * 512 = k * 512 + 512 by omega, List.take_add]

theorem from_gen (b o N c k : Nat) (hk : k ≤ N) (hN : N ≤ c) (hne : ¬ c = k) (x : Int) (hx : x = (k : Int)) (W : World) :
    (Instr.sliceAt 43 (.slice (some ⟨b, o, none⟩) N c) (some (.int .i64 x)) none none).run Tryz.prog W = .ok (.slice (some ⟨b, o + k, none⟩) (N - k) (c - k)) W := by
  subst hx
  have h2 : (k : Int) ≤ (N : Int) := by omega
  simp [go_sem, sliced, hne, h2, Addr.add_lit]

set_option maxRecDepth 100000 in
set_option maxHeartbeats 2000000 in
theorem dload_any (A : Option Addr) (N c n : Nat) (bs : List UInt8) (w : World) (hR : RdB w A N bs) (hN : N = n * 512) (hc : N ≤ c) (hn : n ≤ 4096) :
    Calls Tryz.prog 39 #[.slice A N c] w fun e w' => ∃ gd gs gm, e = .returned (.pointer (some ⟨gd, 0, none⟩)) ∧ DiskAt w' gd gs gm (Dk.load bs n) ∧ w.heap.size ≤ gd ∧ w.heap.size ≤ gs ∧ w.heap.size ≤ gm ∧ Below w.heap.size w w' := by
  have hl : bs.length = n * 512 := hR.1.trans hN
  have hNb : N ≤ 2097152 := by omega
  have hq : ((N : Int) + 512 - 1) / 512 = (n : Int) := by omega
  have HH : Aside (RdB w A N bs ∧ N = n * 512 ∧ bs.length = n * 512) := ⟨hR, hN, hl⟩
  clear hR hN hl
  go_enter Tryz.func39, Tryz.ntmps39
  go_wp2_with fail
  rw [hq]
  refine (dnew_any n w hn).mono ?_
  rintro e w1 ⟨rfl, hD1, hb1⟩
  obtain ⟨pv, m, hB, hS, hM, hms, hP⟩ := hD1
  obtain ⟨gd, hgd⟩ : ∃ gd, w.heap.size + 2 = gd := ⟨_, rfl⟩
  obtain ⟨gm, hgm⟩ : ∃ gm, w.heap.size + 1 = gm := ⟨_, rfl⟩
  obtain ⟨gs, hgs⟩ : ∃ gs, w.heap.size = gs := ⟨_, rfl⟩
  rw [hgd] at hB ⊢
  rw [hgm] at hB hM
  rw [hgs] at hB hS
  rw [show flat (Dk.new n).sec = zeros (n * 512) from flat_zeros n, ← buf_zero bs n] at hS
  rw [show (Dk.new n).sec.length = n by simp [Dk.new]] at hB
  have c0 := hB.cell 0
  simp only [List.getElem?_toArray, List.getElem?_cons_zero] at c0
  have lgd := hB.lt
  have lgs := (Array.getElem?_eq_some_iff.1 hS).1
  have lgm := hM.lt
  have H1 : Aside (Below w.heap.size w w1 ∧ Blk w1 gd 111 #[.slice (some ⟨gs, 0, none⟩) n n, .map (some gm), pv, .int .i64 (Dk.new n).steps, .bool (Dk.new n).off] ∧ w1.heap[gs]? = some (.cells (cellsB (buf bs n 0)) 113 (0, 0)) ∧
    MapAt Tryz.prog 3 w1 gm m (encP (Dk.new n).pend) ∧ (m : Int) ≤ (Dk.new n).steps ∧ w1.ownsRow 0 76 2 pv (Dk.new n).plan.length ((Dk.new n).plan.flatMap encF) ∧ w.heap.size ≤ gd ∧ w.heap.size ≤ gs ∧ w.heap.size ≤ gm ∧ gd ≠ gs ∧ gm ≠ gs) :=
    ⟨hb1, hB, hS, hM, hms, hP, by omega, by omega, by omega, by omega, by omega⟩
  have hgsn : gd ≠ gs := by omega
  clear hb1 hB hS hM hms hP hgd hgm hq
  go_wp2_with fail
  go_loopg [16] n (fun q i wr => ∃ k : Nat, k + q = n ∧ i = .int .i64 (k : Nat) ∧ Hid (wr.heap[gs]? = some (.cells (cellsB (buf bs n k)) 113 (0, 0)) ∧ Fr (· = gs) w1 wr))
  case atStart => exact ⟨0, by omega, rfl, H1.out.2.2.1, Fr.refl _ _⟩
  case round =>
    obtain ⟨k, hk, rfl, hI⟩ := hrel
    by_cases hlt : k < n
    · have j0 := (World.cell?_of_block (w := w1) (a := ⟨gd, 0, none⟩) (hI.out.2.block gd lgd hgsn)).trans c0
      have hNk : ¬ c = k * 512 := by have := HH.out.2.1; omega
      have hkI : (k : Int) * 512 ≤ (N : Int) := by have := HH.out.2.1; omega
      have hk0 : (0 : Int) ≤ (k : Int) * 512 := by omega
      have hkn : (k : Int) < (n : Int) := by omega
      have wk : IntKind.i64.wrap ((k : Int) * 512) = (k : Int) * 512 := wrap_nat (by omega) (by omega)
      have tk : ((k : Int) * 512).toNat = k * 512 := by omega
      obtain ⟨b, o, rfl, hbl, _⟩ := HH.out.1.2 (by have := HH.out.2.1; omega)
      have hsl := from_gen b o N c (k * 512) (by have := HH.out.2.1; omega) hc hNk ((k : Int) * 512) (by omega)
      have hlt2 : (k + 1) * 512 ≤ n * 512 := Nat.mul_le_mul_right 512 hlt
      have HP : Aside (∀ W, Below w.heap.size w W → RdB W (some ⟨b, o + k * 512, none⟩) 512 (piece bs (k * 512) ((k + 1) * 512))) := ⟨fun W hB => by
        have h1 := ((HH.out.1.below hB).cut (k := k * 512) (by have := HH.out.2.1; omega)).take (k := 512) (by have := HH.out.2.1; omega)
        have h2 := h1.at4
        unfold piece
        rw [show (k + 1) * 512 - k * 512 = 512 by omega]
        exact h2⟩
      have HI : Aside (wr.heap[gs]? = some (.cells ((buf bs n k).map u8).toArray 113 (0, 0)) ∧ Fr (· = gs) w1 wr ∧ Below w.heap.size w wr) := ⟨hI.out.1, hI.out.2, H1.out.1.trans (hI.out.2.below (by have := H1.out.1.size; omega) (fun x hx => by rw [hx]; exact H1.out.2.2.2.2.2.2.2.1))⟩
      clear hI
      go_wp2_with fail
      go_region_law (
        ((refine step_copy_fr (o := ⟨some 30, _, _, _, _, _⟩) (by rfl) (.tmp 25) (.tmp 29) 43 43 (by rfl) 5 Tryz.underlying43 szU8 (some ⟨gs, k * 512, none⟩) (some ⟨b, o + k * 512, none⟩) 512 512 (N - k * 512) (c - k * 512) (by go_simp) (by go_simp) gs (k * 512) ((buf bs n k).map u8) 113 HI.out.1 ((piece bs (k * 512) ((k + 1) * 512)).map u8) ?_ ?_ ?_ (u8_one _) ?_)
         · rw [List.length_map, piece_length (by rw [HH.out.2.2]; exact hlt2)]
           have := HH.out.2.1
           exact (by omega : (k + 1) * 512 - k * 512 = 512).trans (Nat.min_eq_right (by omega)).symm
         · intro h0
           obtain ⟨ad, had, hcs⟩ := (HP.out _ (bl_drew HI.out.2.2)).news (by omega)
           exact ⟨rfl, ad, had, hcs _ (Below.refl _ _)⟩
         · rw [List.length_map, List.length_map, buf_length HH.out.2.2 (by omega), piece_length (by rw [HH.out.2.2]; exact hlt2)]; omega
         intro W2 HG2 hF2
         have Q2 : Aside (W2.heap[gs]? = some (.cells (cellsB (buf bs n (k + 1))) 113 (0, 0)) ∧ Fr (· = gs) w1 W2) := ⟨by have := HG2.out; rw [splice_map, buf_next HH.out.2.2 hlt] at this; exact this, HI.out.2.1.drew.trans hF2 (fun _ _ h => h)⟩
         clear HG2 hF2))
      all_goals go_wp2_with fail
      all_goals
        go_roundg (n - 1 - k)
        case rel => exact ⟨k + 1, by omega, by go_num, Q2.out⟩
        case measure => omega
    · obtain rfl : k = n := by omega
      have HI := hid hI.out
      clear hI
      go_wp2_with fail
      go_ret
      obtain ⟨h1, h2, h3, h4, h5, h6, h7, h8, h9, h10, h11⟩ := H1.out
      have hF := HI.out.2
      refine ⟨gd, gs, gm, rfl, ⟨pv, m, ?_, ?_, h4.block (hF.block gm lgm h11), h5, ?_⟩, h7, h8, h9, h1.trans (hF.below h1.size (fun x hx => by rw [hx]; exact h8))⟩
      · have := h2.fr hF h10
        rw [show (Dk.load bs k).sec.length = k by simp [Dk.load, chunks]]
        exact this
      · rw [show flat (Dk.load bs k).sec = bs.take (k * 512) from flat_chunks bs k, ← buf_full bs k]
        exact HI.out.1
      · exact own_fr h6 hF (fun b hb e => by
          subst e
          exact (own_ty h6 hb).ne ⟨_, _, h3⟩ (by decide))

end Go.Proofs.YthfidlhefkjpdaaGreatDoor

namespace Go.Proofs.YthfidlhefkjpdaaGreatDoor
open Go.RowKit Go.Maps

theorem zeros_snoc (k : Nat) : zeros k ++ [0] = zeros (k + 1) := by simp [zeros, List.replicate_succ']
theorem zeros_map (k : Nat) : (zeros k).map u8 = List.replicate k (.int .u8 0) := by simp [zeros, u8]

/-- The bytes of the disk that the law's made makes. -/
def madeB (data : List UInt8) (count : Nat) : List UInt8 := zeros 2048 ++ data ++ zeros (512 * count - data.length)
theorem madeB_len (data : List UInt8) (count : Nat) (h : data.length ≤ 512 * count) : (madeB data count).length = (4 + count) * 512 := by simp only [madeB, List.length_append, zeros_length]; omega
def madeD1 (data : List UInt8) (count : Nat) : Dk := ((Dk.load (madeB data count) (4 + count)).write 0 (sectorL 1 [])).sync
def madeD (data : List UInt8) (count : Nat) : Dk := ((madeD1 data count).write 0 (sectorL 2 [])).sync
def madeL : Lg := ⟨0, 4, 2, 2, [], 0, 0, false, false⟩
def madeP (count most : Nat) : Pl := ⟨4, count, most, [], fun _ => none, fun _ => none, 0, false, false⟩

theorem load_has {B : List UInt8} {n i : Nat} (hi : i < n) : (Dk.load B n).has i = piece B (i * 512) ((i + 1) * 512) := by
  unfold Dk.has Dk.load chunks
  simp [List.getD_eq_getElem?_getD, hi]
theorem piece_zero {B : List UInt8} {m i : Nat} (hz : B.take m = zeros m) (hi : (i + 1) * 512 ≤ m) : piece B (i * 512) ((i + 1) * 512) = zeros 512 := by
  have h1 : piece (B.take m) (i * 512) ((i + 1) * 512) = piece B (i * 512) ((i + 1) * 512) := by
    unfold piece
    rw [List.drop_take, List.take_take, Nat.min_eq_left (by omega)]
  rw [← h1, hz]
  unfold piece zeros
  rw [List.drop_replicate, List.take_replicate, Nat.min_eq_left (by omega)]
  congr 1
  omega
theorem madeD1_has (B : List UInt8) (n : Nat) {i : Nat} (hi : i < n) : (((Dk.load B n).write 0 (sectorL 1 [])).sync).has i = if i = 0 then sectorL 1 [] else piece B (i * 512) ((i + 1) * 512) := by
  rw [Dk.sync_has (by simp [Dk.write, Dk.load, chunks]; exact hi), Dk.write_has]
  split
  · exact fullS_full (sectorL_length 1 [] (by simp))
  · exact load_has hi
theorem made_ld (B : List UInt8) (n : Nat) (hn : 4 ≤ n) (hz : B.take 2048 = zeros 2048) :
    (ldAll (fun k => (((Dk.load B n).write 0 (sectorL 1 [])).sync).has (0 + k)) 4) = ⟨false, 1, 1, []⟩ := by
  have h0 : (((Dk.load B n).write 0 (sectorL 1 [])).sync).has (0 + 0) = sectorL 1 [] := by rw [madeD1_has B n (by omega), if_pos rfl]
  have hk : ∀ k, 0 < k → k < 4 → (((Dk.load B n).write 0 (sectorL 1 [])).sync).has (0 + k) = zeros 512 := fun k h1 h2 => by
    rw [madeD1_has B n (by omega), if_neg (by omega), Nat.zero_add]
    exact piece_zero hz (by omega)
  have hp := parse_sector 1 [] (by omega) (by omega) (by simp)
  have s1 : ldAll (fun k => (((Dk.load B n).write 0 (sectorL 1 [])).sync).has (0 + k)) 1 = ⟨false, 1, 1, []⟩ := by
    unfold ldAll ldStep
    simp only [h0, hp, ldAll, runOf, usedOf]
    simp
  have step : ∀ k, 0 < k → k < 4 → ldAll (fun k => (((Dk.load B n).write 0 (sectorL 1 [])).sync).has (0 + k)) k = ⟨false, 1, 1, []⟩ → ldAll (fun k => (((Dk.load B n).write 0 (sectorL 1 [])).sync).has (0 + k)) (k + 1) = ⟨false, 1, 1, []⟩ := fun k h1 h2 ih => by
    rw [ldAll, ih]
    unfold ldStep
    simp only [hk k h1 h2, parse_zero, runOf, usedOf]
    simp [show ¬ k = 0 by omega]
  exact step 3 (by omega) (by omega) (step 2 (by omega) (by omega) (step 1 (by omega) (by omega) s1))

set_option maxRecDepth 100000 in
set_option maxHeartbeats 2000000 in
theorem lawmade_any (A : Option Addr) (dl c : Nat) (data : List UInt8) (count : Nat) (frames : Int) (most : Nat) (w : World) (hR : RdB w A dl data) (hdl : dl ≤ 512 * count) (hc : count ≤ 12) (hm : (most : Int) = min (max frames 1) 64) :
    Calls Tryz.prog 9 #[.slice A dl c, .int .i64 (count : Int), .int .i64 frames] w fun e w' => ∃ a : Ad, e = .returned (.tuple #[.pointer (some ⟨a.gd, 0, none⟩), .pointer (some ⟨a.gl, 0, none⟩), .pointer (some ⟨a.gp, 0, none⟩)]) ∧
      PSt w' a (madeP count most) madeL (madeD data count) ∧ (∀ b, aT a b → w.heap.size ≤ b) ∧ a.ma = 0 ∧ a.mn = 0 ∧ Below w.heap.size w w' := by
  have hln := hR.1
  have HR := hid hR
  obtain ⟨n, hn⟩ : ∃ n, 4 + count = n := ⟨_, rfl⟩
  obtain ⟨M, hM⟩ : ∃ M, n * 512 = M := ⟨_, rfl⟩
  have hN : IntKind.i64.wrap (4 + (count : Int)) = (n : Int) := by rw [wrap_nat (by omega) (by omega)]; omega
  have hN2 : IntKind.i64.wrap ((n : Int) * 512) = (M : Int) := by rw [wrap_nat (by omega) (by omega)]; omega
  have H : Aside (4 + count = n ∧ n * 512 = M ∧ (most : Int) = min (max frames 1) 64 ∧ dl ≤ 512 * count ∧ count ≤ 12 ∧ data.length = dl) := ⟨hn, hM, hm, hdl, hc, hln⟩
  obtain ⟨i0, hi0, hz0, hz1, hz2⟩ := info_parts info5
  have hmk := fun W => run_make_two (P := Tryz.prog) 43 5 i0 (.int .u8 0) Tryz.underlying43 hi0 hz0 hz1 2048 2048 (2048 : Int) (2048 : Int) rfl rfl (Nat.le_refl _) (by rw [hz2]; omega) (by omega) W
  have hdl2 : dl ≤ 6144 := by omega
  clear hR hn hM hm hdl hc hln
  go_enter Tryz.func9, Tryz.ntmps9
  go_wp2_with (
    (at_builtin
     refine wpList_app_bytes rfl (.tmp 15) (.tmp 16) rfl w.heap.size (.slice (some ⟨w.heap.size, 0, none⟩) 2048 2048) 2048 (zeros 2048) rfl ?_ A dl c data rfl (HR.out.below (bl_alloc (Below.refl _ _) _)) (by omega) (by simp) ?_
     · have h1 := Byt.own (w := w.alloc (.cells (cellsB (zeros 2048)) 5)) (g := w.heap.size) (bs := zeros 2048) (base := w.heap.size) (Byt.new w _) (Nat.le_refl _) (by rw [zeros_length]; unfold maxLen; omega)
       rw [zeros_length] at h1
       rw [show madeCells #[Value.int .u8 0] 2048 = cellsB (zeros 2048) from made_zeros 2048]
       exact h1
     intro A1 c1 w1 hO1 hg1 ha1
     have H1 : Aside (w1.ownsRow w.heap.size 5 1 (.slice A1 (2048 + dl) c1) (2048 + dl) ((zeros 2048 ++ data).map u8) ∧ Below w.heap.size w w1) := by
       refine ⟨hO1, (bl_alloc (Below.refl _ _) _).trans (below_of_only hg1 (Nat.le_refl _) (by simp))⟩
     clear hO1 hg1 ha1))
  go_loopg [9] (M - 2048 - dl) (fun q v wr => ∃ k : Nat, k + q = M - 2048 - dl ∧ Hid (wr.ownsRow w.heap.size 5 1 v (2048 + dl + k) ((zeros 2048 ++ data ++ zeros k).map u8) ∧ Below w.heap.size w wr))
  case atStart => exact ⟨0, by omega, by rw [show zeros 0 = [] from rfl, List.append_nil]; exact H1.out⟩
  case round =>
    obtain ⟨k, hk, hI⟩ := hrel
    obtain ⟨hO, hB⟩ := hI.out
    obtain ⟨A2, c2, rfl, hc2, hc3, -⟩ := own_form hO
    have HI : Aside (wr.ownsRow w.heap.size 5 1 (.slice A2 (2048 + dl + k) c2) (2048 + dl + k) ((zeros 2048 ++ data ++ zeros k).map u8) ∧ Below w.heap.size w wr) := ⟨hO, hB⟩
    have hsz := hB.size
    have hMb : M ≤ 8192 := by have := H.out.2.1; have := H.out.1; have := H.out.2.2.2.2.1; omega
    have hMd : 2048 + dl ≤ M := by have := H.out.2.1; have := H.out.1; have := H.out.2.2.2.1; omega
    obtain ⟨len, hlen⟩ : ∃ len, 2048 + dl + k = len := ⟨_, rfl⟩
    rw [hlen] at HI
    rw [hlen]
    clear hI hO hB hc2 hc3
    by_cases hlt : len < M
    · have d1 : decide ((len : Int) < (M : Int)) = true := by simp; omega
      have hrd : RdB (wr.alloc (.cells #[.int .u8 0] 5)) (some ⟨wr.heap.size, 0, none⟩) 1 [0] := (Byt.new wr [0]).rd0
      go_wp2_with (
        (at_builtin
         refine wpList_app_bytes rfl (.tmp 24) (.tmp 25) rfl w.heap.size (.slice A2 len c2) len (zeros 2048 ++ data ++ zeros k) rfl (HI.out.1.alloc _) (some ⟨wr.heap.size, 0, none⟩) 1 1 [0] rfl hrd (by omega) (by simp; omega) ?_
         intro A3 c3 w3 hO3 hg3 ha3
         have H3 : Aside (w3.ownsRow w.heap.size 5 1 (.slice A3 (len + 1) c3) (len + 1) ((zeros 2048 ++ data ++ zeros (k + 1)).map u8) ∧ Below w.heap.size w w3) := by
           refine ⟨by rw [List.append_assoc, zeros_snoc] at hO3; exact hO3, ?_⟩
           exact (bl_alloc HI.out.2 _ (Nat.le_refl _)).trans (grown_below hg3 (HI.out.1.alloc _) (by simp; omega))
         clear hO3 hg3 ha3))
      go_roundg (M - 2048 - dl - 1 - k)
      case rel => exact ⟨k + 1, by omega, by rw [show 2048 + dl + (k + 1) = len + 1 by omega]; exact H3.out⟩
      case measure => omega
    · obtain rfl : len = M := by omega
      have d1 : decide ((len : Int) < (len : Int)) = false := by simp
      obtain ⟨B, hBd⟩ : ∃ B, madeB data count = B := ⟨_, rfl⟩
      have hBe : zeros 2048 ++ data ++ zeros k = B := by
        rw [← hBd]
        unfold madeB
        rw [H.out.2.2.2.2.2]
        congr 2
        have := H.out.2.1; have := H.out.1
        omega
      have hRB : RdB wr A2 len B := by
        have := HI.out.1
        rw [hBe] at this
        exact RdB.of_own this
      have HE : Aside (RdB wr A2 len B ∧ Below w.heap.size w wr ∧ len = n * 512 ∧ len ≤ c2 ∧ madeB data count = B ∧ B.length = n * 512) := ⟨hRB, HI.out.2, by rw [H.out.2.1], (own_form HI.out.1).elim (fun A' h => by obtain ⟨c', e, h1, _⟩ := h; injection e with _ _ e3; rw [e3]; exact h1), hBd, hRB.1.trans H.out.2.1.symm⟩
      have hn5 : n ≤ 16 := by have := H.out.1; have := H.out.2.2.2.2.1; omega
      clear hRB hBe hBd hlen hlt
      go_wp2_with fail
      refine (dload_any A2 len c2 n B wr HE.out.1 HE.out.2.2.1 HE.out.2.2.2.1 (by omega)).mono ?_
      rintro e w2 ⟨gd, gs, gm, rfl, hD2, hgd, hgs, hgm, hb2⟩
      have H2 : Aside (DiskAt w2 gd gs gm (Dk.load B n) ∧ (wr.heap.size ≤ gd ∧ wr.heap.size ≤ gs ∧ wr.heap.size ≤ gm) ∧ Below wr.heap.size wr w2) := ⟨hD2, ⟨hgd, hgs, hgm⟩, hb2⟩
      clear hD2 hgd hgs hgm hb2
      have hn4 : 4 ≤ n := by have := H.out.1; omega
      have hlw : (Dk.load B n).wf := Dk.load_wf B n (by omega) HE.out.2.2.2.2.2
      have hll : (Dk.load B n).sec.length = n := by simp [Dk.load, chunks]
      obtain ⟨D1, hD1⟩ : ∃ D1, Dk.load B n = D1 := ⟨_, rfl⟩
      have hs1 : D1.plan = [] ∧ D1.off = false ∧ D1.steps = 0 := by rw [← hD1]; exact ⟨rfl, rfl, rfl⟩
      rw [hD1] at H2 hlw hll
      have HLW : Aside (D1.wf ∧ D1.sec.length = n ∧ (D1.plan = [] ∧ D1.off = false ∧ D1.steps = 0) ∧ Dk.load B n = D1) := ⟨hlw, hll, hs1, hD1⟩
      have hfmt := format_any gd gs gm D1 4 w2 H2.out.1 hlw hs1.1 hs1.2.1 (by omega) (by omega) (by rw [hs1.2.2]; omega)
      rw [show ((4 : Nat) : Int) = 4 from rfl] at hfmt
      clear hlw hll hs1 hD1
      go_wp2_with fail
      refine hfmt.mono ?_
      rintro e w3 ⟨rfl, hD3, hF3⟩
      obtain ⟨D2, hD2⟩ : ∃ D2, (D1.write 0 (sectorL 1 [])).sync = D2 := ⟨_, rfl⟩
      have hD2wf : D2.wf := by
        rw [← hD2]
        have hs := HLW.out.2.2.1.2.2
        exact Dk.sync_wf (Dk.write_wf HLW.out.1 (by rw [HLW.out.2.1]; omega) (by rw [sectorL_length 1 [] (by simp)]; omega) (by rw [hs]; omega)) (by show D1.steps + 1 + 1 ≤ _; rw [hs]; omega)
      have hD2l : D2.sec.length = n := by rw [← hD2]; simp [Dk.sync, Dk.write]; exact HLW.out.2.1
      have hD2s : D2.plan = [] ∧ D2.off = false ∧ D2.steps = 2 := by
        rw [← hD2]
        refine ⟨HLW.out.2.2.1.1, HLW.out.2.2.1.2.1, ?_⟩
        show D1.steps + 1 + 1 = 2
        rw [HLW.out.2.2.1.2.2]; rfl
      have hBz : B.take 2048 = zeros 2048 := by
        rw [← HE.out.2.2.2.2.1]
        unfold madeB
        rw [List.append_assoc, List.take_append_of_le_length (by rw [zeros_length]; omega), List.take_of_length_le (by rw [zeros_length]; omega)]
      have hld := made_ld B n hn4 hBz
      rw [HLW.out.2.2.2] at hld
      rw [hD2] at hld hD3
      have HD2 : Aside (D2.wf ∧ D2.sec.length = n ∧ (D2.plan = [] ∧ D2.off = false ∧ D2.steps = 2) ∧ (D1.write 0 (sectorL 1 [])).sync = D2) := ⟨hD2wf, hD2l, hD2s, hD2⟩
      have H3 : Aside (DiskAt w3 gd gs gm D2 ∧ Below wr.heap.size wr w3) := ⟨hD3, H2.out.2.2.trans (hF3.below H2.out.2.2.size (fun b hb => by rcases hb with rfl | rfl | rfl; exact H2.out.2.1.1; exact H2.out.2.1.2.1; exact H2.out.2.1.2.2))⟩
      have hop := wopen_any gd gs gm D2 0 4 w3 hD3 hD2wf hD2s.2.1 (by omega) (by omega) (by rw [hld]; decide) (by rw [hld])
      rw [hld] at hop
      rw [show ((4 : Nat) : Int) = 4 from rfl, show ((0 : Nat) : Int) = 0 from rfl] at hop
      clear hD2 hD2wf hD2l hD2s hBz hld hD3 hF3 hfmt
      go_wp2_with fail
      refine hop.mono ?_
      rintro e w4 ⟨gl, sv, rv0, rfl, hL4, hb4⟩
      have hLD4 : LD w4 w3.heap.size gl gd gs gm sv (.slice none 0 0) ⟨0, 4, 1, 1, [], 0, 0, true, false⟩ D2 := by
        have h1 := H3.out.1.lt
        exact ⟨H3.out.1.below hb4, hL4, h1.1, h1.2.1, h1.2.2⟩
      have hrs := lreset_any w3.heap.size gl gd gs gm sv (.slice none 0 0) ⟨0, 4, 1, 1, [], 0, 0, true, false⟩ D2 w4 hLD4 HD2.out.1 HD2.out.2.2.1.1 HD2.out.2.2.1.2.1 (by show 0 < D2.sec.length; rw [HD2.out.2.1]; omega) (by show 1 < 274877906944; omega) rfl (by rw [HD2.out.2.2.1.2.2]; omega)
      have H4 : Aside (LD w4 w3.heap.size gl gd gs gm sv (.slice none 0 0) ⟨0, 4, 1, 1, [], 0, 0, true, false⟩ D2 ∧ Below w3.heap.size w3 w4) := ⟨hLD4, hb4⟩
      clear hLD4 hL4 hb4 hop
      go_wp2_with fail
      refine hrs.mono ?_
      rintro e w5 ⟨rfl, hL5, hF5⟩
      have hL5' : LD w5 w3.heap.size gl gd gs gm (.slice none 0 0) (.slice none 0 0) madeL (D2.write 0 (sectorL 2 [])).sync := hL5
      have hcn := cnew_any w3.heap.size gl gd gs gm (.slice none 0 0) (.slice none 0 0) madeL (D2.write 0 (sectorL 2 [])).sync 4 count frames w5 hL5' (by have := H4.out.2.size; have := hF5.size; omega) most H.out.2.2.1
      rw [show ((4 : Nat) : Int) = 4 from rfl] at hcn
      have H5 : Aside (Fr (fun b => b = gl ∨ dT gd gs gm b) w4 w5) := ⟨hF5⟩
      have hbl : Below w.heap.size w w5 := by
        have h34 : Below w.heap.size w w4 := (HE.out.2.1.trans (H3.out.2.mono HE.out.2.1.size)).trans (H4.out.2.mono (Nat.le_trans HE.out.2.1.size H3.out.2.size))
        refine h34.trans (hF5.below h34.size fun b hb => ?_)
        have h1 := H4.out.1.log.2.1
        have h2 := H2.out.2.1
        have h3 := HE.out.2.1.size
        have h4 := H3.out.2.size
        rcases hb with rfl | rfl | rfl | rfl <;> omega
      have HB5 := hid hbl
      clear hL5 hL5' hF5 hrs hbl
      go_wp2_with fail
      refine hcn.mono ?_
      rintro e w6 ⟨a, rfl, hP, e1, e2, e3, e4, e5, e6, e7, e8, e9, e10, e11, hb6⟩
      have H6 : Aside (PSt w6 a (madeP count most) madeL (D2.write 0 (sectorL 2 [])).sync ∧ (a.base = w3.heap.size ∧ a.gl = gl ∧ a.gd = gd ∧ a.gs = gs ∧ a.gm = gm ∧ a.sv = .slice none 0 0 ∧ a.rv = .slice none 0 0 ∧ a.pb = w5.heap.size ∧ a.ma = 0 ∧ a.mn = 0) ∧ Below w5.heap.size w5 w6) := ⟨hP, ⟨e1, e2, e3, e4, e5, e6, e7, e8, e10, e11⟩, hb6⟩
      clear hP e1 e2 e3 e4 e5 e6 e7 e8 e9 e10 e11 hb6 hcn
      go_wp2_with fail
      go_ret3
      have hD : madeD data count = (D2.write 0 (sectorL 2 [])).sync := by
        unfold madeD madeD1
        rw [HE.out.2.2.2.2.1, H.out.1, HLW.out.2.2.2, HD2.out.2.2.2]
      have hfar : ∀ b, aT a b → w.heap.size ≤ b := fun b hb => by
        have h2 := H2.out.2.1
        have h3 := HE.out.2.1.size
        have h4 := H3.out.2.size
        have h5 := HB5.out.size
        rcases hb with hb | hb
        · rcases hb with hb | hb
          · rcases hb with e | e | e
            · have := H6.out.2.1.2.2.1; omega
            · have := H6.out.2.1.2.2.2.1; omega
            · have := H6.out.2.1.2.2.2.2.1; omega
          · have h7 := (H6.out.1.ld.log.kinds hb).1
            have := H6.out.2.1.1
            omega
        · have h7 := (H6.out.1.pool.kinds hb).1
          have := H6.out.2.1.2.2.2.2.2.2.2.1
          omega
      rw [hD]
      refine ⟨a, ?_, H6.out.1, hfar, H6.out.2.1.2.2.2.2.2.2.2.2.1, H6.out.2.1.2.2.2.2.2.2.2.2.2, HB5.out.trans (H6.out.2.2.mono HB5.out.size)⟩
      show Ending.returned (.tuple #[.pointer (some ⟨gd, 0, none⟩), .pointer (some ⟨gl, 0, none⟩), .pointer (some ⟨a.gp, 0, none⟩)]) = _
      rw [H6.out.2.1.2.2.1, H6.out.2.1.2.1]
end Go.Proofs.YthfidlhefkjpdaaGreatDoor

namespace Go.Proofs.YthfidlhefkjpdaaGreatDoor
open Go.RowKit Go.Maps

/-- What Put leaves. -/
structure PutR (P P' : Pl) (L L' : Lg) (D D' : Dk) (N : Nat) (q : Pg) : Prop where
  inv : Inv P' L' D'
  stay : Stay P P' L L' D D'
  pins : P'.pins = P.pins
  lc : ∀ M, M < P.count → lc P' D' M = if M = N then bytesP q else lc P D M
  dn : dty P' N = some ((dty P N).getD q.lsn)
  dk : ∀ k s, k ≠ (N : Int) → dty P' k = some s → dty P k = some s
  wal : ∀ was, q.lsn < L.lsn L.stream.length → Wal P L D was → Wal P' L' D' was

theorem cput_inv (a : Ad) (P : Pl) (L : Lg) (D : Dk) (N base g x : Nat) (q : Pg) (w : World) (h : PSt w a P L D) (hi : Inv P L D) (hN : N < P.count) (hnp : ∀ k, (P.pins k).getD 0 ≤ 0) (hma : a.ma ≤ 1099511627776) (hst : D.steps + 20000 ≤ 1152921504606846976)
    (hq : PageAt w base g q) (hqw : q.wf) (hfar : ∀ b, aT a b → b < base) (hx : x ≤ 9223372036854775807) :
    Calls Tryz.prog 12 #[.pointer (some ⟨a.gp, 0, none⟩), .int .i64 (N : Int), .pointer (some ⟨g, 0, none⟩), .int .i64 (x : Int)] w fun e w' => e = .returned (.int .i64 0) ∧
      ∃ a' P' L' D', PSt w' a' P' L' D' ∧ PutR P P' L L' D D' N { q with lsn := (x : Int) } ∧ Fr (aT a) w w' ∧ AdN w a a' 1 := by
  obtain ⟨p, hpw, hp⟩ := hi.pg N hN
  obtain ⟨⟨i, P1, L1, D1⟩, hr⟩ := fetch_can (L := L) (D := D) (N := N) (p := p) hi hnp
  have G := fetch_law hi hN hpw hp hst hr
  obtain ⟨f, q0, hf, hfn, -⟩ := G.fr
  refine (cput_any a P L D N p i P1 L1 D1 f q base g x w h hi.ok hi.wf hN hp hpw hma hi.log hr hf hq hqw hfar hx).mono ?_
  rintro e w' ⟨rfl, a', h1, h2, h3⟩
  have hq' : Pg.wf { q with lsn := (x : Int) } := ⟨by show (0 : Int) ≤ x; omega, by show (x : Int) ≤ _; omega, hqw.extra, hqw.slots, hqw.item, hqw.used⟩
  obtain ⟨k1, k2, k3⟩ := put_law G.inv hf hfn hq'
  have hs := G.same.stay
  refine ⟨rfl, a', _, _, _, h1, ⟨k1, ⟨hs.base, hs.count, hs.most, hs.dead, hs.first, hs.cnt, hs.run, hs.lmost, hs.stream, hs.nrec, hs.old, hs.ldead, hs.steps, hs.sec⟩, G.same.pins, fun M hM => ?_, ?_, fun k s hk hd => ?_, fun was hl hW => ?_⟩, h2, h3⟩
  · rw [k2]
    split
    · rfl
    · exact G.same.lc M hM
  · rw [k3, if_pos rfl, G.dn]
  · rw [k3, if_neg hk] at hd
    exact G.same.dty k s hd
  · exact put_wal (by rw [hs.stream, lsn_run hs.run]; exact hl) (G.wal was hW)

theorem cget_inv (a : Ad) (P : Pl) (L : Lg) (D : Dk) (N : Nat) (w : World) (h : PSt w a P L D) (hi : Inv P L D) (hN : N < P.count) (hnp : ∀ k, (P.pins k).getD 0 ≤ 0) (hma : a.ma ≤ 1099511627776) (hst : D.steps + 20000 ≤ 1152921504606846976) :
    Calls Tryz.prog 25 #[.pointer (some ⟨a.gp, 0, none⟩), .int .i64 (N : Int)] w fun e w' => ∃ a' g q P' L' D', e = .returned (.tuple #[.pointer (some ⟨g, 0, none⟩), .int .i64 0]) ∧
      PSt w' a' P' L' D' ∧ (∃ base, PageAt w' base g q ∧ w.heap.size ≤ base ∧ ∀ b, aT a' b → b < base) ∧ q.wf ∧ pageOf (lc P D N) = some q ∧ (∃ i, Got P P' L L' D D' i N) ∧ Fr (aT a) w w' ∧ AdN w a a' 1 := by
  obtain ⟨p, hpw, hp⟩ := hi.pg N hN
  obtain ⟨⟨i, P1, L1, D1⟩, hr⟩ := fetch_can (L := L) (D := D) (N := N) (p := p) hi hnp
  have G := fetch_law hi hN hpw hp hst hr
  obtain ⟨f, q0, hf, hfn, hq0, hfb, hfl, hlc⟩ := G.fr
  refine (cget_some a P L D N p i P1 L1 D1 f q0 w h hi.ok hi.wf hN hp hpw hma hi.log hr hf hfb hq0).mono ?_
  rintro e w' ⟨a', g, rfl, h1, h2, h3, h4⟩
  exact ⟨a', g, q0, P1, L1, D1, rfl, h1, h2, hq0, hlc, ⟨i, G⟩, h3, h4⟩

theorem cpin_inv (a : Ad) (P : Pl) (L : Lg) (D : Dk) (N : Nat) (w : World) (h : PSt w a P L D) (hi : Inv P L D) (hN : N < P.count) (hcan : ∀ p, ∃ r, fetchR P L D N p = some r) (hma : a.ma ≤ 1099511627776) (hmn : a.mn ≤ 1099511627776) (hst : D.steps + 20000 ≤ 1152921504606846976)
    (hpn : 0 ≤ (P.pins N).getD 0 ∧ (P.pins N).getD 0 ≤ 4398046511104) :
    Calls Tryz.prog 33 #[.pointer (some ⟨a.gp, 0, none⟩), .int .i64 (N : Int)] w fun e w' => e = .returned (.int .i64 0) ∧ ∃ a' P' L' D',
      PSt w' a' { P' with pins := fun k => if k = (N : Int) then some ((P.pins N).getD 0 + 1) else P.pins k } L' D' ∧ (∃ i, Got P P' L L' D D' i N) ∧ Fr (aT a) w w' ∧ AdN w a a' 2 := by
  obtain ⟨p, hpw, hp⟩ := hi.pg N hN
  obtain ⟨⟨i, P1, L1, D1⟩, hr⟩ := hcan p
  have G := fetch_law hi hN hpw hp hst hr
  have hpp := G.same.pins
  refine (cpin_some a P L D N p i P1 L1 D1 w h hi.ok hi.wf hN hp hpw hma hmn hi.log hr (by rw [hpp]; exact hpn)).mono ?_
  rintro e w' ⟨rfl, a', h1, h2, h3⟩
  rw [hpp] at h1
  exact ⟨rfl, a', P1, L1, D1, h1, ⟨i, G⟩, h2, h3⟩

/-- The invariant does not hang on the pins. -/
theorem Inv.pinned {P : Pl} {L : Lg} {D : Dk} (h : Inv P L D) (x : Int → Option Int) : Inv { P with pins := x } L D :=
  ⟨⟨h.wf.m1, h.wf.m2, h.wf.len, h.wf.hand, h.wf.full, h.wf.count, h.wf.atm, h.wf.inj⟩, ⟨h.ok.lw, h.ok.ld, h.ok.dw, h.ok.dp, h.ok.doff, h.ok.lf, h.ok.pd, h.ok.pb, h.ok.st⟩, h.log, h.fr, h.pg, h.loose⟩

theorem lappend_st (a : Ad) (P : Pl) (L : Lg) (D : Dk) (kind : Nat) (A : Option Addr) (n c : Nat) (bs : List UInt8) (w : World) (h : PSt w a P L D) (hw : L.wf) (hold : L.old = false) (hd : L.dead = false)
    (hk1 : 1 ≤ kind) (hk2 : kind ≤ 255) (hR : RdB w A n bs) (hap : ∀ b o, 0 < n → A = some ⟨b, o, none⟩ → ¬ aT a b) (hn : n < 128) (hnr : L.nrec ≤ 1099511627776) :
    Calls Tryz.prog 10 #[.pointer (some ⟨a.gl, 0, none⟩), .int .i64 (kind : Int), .slice A n c] w fun e w' =>
      (L.stream.length + (n + 2) ≤ L.count * 498 → e = .returned (.tuple #[.int .i64 (L.lsn L.stream.length), .int .i64 0]) ∧
        ∃ a', PSt w' a' P { L with stream := L.stream ++ recL kind n bs, nrec := L.nrec + 1 } D ∧ Fr (aT a) w w' ∧ AdN w a a' 0) ∧
      (¬ L.stream.length + (n + 2) ≤ L.count * 498 → e = .returned (.tuple #[.int .i64 0, .int .i64 90]) ∧ PSt w' a P L D ∧ Below w.heap.size w w') := by
  refine (lappend_any a.base a.gl a.gd a.gs a.gm a.sv a.rv L D kind A n c bs w h.ld hw hold hd hk1 hk2 hR (fun b o h0 e hl => hap b o h0 e (.inl (.inr hl))) hn hnr).mono ?_
  rintro e w' ⟨h1, h2⟩
  refine ⟨fun hf => ?_, fun hf => ?_⟩
  · obtain ⟨e1, sv', rv', hL, hF, hs, hr⟩ := h1 hf
    have hF' : Fr (aL a) w w' := hF.mono fun _ _ e => .inr e
    refine ⟨e1, { a with sv := sv', rv := rv' }, h.onLD hF' hs hL, fr_aT1 hF', ?_⟩
    exact ⟨rfl, rfl, rfl, rfl, rfl, rfl, rfl, rfl, rfl, hs, hr, Nx.refl _ _, fun _ h => .inl h, Nat.le_refl _, Nat.le_refl _, rfl⟩
  · obtain ⟨e1, hL, hb⟩ := h2 hf
    exact ⟨e1, h.below hb, hb⟩
theorem recL_len (kind n : Nat) (bs : List UInt8) : (recL kind n bs).length = bs.length + 2 := rfl
theorem Inv.appended {P : Pl} {L : Lg} {D : Dk} (h : Inv P L D) (r : List UInt8) (n : Nat) (hr : L.stream.length + r.length ≤ L.count * 498) : Inv P { L with stream := L.stream ++ r, nrec := n } D :=
  ⟨h.wf, ⟨⟨h.ok.lw.run, h.ok.lw.most, h.ok.lw.count, by show (L.stream ++ r).length ≤ _; rw [List.length_append]; exact hr, by show L.safe ≤ (L.stream ++ r).length; rw [List.length_append]; have := h.ok.lw.safe; omega⟩, h.ok.ld, h.ok.dw, h.ok.dp, h.ok.doff, h.ok.lf, h.ok.pd, h.ok.pb, h.ok.st⟩, h.log, h.fr, h.pg, h.loose⟩
theorem Wal.appended {P : Pl} {L : Lg} {D : Dk} {was : Nat → List UInt8} (h : Wal P L D was) (r : List UInt8) (n : Nat) : Wal P { L with stream := L.stream ++ r, nrec := n } D was :=
  ⟨h.disk, fun i f hf hd => by
    have := h.dirty i f hf hd
    show f.lsn < L.lsn (L.stream ++ r).length
    exact Int.lt_of_lt_of_le this (lsn_mono L (by rw [List.length_append]; omega))⟩

/-! ### the law's made, over no bytes -/
theorem made_has (count : Nat) {i : Nat} (hi : i < 4 + count) (h0 : i ≠ 0) : (madeD [] count).has i = zeros 512 := by
  have hz : madeB [] count = zeros (2048 + 512 * count) := by unfold madeB; simp [zeros_add]
  unfold madeD
  rw [Dk.sync_has (by simp [Dk.write, Dk.sync, madeD1, Dk.load, chunks]; exact hi), Dk.write_has, if_neg h0]
  unfold madeD1
  rw [madeD1_has _ _ hi, if_neg h0]
  exact piece_zero (m := 2048 + 512 * count) (by rw [hz]; unfold zeros; rw [List.take_replicate, Nat.min_self]) (by omega)
theorem made_wf (count : Nat) (hc : count ≤ 12) (data : List UInt8) (hd : data.length ≤ 512 * count) : (madeD data count).wf ∧ (madeD data count).plan = [] ∧ (madeD data count).off = false ∧ (madeD data count).sec.length = 4 + count ∧ (madeD data count).steps = 4 := by
  have hB := madeB_len data count hd
  have h0 : (Dk.load (madeB data count) (4 + count)).wf := Dk.load_wf _ _ (by omega) hB
  have hl : (Dk.load (madeB data count) (4 + count)).sec.length = 4 + count := by simp [Dk.load, chunks]
  have h1 := Dk.write_wf h0 (i := 0) (bs := sectorL 1 []) (by omega) (by rw [sectorL_length 1 [] (by simp)]; omega) (by show (0 : Int) + 1 ≤ _; omega)
  have h2 := Dk.sync_wf h1 (by show (0 : Int) + 1 + 1 ≤ _; omega)
  have hl2 : ((Dk.load (madeB data count) (4 + count)).write 0 (sectorL 1 [])).sync.sec.length = 4 + count := by simp [Dk.sync, Dk.write, hl]
  have h3 := Dk.write_wf h2 (i := 0) (bs := sectorL 2 []) (by omega) (by rw [sectorL_length 2 [] (by simp)]; omega) (by show (0 : Int) + 1 + 1 + 1 ≤ _; omega)
  have h4 := Dk.sync_wf h3 (by show (0 : Int) + 1 + 1 + 1 + 1 ≤ _; omega)
  exact ⟨h4, rfl, rfl, by simp [madeD, madeD1, Dk.sync, Dk.write, hl], rfl⟩
theorem allZ_512 : allZ (zeros 512) = true := allZ_zeros 512
theorem pageOf_zero : pageOf (zeros 512) = some ⟨0, 0, 0, []⟩ := by unfold pageOf; rw [allZ_512]; rfl
theorem zeroP_wf : (⟨0, 0, 0, []⟩ : Pg).wf := ⟨by simp, by simp, by simp, by simp, by simp, by simp [tot]⟩
theorem made_inv (count most : Nat) (hc : count ≤ 12) (hm1 : 1 ≤ most) (hm2 : most ≤ 64) : Inv (madeP count most) madeL (madeD [] count) := by
  obtain ⟨h1, h2, h3, h4, h5⟩ := made_wf count hc [] (by simp)
  refine ⟨⟨hm1, hm2, by simp [madeP], by simp [madeP], fun f hf => by simp [madeP] at hf, by show count ≤ 4096; omega, fun k i => by simp [madeP], fun i j f g hf => by simp [madeP] at hf⟩,
    ⟨⟨by simp [madeL], by simp [madeL], by simp [madeL], by simp [madeL], by simp [madeL]⟩, rfl, h1, h2, h3, by rw [h4]; simp [madeL], rfl, by rw [h4]; show 4 + count ≤ _; omega, by rw [h5]; omega⟩, by simp [madeL, madeP], fun i f hf => by simp [madeP] at hf, fun N hN => ?_, fun _ _ => rfl⟩
  refine ⟨_, zeroP_wf, ?_⟩
  show pageOf ((madeD [] count).has (4 + N)) = _
  have hN' : N < count := hN
  rw [made_has count (by omega) (by omega), pageOf_zero]
theorem made_wal (count most : Nat) (data : List UInt8) : Wal (madeP count most) madeL (madeD data count) (fun N => (madeD data count).has (4 + N)) :=
  ⟨fun N _ => .inl rfl, fun i f hf => by simp [madeP] at hf⟩

theorem fetch_can_hit {P : Pl} {L : Lg} {D : Dk} {N : Nat} (hw : PWf P) {f : Frm} (hf : frOf P N = some f) (p : Pg) : ∃ r, fetchR P L D N p = some r := by
  obtain ⟨i, h1, h2, _⟩ := hw.of_frOf hf
  unfold fetchR
  rw [h1]
  simp only [h2]
  exact ⟨_, rfl⟩
theorem cpin_hit (a : Ad) (P : Pl) (L : Lg) (D : Dk) (N : Nat) (f : Frm) (w : World) (h : PSt w a P L D) (hi : Inv P L D) (hN : N < P.count) (hf : frOf P N = some f) (hma : a.ma ≤ 1099511627776) (hmn : a.mn ≤ 1099511627776) (hst : D.steps + 20000 ≤ 1152921504606846976)
    (hpn : 0 ≤ (P.pins N).getD 0 ∧ (P.pins N).getD 0 ≤ 4398046511104) :
    Calls Tryz.prog 33 #[.pointer (some ⟨a.gp, 0, none⟩), .int .i64 (N : Int)] w fun e w' => e = .returned (.int .i64 0) ∧ ∃ a' P',
      PSt w' a' { P' with pins := fun k => if k = (N : Int) then some ((P.pins N).getD 0 + 1) else P.pins k } L D ∧ (∃ i, Got P P' L L D D i N ∧ P' = hitP P i f) ∧ Fr (aT a) w w' ∧ AdN w a a' 2 := by
  obtain ⟨p, hpw, hp⟩ := hi.pg N hN
  obtain ⟨i, h1, h2, h3⟩ := hi.wf.of_frOf hf
  have hr : fetchR P L D N p = some (i, hitP P i f, L, D) := by
    unfold fetchR
    rw [h1]
    simp only [h2]
  have G := fetch_law hi hN hpw hp hst hr
  refine (cpin_some a P L D N p i (hitP P i f) L D w h hi.ok hi.wf hN hp hpw hma hmn hi.log hr hpn).mono ?_
  rintro e w' ⟨rfl, a', k1, k2, k3⟩
  exact ⟨rfl, a', hitP P i f, k1, ⟨i, G, rfl⟩, k2, k3⟩
theorem cunpin_st (a : Ad) (P : Pl) (L : Lg) (D : Dk) (n : Int) (w : World) (h : PSt w a P L D) (hn : wf64 n) (hp : 1 ≤ (P.pins n).getD 0) (hp2 : (P.pins n).getD 0 ≤ 4398046511104) (hmn : a.mn ≤ 1099511627776) :
    Calls Tryz.prog 35 #[.pointer (some ⟨a.gp, 0, none⟩), .int .i64 n] w fun e w' => e = .returned (.int .i64 0) ∧ ∃ a', PSt w' a' { P with pins := unpinV P.pins n } L D ∧ Fr (pT a) w w' ∧ AdN w a a' 1 := by
  refine (cunpin_some a P L D n w h hn hp hp2 hmn).mono ?_
  rintro e w' ⟨rfl, h1, h2⟩
  exact ⟨rfl, _, h1, h2, ⟨rfl, rfl, rfl, rfl, rfl, rfl, rfl, rfl, rfl, Nx.refl _ _, Nx.refl _ _, Nx.refl _ _, fun _ h => .inl h, Nat.le_add_right _ _, Nat.le_refl _, rfl⟩⟩
theorem one_frame {P : Pl} (hl : P.frames.length ≤ 1) {i : Nat} {f : Frm} (hf : P.frames[i]? = some f) : i = 0 ∧ P.frames = [f] := by
  have hi := (List.getElem?_eq_some_iff.1 hf).1
  obtain rfl : i = 0 := by omega
  match hP : P.frames with
  | [] => rw [hP] at hf; cases hf
  | [x] => rw [hP] at hf; simp at hf; exact ⟨rfl, by rw [hf]⟩
  | _ :: _ :: _ => rw [hP] at hl; simp at hl
theorem dirtyL_nil {P : Pl} (hw : PWf P) {ks : List Int} (hd : ∀ k, dty P k = none) : dirtyL P ks = [] := by
  unfold dirtyL
  rw [List.map_eq_nil_iff]
  refine List.eq_nil_iff_forall_not_mem.2 fun i hi => ?_
  obtain ⟨f, hf, hfd⟩ := dirtyIx_mem hw hi
  have h1 := hd f.n
  unfold dty at h1
  rw [hw.frOf hf] at h1
  simp [hfd] at h1
theorem vict_pinned (pins : Int → Option Int) : ∀ (k : Nat) (fs : List Frm) (h : Nat), (∀ f ∈ fs, 0 < (pins f.n).getD 0) → (vict pins k fs h).1 = none ∧ (vict pins k fs h).2.1 = fs
  | 0, fs, h, _ => ⟨rfl, rfl⟩
  | k + 1, fs, h, hp => by
    rw [vict]
    cases hf : fs[h]? with
    | none => exact ⟨rfl, rfl⟩
    | some f =>
      simp only
      rw [if_pos (hp f (List.mem_of_getElem? hf))]
      exact vict_pinned pins k fs _ hp
end Go.Proofs.YthfidlhefkjpdaaGreatDoor

namespace Go.Proofs.YthfidlhefkjpdaaGreatDoor
open Go.RowKit Go.Maps

/-- The pool's frames the same but for the flags of use and the hand. -/
theorem clock_inv {P : Pl} {L : Lg} {D : Dk} {fs : List Frm} {hd : Nat} (h : Inv P L D) (hs : SameF fs P.frames) (hh : hd < max fs.length 1) :
    Inv { P with frames := fs, hand := hd } L D ∧ Same P { P with frames := fs, hand := hd } L L D D := by
  have hw := h.wf
  have hlen := hs.1
  have hto : ∀ (i : Nat) (g : Frm), P.frames[i]? = some g → ∃ f : Frm, fs[i]? = some f ∧ f = { g with used := f.used } := fun i g hg => by
    have hi := (List.getElem?_eq_some_iff.1 hg).1
    have hf := List.getElem?_eq_getElem (show i < fs.length by omega)
    obtain ⟨g', h1, h2⟩ := hs.2 i _ hf
    rw [hg] at h1
    obtain rfl := Option.some.inj h1
    exact ⟨_, hf, h2⟩
  have hfr : ∀ k f, frOf { P with frames := fs, hand := hd } k = some f → ∃ g : Frm, frOf P k = some g ∧ f = { g with used := f.used } := fun k f hf => by
    unfold frOf at hf ⊢
    replace hf : (P.atm k).bind (fun i => fs[i]?) = some f := hf
    cases ha : P.atm k with
    | none => rw [ha] at hf; cases hf
    | some i =>
      rw [ha] at hf
      exact hs.2 i f hf
  have hfr2 : ∀ k g, frOf P k = some g → ∃ f : Frm, frOf { P with frames := fs, hand := hd } k = some f ∧ f = { g with used := f.used } := fun k g hg => by
    unfold frOf at hg
    cases ha : P.atm k with
    | none => rw [ha] at hg; cases hg
    | some i =>
      rw [ha] at hg
      obtain ⟨f, h1, h2⟩ := hto i g hg
      refine ⟨f, ?_, h2⟩
      unfold frOf
      show (P.atm k).bind (fun i => fs[i]?) = some f
      rw [ha]
      exact h1
  have hnone : ∀ k, frOf P k = none → frOf { P with frames := fs, hand := hd } k = none := fun k hk => by
    cases hx : frOf { P with frames := fs, hand := hd } k with
    | none => rfl
    | some x =>
      obtain ⟨g, h1, -⟩ := hfr k x hx
      rw [hk] at h1
      cases h1
  refine ⟨⟨⟨hw.m1, hw.m2, by show fs.length ≤ P.most; have := hw.len; omega, hh, ?_, hw.count, ?_, ?_⟩, ⟨h.ok.lw, h.ok.ld, h.ok.dw, h.ok.dp, h.ok.doff, h.ok.lf, h.ok.pd, h.ok.pb, h.ok.st⟩, h.log, ?_, h.pg, h.loose⟩, ⟨⟨rfl, rfl, rfl, rfl, rfl, rfl, rfl, rfl, rfl, rfl, rfl, rfl, by omega, rfl⟩, rfl, ?_, ?_⟩⟩
  · intro f hf
    obtain ⟨i, hi⟩ := List.getElem?_of_mem hf
    obtain ⟨g, h1, h2⟩ := hs.2 i f hi
    have := hw.full g (List.mem_of_getElem? h1)
    rw [h2]
    exact this
  · intro k i
    show P.atm k = some i ↔ ∃ f : Frm, fs[i]? = some f ∧ f.n = k
    rw [hw.atm]
    constructor
    · rintro ⟨g, h1, h2⟩
      obtain ⟨f, h3, h4⟩ := hto i g h1
      exact ⟨f, h3, by rw [h4]; exact h2⟩
    · rintro ⟨f, h1, h2⟩
      obtain ⟨g, h3, h4⟩ := hs.2 i f h1
      exact ⟨g, h3, by rw [h4] at h2; exact h2⟩
  · intro i j f g hf hg hn
    obtain ⟨f', h1, h2⟩ := hs.2 i f hf
    obtain ⟨g', h3, h4⟩ := hs.2 j g hg
    exact hw.inj i j f' g' h1 h3 (by rw [h2, h4] at hn; exact hn)
  · intro i f hf
    obtain ⟨g, h1, h2⟩ := hs.2 i f hf
    obtain ⟨p, q1, q2, q3, q4⟩ := h.fr i g h1
    exact ⟨p, q1, by rw [h2]; exact q2, by rw [h2]; exact q3, fun hd' => by rw [h2] at hd' ⊢; exact q4 hd'⟩
  · intro M hM
    unfold Go.Proofs.YthfidlhefkjpdaaGreatDoor.lc
    cases hg : frOf P M with
    | none => rw [hnone _ hg]
    | some g =>
      obtain ⟨f, h1, h2⟩ := hfr2 _ g hg
      rw [h1]
      simp only
      rw [show f.dirty = g.dirty by rw [h2], show f.bytes = g.bytes by rw [h2]]
  · intro k s hk
    unfold Go.Proofs.YthfidlhefkjpdaaGreatDoor.dty at hk ⊢
    cases hx : frOf { P with frames := fs, hand := hd } k with
    | none => rw [hx] at hk; cases hk
    | some x =>
      obtain ⟨g, h1, h2⟩ := hfr _ x hx
      rw [hx] at hk
      rw [h1]
      simp only at hk ⊢
      rw [show x.dirty = g.dirty by rw [h2], show x.since = g.since by rw [h2]] at hk
      exact hk

/-- What a fetch that finds no room leaves. -/
theorem fetch_fails (a : Ad) (P : Pl) (L : Lg) (D : Dk) (N : Nat) (p : Pg) (w : World) (h : PSt w a P L D) (hi : Inv P L D) (hN : N < P.count) (hr : fetchR P L D N p = none) :
    ∃ P', Calls Tryz.prog 49 #[.pointer (some ⟨a.gp, 0, none⟩), .int .i64 (N : Int)] w (fun e w' => e = .returned (.tuple #[.pointer none, .int .i64 100]) ∧ (PSt w' a P' L D ∧ Fr (aT a) w w')) ∧ Inv P' L D ∧ Same P P' L L D D := by
  have hw := hi.wf
  unfold fetchR at hr
  cases hat : P.atm N with
  | some j =>
    obtain ⟨f, hf, hfn⟩ := (hw.atm _ _).1 hat
    rw [hat] at hr
    simp only [hf] at hr
    cases hr
  | none =>
    rw [hat] at hr
    simp only at hr
    by_cases hlt : P.frames.length < P.most
    · rw [if_pos hlt] at hr; cases hr
    · rw [if_neg hlt] at hr
      have hn0 : 0 < P.frames.length := by have := hw.m1; omega
      have hv1 := vict_same P.pins (2 * P.frames.length) P.frames P.hand P.frames (SameF.refl _)
      have hvh := vict_hand P.pins (2 * P.frames.length) P.frames P.hand (by have := hw.hand; omega)
      have hl := vict_lt P.pins (2 * P.frames.length) P.frames P.hand
      obtain ⟨v1, hd⟩ : ∃ v, vict P.pins (2 * P.frames.length) P.frames P.hand = v := ⟨_, rfl⟩
      obtain ⟨o, fs, hh⟩ := v1
      rw [hd] at hr hv1 hvh hl
      simp only at hr hv1 hvh hl
      cases o with
      | some i =>
        simp only at hr
        rw [List.getElem?_eq_getElem (show i < fs.length by rw [hv1.1]; exact hl i rfl)] at hr
        cases hr
      | none =>
        have hc := clock_inv (fs := fs) (hd := hh) hi hv1 (by have := hv1.1; omega)
        refine ⟨_, (fetch_pinned a P L D N hh fs w h hi.ok.pd hw hN hat (by omega) hd).mono ?_, hc.1, hc.2⟩
        rintro e w' ⟨rfl, h1, h2⟩
        exact ⟨rfl, h1, fr_aT2 h2⟩

set_option maxRecDepth 100000 in
theorem cput_err (gp : Nat) (n e0 : Int) (vp vx : Value) (w : World) (Q : World → Prop) (he : ((e0 : Int) == 0) = false) (hc : Calls Tryz.prog 49 #[.pointer (some ⟨gp, 0, none⟩), .int .i64 n] w fun e w' => e = .returned (.tuple #[.pointer none, .int .i64 e0]) ∧ Q w') :
    Calls Tryz.prog 12 #[.pointer (some ⟨gp, 0, none⟩), .int .i64 n, vp, vx] w fun e w' => e = .returned (.int .i64 e0) ∧ Q w' := by
  have hne : (e0 != 0) = true := by simp [bne, he]
  go_enter Tryz.func12, Tryz.ntmps12
  go_wp2_with fail
  refine hc.mono ?_
  rintro e w1 ⟨rfl, h1⟩
  have H1 := hid h1
  clear h1 hc
  go_wp2_with fail
  go_ret
  exact ⟨rfl, H1.out⟩

/-- Put, whatever the number and the pins. -/
theorem cput_all (a : Ad) (P : Pl) (L : Lg) (D : Dk) (n : Int) (base g x : Nat) (q : Pg) (w : World) (h : PSt w a P L D) (hi : Inv P L D) (hma : a.ma ≤ 1099511627776) (hst : D.steps + 20000 ≤ 1152921504606846976)
    (hq : PageAt w base g q) (hqw : q.wf) (hfar : ∀ b, aT a b → b < base) (hx : x ≤ 9223372036854775807) :
    (∃ N : Nat, n = (N : Int) ∧ N < P.count ∧ Calls Tryz.prog 12 #[.pointer (some ⟨a.gp, 0, none⟩), .int .i64 n, .pointer (some ⟨g, 0, none⟩), .int .i64 (x : Int)] w fun e w' => e = .returned (.int .i64 0) ∧
      ∃ a' P' L' D', PSt w' a' P' L' D' ∧ PutR P P' L L' D D' N { q with lsn := (x : Int) } ∧ Fr (aT a) w w' ∧ AdN w a a' 1) ∨
    (∃ e0 : Int, ((e0 == 0) = false) ∧ Calls Tryz.prog 12 #[.pointer (some ⟨a.gp, 0, none⟩), .int .i64 n, .pointer (some ⟨g, 0, none⟩), .int .i64 (x : Int)] w fun e w' => e = .returned (.int .i64 e0) ∧
      ∃ P', PSt w' a P' L D ∧ Inv P' L D ∧ Same P P' L L D D ∧ Fr (aT a) w w') := by
  by_cases hn : n < 0 ∨ (P.count : Int) ≤ n
  · refine .inr ⟨1, by decide, (cput_err a.gp n 1 _ _ w (fun w' => w = w') (by decide) (fetch_out a P L D n w h hi.ok.pd hn)).mono ?_⟩
    rintro e w' ⟨rfl, rfl⟩
    exact ⟨rfl, P, h, hi, ⟨⟨rfl, rfl, rfl, rfl, rfl, rfl, rfl, rfl, rfl, rfl, rfl, rfl, by omega, rfl⟩, rfl, fun _ _ => rfl, fun _ _ k => k⟩, Fr.refl _ _⟩
  · obtain ⟨N, rfl⟩ : ∃ N : Nat, (N : Int) = n := ⟨n.toNat, by omega⟩
    have hN : N < P.count := by omega
    obtain ⟨p, hpw, hp⟩ := hi.pg N hN
    cases hr : fetchR P L D N p with
    | none =>
      obtain ⟨P', h1, h2, h3⟩ := fetch_fails a P L D N p w h hi hN hr
      refine .inr ⟨100, by decide, (cput_err a.gp N 100 _ _ w _ (by decide) h1).mono ?_⟩
      rintro e w' ⟨rfl, k1, k2⟩
      exact ⟨rfl, P', k1, h2, h3, k2⟩
    | some r =>
      obtain ⟨i, P1, L1, D1⟩ := r
      refine .inl ⟨N, rfl, hN, ?_⟩
      have G := fetch_law hi hN hpw hp hst hr
      obtain ⟨f, q0, hf, hfn, -⟩ := G.fr
      refine (cput_any a P L D N p i P1 L1 D1 f q base g x w h hi.ok hi.wf hN hp hpw hma hi.log hr hf hq hqw hfar hx).mono ?_
      rintro e w' ⟨rfl, a', h1, h2, h3⟩
      have hq' : Pg.wf { q with lsn := (x : Int) } := ⟨by show (0 : Int) ≤ x; omega, by show (x : Int) ≤ _; omega, hqw.extra, hqw.slots, hqw.item, hqw.used⟩
      obtain ⟨k1, k2, k3⟩ := put_law G.inv hf hfn hq'
      have hs := G.same.stay
      refine ⟨rfl, a', _, _, _, h1, ⟨k1, ⟨hs.base, hs.count, hs.most, hs.dead, hs.first, hs.cnt, hs.run, hs.lmost, hs.stream, hs.nrec, hs.old, hs.ldead, hs.steps, hs.sec⟩, G.same.pins, fun M hM => ?_, ?_, fun k s hk hd => ?_, fun was hl hW => ?_⟩, h2, h3⟩
      · rw [k2]
        split
        · rfl
        · exact G.same.lc M hM
      · rw [k3, if_pos rfl, G.dn]
      · rw [k3, if_neg hk] at hd
        exact G.same.dty k s hd
      · exact put_wal (by rw [hs.stream, lsn_run hs.run]; exact hl) (G.wal was hW)

/-- Pin, whatever the number and the pins. -/
theorem cpin_all (a : Ad) (P : Pl) (L : Lg) (D : Dk) (n : Int) (w : World) (h : PSt w a P L D) (hi : Inv P L D) (hma : a.ma ≤ 1099511627776) (hmn : a.mn ≤ 1099511627776) (hst : D.steps + 20000 ≤ 1152921504606846976)
    (hpn : ∀ k, 0 ≤ (P.pins k).getD 0 ∧ (P.pins k).getD 0 ≤ 4398046511104) :
    (∃ N : Nat, n = (N : Int) ∧ N < P.count ∧ Calls Tryz.prog 33 #[.pointer (some ⟨a.gp, 0, none⟩), .int .i64 n] w fun e w' => e = .returned (.int .i64 0) ∧
      ∃ a' P' L' D', PSt w' a' { P' with pins := fun k => if k = (N : Int) then some ((P.pins N).getD 0 + 1) else P.pins k } L' D' ∧ Inv P' L' D' ∧ Same P P' L L' D D' ∧ Fr (aT a) w w' ∧ AdN w a a' 2) ∨
    (∃ e0 : Int, ((e0 == 0) = false) ∧ Calls Tryz.prog 33 #[.pointer (some ⟨a.gp, 0, none⟩), .int .i64 n] w fun e w' => e = .returned (.int .i64 e0) ∧
      ∃ P', PSt w' a P' L D ∧ Inv P' L D ∧ Same P P' L L D D ∧ Fr (aT a) w w') := by
  by_cases hn : n < 0 ∨ (P.count : Int) ≤ n
  · refine .inr ⟨1, by decide, (cpin_err a.gp n 1 w (fun w' => w = w') (by decide) (fetch_out a P L D n w h hi.ok.pd hn)).mono ?_⟩
    rintro e w' ⟨rfl, rfl⟩
    exact ⟨rfl, P, h, hi, ⟨⟨rfl, rfl, rfl, rfl, rfl, rfl, rfl, rfl, rfl, rfl, rfl, rfl, by omega, rfl⟩, rfl, fun _ _ => rfl, fun _ _ k => k⟩, Fr.refl _ _⟩
  · obtain ⟨N, rfl⟩ : ∃ N : Nat, (N : Int) = n := ⟨n.toNat, by omega⟩
    have hN : N < P.count := by omega
    obtain ⟨p, hpw, hp⟩ := hi.pg N hN
    cases hr : fetchR P L D N p with
    | none =>
      obtain ⟨P', h1, h2, h3⟩ := fetch_fails a P L D N p w h hi hN hr
      refine .inr ⟨100, by decide, (cpin_err a.gp N 100 w _ (by decide) h1).mono ?_⟩
      rintro e w' ⟨rfl, k1, k2⟩
      exact ⟨rfl, P', k1, h2, h3, k2⟩
    | some r =>
      obtain ⟨i, P1, L1, D1⟩ := r
      refine .inl ⟨N, rfl, hN, ?_⟩
      have G := fetch_law hi hN hpw hp hst hr
      have hpp := G.same.pins
      refine (cpin_some a P L D N p i P1 L1 D1 w h hi.ok hi.wf hN hp hpw hma hmn hi.log hr (by rw [hpp]; exact hpn N)).mono ?_
      rintro e w' ⟨rfl, a', h1, h2, h3⟩
      rw [hpp] at h1
      exact ⟨rfl, a', P1, L1, D1, h1, G.inv, G.same, h2, h3⟩

end Go.Proofs.YthfidlhefkjpdaaGreatDoor
