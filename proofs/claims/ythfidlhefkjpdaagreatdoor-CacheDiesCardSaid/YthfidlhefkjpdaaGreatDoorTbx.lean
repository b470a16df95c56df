/- The reference's Piece; page.Parse of a sector of zeros.
   skeinref01.Same on slices that read alike.
   Two pools in one world.
   Get whatever the number, where nothing is pinned; disk.All.
   The law's ahead: no page is ahead of the log.
   The disk's Steps and Plan.
   disk.On where nothing waits: the disk stays as it is. -/
import Derived.Test.YthfidlhefkjpdaaGreatDoorTbs
import Derived.Test.YthfidlhefkjpdaaGreatDoorTbi
import Derived.Test.YthfidlhefkjpdaaGreatDoorTam
import Derived.ScopeJumps
import Derived.Test.YthfidlhefkjpdaaGreatDoorTbn
import Derived.Test.YthfidlhefkjpdaaGreatDoorTad
import Derived.Deep.RegionHeld3
import Derived.Test.YthfidlhefkjpdaaGreatDoorTan
import Derived.Test.YthfidlhefkjpdaaGreatDoorTbu
import Derived.Test.YthfidlhefkjpdaaGreatDoorTae
namespace Go.Proofs.YthfidlhefkjpdaaGreatDoor
open Go.RowKit

set_option maxRecDepth 100000 in
set_option maxHeartbeats 1000000 in
theorem piece_any (A : Option Addr) (n c lo hi : Nat) (bs : List UInt8) (w : World) (hR : RdB w A n bs) (h1 : lo ≤ hi) (h2 : hi ≤ n) (hn : n ≤ 140737488355000) :
    Calls Tryz.prog 16 #[.slice A n c, .int .i64 (lo : Int), .int .i64 (hi : Int)] w fun e w' => ∃ v, e = .returned v ∧ w'.ownsRow w.heap.size 5 1 v (hi - lo) (((bs.drop lo).take (hi - lo)).map Go.Proofs.YthfidlhefkjpdaaGreatDoor.u8) ∧ Below w.heap.size w w' := by
  have HR : Aside (RdB w A n bs) := ⟨hR⟩
  have hl0 : decide ((lo : Int) < 0) = false := by simp
  clear hR
  go_enter Tryz.func16, Tryz.ntmps16
  go_wp2_with fail
  go_loopg [7, 8] (hi - lo) (fun q v i wr => ∃ k : Nat, k + q = hi - lo ∧ i = .int .i64 ((lo + k : Nat) : Int) ∧ Hid (wr.ownsRow w.heap.size 5 1 v k (((bs.drop lo).take k).map Go.Proofs.YthfidlhefkjpdaaGreatDoor.u8) ∧ Below w.heap.size w wr))
  case atStart =>
    refine ⟨0, by omega, rfl, ?_, bl_alloc (Below.refl _ _) _⟩
    exact own_blk (n := 0) (cap := 0) (alloc_new w (.cells #[] 5)) (Nat.le_refl _) rfl rfl rfl (by unfold maxLen; omega)
  case round =>
    obtain ⟨k, hk, rfl, hI⟩ := hrel
    obtain ⟨hO, hB⟩ := hI.out
    obtain ⟨A2, c2, rfl, hc2, hc3, -⟩ := own_form hO
    have HI : Aside (wr.ownsRow w.heap.size 5 1 (.slice A2 k c2) k (((bs.drop lo).take k).map Go.Proofs.YthfidlhefkjpdaaGreatDoor.u8) ∧ Below w.heap.size w wr) := ⟨hO, hB⟩
    have hsz := hB.size
    clear hI hO hB hc2 hc3
    obtain ⟨j, hj⟩ : ∃ j, lo + k = j := ⟨_, rfl⟩
    rw [hj]
    by_cases hlt : k < hi - lo
    · have d1 : decide ((j : Int) < (n : Int)) = true := by simp; omega
      have d2 : decide ((j : Int) < (hi : Int)) = true := by simp; omega
      have d2' : decide (j < hi) = true := by simp; omega
      obtain ⟨b, o, rfl, hb, hcell⟩ := HR.out.2 (by omega)
      have hkb : j < bs.length := by have := HR.out.1; omega
      have hjn : j < n := by omega
      have c1 := (HI.out.2.cell (p := ⟨b, o + j, none⟩) hb).trans (hcell j hkb)
      obtain ⟨x, hx⟩ : ∃ x, bs[j] = x := ⟨_, rfl⟩
      rw [hx] at c1
      have hrd : RdB (wr.alloc (.cells #[.int .u8 (x.toNat : Int)] 5)) (some ⟨wr.heap.size, 0, none⟩) 1 [x] := (Byt.new wr [x]).rd0
      have HX : Aside ((bs.drop lo).take k ++ [x] = (bs.drop lo).take (k + 1)) := ⟨by
        rw [List.take_add_one, List.getElem?_drop, hj, List.getElem?_eq_getElem hkb, hx]
        rfl⟩
      have HJ : Aside (lo + k = j ∧ k < hi - lo) := ⟨hj, hlt⟩
      have hkn : k ≤ n := by omega
      clear hcell hkb hx hj hlt
      go_wp2_with (
        (at_builtin
         refine wpList_app_bytes rfl (.tmp 24) (.tmp 29) rfl w.heap.size (.slice A2 k c2) k ((bs.drop lo).take k) rfl (HI.out.1.alloc _) (some ⟨wr.heap.size, 0, none⟩) 1 1 [x] rfl hrd (by omega) (by simp; omega) ?_
         intro A3 c3 w3 hO3 hg3 ha3
         have H3 : Aside (w3.ownsRow w.heap.size 5 1 (.slice A3 (k + 1) c3) (k + 1) (((bs.drop lo).take (k + 1)).map Go.Proofs.YthfidlhefkjpdaaGreatDoor.u8) ∧ Below w.heap.size w w3) := by
           refine ⟨by rw [HX.out] at hO3; exact hO3, ?_⟩
           exact (bl_alloc HI.out.2 _ (Nat.le_refl _)).trans (grown_below hg3 (HI.out.1.alloc _) (by simp; omega))
         clear hO3 hg3 ha3))
      go_roundg (hi - lo - 1 - k)
      case rel => exact ⟨k + 1, by have := HJ.out.2; omega, by have := HJ.out.1; go_num, H3.out⟩
      case measure => have := HJ.out.2; omega
    · obtain rfl : k = hi - lo := by omega
      have d2 : decide ((j : Int) < (hi : Int)) = false := by simp; omega
      have d2' : decide (j < hi) = false := by simp; omega
      by_cases hjn : j < n
      · have d1 : decide ((j : Int) < (n : Int)) = true := by simp; omega
        go_wp2_with fail
        go_ret
        exact ⟨_, rfl, HI.out⟩
      · have d1 : decide ((j : Int) < (n : Int)) = false := by simp; omega
        go_wp2_with fail
        go_ret
        exact ⟨_, rfl, HI.out⟩

theorem opens_zeros : opens (zeros 512) = false := by
  cases ho : opens (zeros 512) with
  | false => rfl
  | true =>
    exfalso
    unfold opens at ho
    have e2 : zeros 4 = le4 (crcOf (zeros 508)) := by
      have h1 : (zeros 512).take 4 = zeros 4 := by unfold zeros; rw [List.take_replicate]; rfl
      have h2 : (zeros 512).drop 4 = zeros 508 := by unfold zeros; rw [List.drop_replicate]
      rw [h1, h2] at ho
      exact eq_of_beq ho
    have hlt := crcOf_lt (zeros 508)
    have hnz := crc_zeros
    obtain ⟨c, hc⟩ : ∃ c, crcOf (zeros 508) = c := ⟨_, rfl⟩
    rw [hc] at e2 hlt hnz
    simp only [le4, zeros, List.replicate, List.cons.injEq] at e2
    obtain ⟨q0, q1, q2, q3, -⟩ := e2
    have r0 := congrArg UInt8.toNat q0
    have r1 := congrArg UInt8.toNat q1
    have r2 := congrArg UInt8.toNat q2
    have r3 := congrArg UInt8.toNat q3
    simp at r0 r1 r2 r3
    omega

set_option maxRecDepth 100000 in
theorem parse_bad (A : Option Addr) (c : Nat) (bs : List UInt8) (w : World) (hR : RdB w A 512 bs) (hc : 512 ≤ c) (hc2 : c ≤ 9223372036854775807) (hop : opens bs = false) :
    Calls Tryz.prog 34 #[.slice A 512 c] w fun e w' => (∃ er : Int, (er == 0) = false ∧ e = .returned (.tuple #[.pointer none, .int .i64 er])) ∧ Below w.heap.size w w' := by
  have hop' := open_bad A 512 c bs w hR (by omega) (by omega) hc hc2 hop
  clear hR hop
  go_enter Tryz.func34, Tryz.ntmps34
  go_wp2_with fail
  refine wp_scope_jumps 0 (fun a' w' => a' = ({ tmps := #[.slice A 512 c, undef, .pointer none, .int .i64 0, .pointer none, .int .i64 0, .int .i64 0, .int .u64 0, .slice none 0 0, .bool false, undef, undef, .slice A 512 c, .int .i64 512, .bool false, .tuple #[.slice none 0 0, .bool false], .slice A 512 c, .tuple #[.slice none 0 0, .bool false], .slice none 0 0, .bool false, .bool false, .bool true, undef, undef, undef, undef, undef, undef, undef, undef, undef, undef, undef, undef, undef, undef, undef, undef, undef, undef, undef, undef, undef, undef, undef, undef, undef, undef, undef, undef, undef, undef, undef, undef, undef, undef, undef, undef, undef, undef, undef, undef, undef, undef, undef, undef, undef, undef, undef, undef, undef, undef, undef, undef, undef, undef, undef, undef, undef, undef, undef, undef, undef, undef, undef, undef, undef, undef, undef, undef, undef, undef, undef, undef, undef, undef, undef, undef, undef, undef, undef, undef, undef, undef, undef], defers := [] } : Act) ∧ Below w.heap.size w w') (fun _ _ => 0) rfl ?first ?pass
  case first =>
    go_wp2_with fail
    refine hop'.mono ?_
    rintro e w1 ⟨rfl, hb1⟩
    have HB := hid hb1
    clear hb1 hop'
    go_wp2_with fail
    go_step3
    exact ⟨rfl, rfl, HB.out⟩
  case pass =>
    clear hop'
    rintro a' w' ⟨rfl, hB⟩
    have HB := hid hB
    clear hB
    go_wp2_with fail
    (try simp only [Exit.inBlock, Exit.then, Exit.jump])
    refine bodyPost_ret (results_tmp2 rfl _ _ _) rfl ?_
    exact ⟨⟨80, by decide, rfl⟩, HB.out⟩
end Go.Proofs.YthfidlhefkjpdaaGreatDoor

namespace Go.Proofs.YthfidlhefkjpdaaGreatDoor
open Go.RowKit Go.Maps

set_option maxRecDepth 100000 in
set_option maxHeartbeats 2000000 in
theorem same_any (A B : Option Addr) (n ca cb : Nat) (bs : List UInt8) (w : World) (hA : RdB w A n bs) (hB : RdB w B n bs) (hn : n ≤ 140737488355328) :
    Calls Tryz.prog 26 #[.slice A n ca, .slice B n cb] w fun e w' => e = .returned (.bool true) ∧ Below w.heap.size w w' := by
  have HA := hid hA
  have HB := hid hB
  have dn : decide ((n : Int) = (n : Int)) = true := by simp
  clear hA hB
  go_enter Tryz.func26, Tryz.ntmps26
  go_wp2_with fail
  go_loopg [5] n (fun q i wr => ∃ k : Nat, k + q = n ∧ i = .int .i64 (k : Nat) ∧ Hid (Below w.heap.size w wr))
  case atStart => exact ⟨0, by omega, rfl, Below.refl _ _⟩
  case round =>
    obtain ⟨k, hk, rfl, hI⟩ := hrel
    by_cases hlt : k < n
    · have hlt2 : (k : Int) < (n : Int) := by omega
      obtain ⟨ba, oa, hAe, hxe, x, hca⟩ := HA.out.get hlt
      obtain ⟨bb, ob, hBe, hye, y, hcb⟩ := HB.out.get hlt
      subst hAe hBe
      obtain ⟨v, hv⟩ : ∃ v : Nat, bs[k].toNat = v := ⟨_, rfl⟩
      have c1 : wr.cell? ⟨ba, oa + k, none⟩ = some (.int .u8 (v : Int)) := by rw [← hv]; exact (hI.out.cell (p := ⟨ba, oa + k, none⟩) hxe).trans hca
      have c2 : wr.cell? ⟨bb, ob + k, none⟩ = some (.int .u8 (v : Int)) := by rw [← hv]; exact (hI.out.cell (p := ⟨bb, ob + k, none⟩) hye).trans hcb
      have S1 := hid hI.out
      clear hI hca hcb hv hxe hye
      go_wp2_with fail
      go_region_held3 (fun w' => w'.cell? ⟨ba, oa + k, none⟩ = some (.int .u8 (v : Int)) ∧ w'.cell? ⟨bb, ob + k, none⟩ = some (.int .u8 (v : Int))) (exact ⟨c1, c2⟩) (fail)
      go_wp2_with fail
      go_roundg (n - 1 - k)
      case rel => exact ⟨k + 1, by omega, by go_num, bl_drew S1.out⟩
      case measure => omega
    · have hkn : ¬ (k : Int) < (n : Int) := by omega
      go_wp2_with fail
      go_ret
      exact ⟨rfl, hI.out⟩
end Go.Proofs.YthfidlhefkjpdaaGreatDoor

namespace Go.Proofs.YthfidlhefkjpdaaGreatDoor
open Go.RowKit Go.Maps

section
variable {w w' : World} {a a' b : Ad} {P P' Q : Pl} {L L' M : Lg} {D D' E : Dk}
/-- Of what disk, log and pool write only the stream is of bytes, nothing of fates. -/
theorem PSt.u8 (h : PSt w a P L D) {x : Nat} (hx : aT a x) (hu : Ty w x 5) : a.sv.ownBlock = some x := by
  rcases hx with hx | hx
  · exact h.lkinds hx hu
  · exact absurd hx (h.pool.u8 hu)
theorem PSt.nofate (h : PSt w a P L D) {x : Nat} (hx : aT a x) (hf : Ty w x 76) : False := by
  rcases hx with (hd | hl) | hp
  · have := h.ld.disk.ne hf (by decide) (by decide)
    rcases hd with rfl | rfl | rfl
    · exact this.1 rfl
    · exact this.2.1 rfl
    · exact this.2.2 rfl
  · rcases hl with rfl | hl | hl
    · exact h.ld.log.1.ty.ne hf (by decide)
    · exact (own_ty h.ld.log.2.2.1 hl).ne hf (by decide)
    · obtain ⟨xs, hx⟩ := h.ld.log.2.2.2
      exact (own_ty hx hl).ne hf (by decide)
  · rcases (h.pool.kinds hp).2 with (k | k | k) | k
    · exact hf.ne k (by decide)
    · exact hf.ne k (by decide)
    · exact hf.ne k (by decide)
    · exact k _ hf

/-- Two pools that share nothing; each keeps its frames' bytes apart from the other's log. -/
structure Two (w : World) (a : Ad) (P : Pl) (L : Lg) (D : Dk) (b : Ad) (Q : Pl) (M : Lg) (E : Dk) : Prop where
  st1 : PSt w a P L D
  st2 : PSt w b Q M E
  dj : ∀ x, aT a x → ¬ aT b x
  o1 : a.ov = b.sv
  o2 : b.ov = a.sv

theorem Two.swap (h : Two w a P L D b Q M E) : Two w b Q M E a P L D := ⟨h.st2, h.st1, fun x h1 h2 => h.dj x h2 h1, h.o2, h.o1⟩
theorem Two.below (h : Two w a P L D b Q M E) (hb : Below w.heap.size w w') : Two w' a P L D b Q M E := ⟨h.st1.below hb, h.st2.below hb, h.dj, h.o1, h.o2⟩

/-- Behind a call on the first. -/
theorem Two.left {k : Nat} (h : Two w a P L D b Q M E) (h1 : PSt w' a' P' L' D') (hF : Fr (aT a) w w') (hA : AdN w a a' k) : Two w' a' P' L' D' { b with ov := a'.sv } Q M E := by
  have hz := hF.size
  have hT : ∀ x, aT b x → ¬ aT a x := fun x hb ha => h.dj x ha hb
  have hld := h.st2.ld.fr hF (fun x hx => hT x (.inl hx)) (fun x hx hh => h.st1.nofate hh hx)
  have hpl := h.st2.pool.fr hF (fun x hx => hT x (.inr hx)) (fun x hx _ hne hh => hne (by rw [h.o2]; exact h.st1.u8 hh hx))
  refine ⟨h1, ⟨hld, ⟨hpl.blk, hpl.row, hpl.blen, fun i hi => ?_, hpl.nodup, hpl.atm, hpl.pin, hpl.lp, hpl.la, hpl.ln, hpl.ne, fun x hx => (h1.ld.log.2.2.1.lt x hx).2⟩, h.st2.lb, h.st2.lg⟩, fun x hx hb => ?_, hA.ov.trans h.o1, rfl⟩
  · obtain ⟨f1, bv, f2, f3, f4⟩ := h.st2.pool.each i hi
    have hbk : pT b (b.bk.getD i 0) := .inr (.inr (.inl (bk_mem (by rw [h.st2.pool.blen]; exact hi))))
    refine ⟨f1, bv, f2.fr hF (hT _ (.inr hbk)), own_fr f3 hF (fun x hx hh => (f4 x hx).2 (by rw [h.o2]; exact h.st1.u8 hh (own_ty f3 hx))), fun x hx => ⟨(f4 x hx).1, fun e => ?_⟩⟩
    rcases hA.sv x e with q | q
    · exact (f4 x hx).2 (by rw [h.o2]; exact q)
    · have := (f3.lt x hx).2; omega
  · have hxb : aT b x := hb
    by_cases hl : x < w.heap.size
    · exact h.dj x (hA.foot x hl hx) hxb
    · exact hl (h.st2.lt hxb)

/-- Behind a call on the second. -/
theorem Two.right {b' : Ad} {Q' : Pl} {M' : Lg} {E' : Dk} {k : Nat} (h : Two w a P L D b Q M E) (h1 : PSt w' b' Q' M' E') (hF : Fr (aT b) w w') (hA : AdN w b b' k) : Two w' { a with ov := b'.sv } P L D b' Q' M' E' :=
  (h.swap.left h1 hF hA).swap

/-- The second is made anew: it lies wholly in new blocks and holds no frame. -/
theorem Two.made (h : PSt w a P L D) (hb : Below w.heap.size w w') (h2 : PSt w' b Q M E) (hfar : ∀ x, aT b x → w.heap.size ≤ x) (hQ : Q.frames = []) : Two w' { a with ov := b.sv } P L D { b with ov := a.sv } Q M E := by
  have hz := hb.size
  have h1 := h.below hb
  refine ⟨⟨h1.ld, ⟨h1.pool.blk, h1.pool.row, h1.pool.blen, fun i hi => ?_, h1.pool.nodup, h1.pool.atm, h1.pool.pin, h1.pool.lp, h1.pool.la, h1.pool.ln, h1.pool.ne, fun x hx => (h2.ld.log.2.2.1.lt x hx).2⟩, h1.lb, h1.lg⟩,
    ⟨h2.ld, ⟨h2.pool.blk, h2.pool.row, h2.pool.blen, fun i hi => absurd hi (by rw [hQ]; simp), h2.pool.nodup, h2.pool.atm, h2.pool.pin, h2.pool.lp, h2.pool.la, h2.pool.ln, h2.pool.ne, fun x hx => (h1.ld.log.2.2.1.lt x hx).2⟩, h2.lb, h2.lg⟩, fun x hx hxb => ?_, rfl, rfl⟩
  · obtain ⟨f1, bv, f2, f3, f4⟩ := h.pool.each i hi
    refine ⟨f1, bv, (hb.block _ f2.lt).trans f2, own_fr f3 (Fr.of_below hb (fun _ => False)) (fun _ _ h => h), fun x hx => ⟨(f4 x hx).1, fun e => ?_⟩⟩
    have k1 := (f3.lt x hx).2
    have k2 := hfar x (.inl (.inr (.inr (.inl e))))
    omega
  · have k1 : aT a x := hx
    have k2 : aT b x := hxb
    have := h.lt k1
    have := hfar x k2
    omega
end
end Go.Proofs.YthfidlhefkjpdaaGreatDoor

namespace Go.Proofs.YthfidlhefkjpdaaGreatDoor
open Go.RowKit Go.Maps

theorem cget_all (a : Ad) (P : Pl) (L : Lg) (D : Dk) (n : Int) (w : World) (h : PSt w a P L D) (hi : Inv P L D) (hnp : ∀ k, (P.pins k).getD 0 ≤ 0) (hma : a.ma ≤ 1099511627776) (hst : D.steps + 20000 ≤ 1152921504606846976) :
    (∃ N : Nat, n = (N : Int) ∧ N < P.count ∧ Calls Tryz.prog 25 #[.pointer (some ⟨a.gp, 0, none⟩), .int .i64 n] w fun e w' => ∃ a' g q P' L' D', e = .returned (.tuple #[.pointer (some ⟨g, 0, none⟩), .int .i64 0]) ∧
      PSt w' a' P' L' D' ∧ (∃ base, PageAt w' base g q ∧ w.heap.size ≤ base ∧ ∀ b, aT a' b → b < base) ∧ q.wf ∧ pageOf (lc P D N) = some q ∧ Kp P P' L L' D D' ∧ P'.pins = P.pins ∧ Fr (aT a) w w' ∧ AdN w a a' 1) ∨
    ((n < 0 ∨ (P.count : Int) ≤ n) ∧ Calls Tryz.prog 25 #[.pointer (some ⟨a.gp, 0, none⟩), .int .i64 n] w fun e w' => e = .returned (.tuple #[.pointer none, .int .i64 1]) ∧ w = w') := by
  by_cases hn : n < 0 ∨ (P.count : Int) ≤ n
  · exact .inr ⟨hn, cget_err a.gp n 1 w (fun w' => w = w') (by decide) (fetch_out a P L D n w h hi.ok.pd hn)⟩
  · obtain ⟨N, rfl⟩ : ∃ N : Nat, (N : Int) = n := ⟨n.toNat, by omega⟩
    refine .inl ⟨N, rfl, by omega, (cget_inv a P L D N w h hi (by omega) hnp hma hst).mono ?_⟩
    rintro e w' ⟨a', g, q, P', L', D', rfl, h1, h2, h3, h4, ⟨i, h5⟩, h6, h7⟩
    exact ⟨a', g, q, P', L', D', rfl, h1, h2, h3, h4, Kp.of_same hi h5.inv h5.same, h5.same.pins, h6, h7⟩

set_option maxRecDepth 100000 in
set_option maxHeartbeats 2000000 in
theorem dall_any (gd gs gm : Nat) (D : Dk) (w : World) (hD : DiskAt w gd gs gm D) (hw : D.wf) :
    Calls Tryz.prog 17 #[.pointer (some ⟨gd, 0, none⟩)] w fun e w' => ∃ A c, e = .returned (.slice A (D.sec.length * 512) c) ∧ RdB w' A (D.sec.length * 512) ((List.range D.sec.length).flatMap D.has) ∧ (D.sec.length * 512 ≤ c ∧ (0 < D.sec.length * 512 → ∃ g, A = some ⟨g, 0, none⟩)) ∧ Below w.heap.size w w' := by
  have hhas : Aside (∀ (W : World) (i : Nat), DiskAt W gd gs gm D → i < D.sec.length → Calls Tryz.prog 55 #[.pointer (some ⟨gd, 0, none⟩), .int .i64 (i : Int)] W fun e w' => e = .returned (.agg (cellsB (D.has i))) ∧ Below W.heap.size W w') := ⟨fun W i h1 h2 => has_any gd gs gm D i W h1 hw h2⟩
  have hlen : Aside (∀ i, i < D.sec.length → (D.has i).length = 512) := ⟨fun i hi => D.has_len hw hi⟩
  have hnn := hw.n
  have HD := hid hD
  obtain ⟨pv, m, hB, _⟩ := hD
  have c0 := hB.cell 0
  simp only [List.getElem?_toArray, List.getElem?_cons_zero] at c0
  obtain ⟨ns, hns⟩ : ∃ ns, D.sec.length = ns := ⟨_, rfl⟩
  rw [hns] at c0 hnn
  have hns := hid hns
  clear hB hw
  go_enter Tryz.func17, Tryz.ntmps17
  go_wp2_with fail
  go_loopg [3, 11] ns (fun q v i wr => ∃ k : Nat, k + q = ns ∧ i = .int .i64 (k : Nat) ∧ Hid (wr.ownsRow w.heap.size 5 1 v (k * 512) (((List.range k).flatMap D.has).map u8) ∧ Below w.heap.size w wr))
  case atStart => exact ⟨0, by omega, rfl, World.ownsRow_nil _ _ _ _, Below.refl _ _⟩
  case round =>
    obtain ⟨k, hk, rfl, hI⟩ := hrel
    obtain ⟨A, cap, rfl⟩ := own_form_n hI.out.1
    have HI := hid hI.out
    clear hI
    by_cases hlt : k < ns
    · have hlt2 : (k : Int) < (ns : Int) := by omega
      have hc := hhas.out wr k (HD.out.below HI.out.2) (by rw [hns.out]; exact hlt)
      have hl := hlen.out k (by rw [hns.out]; exact hlt)
      obtain ⟨bs, hbs⟩ : ∃ bs, D.has k = bs := ⟨_, rfl⟩
      rw [hbs] at hc hl
      have hsz : (cellsB bs).size = 512 := by rw [cellsB_size, hl]
      have HL := hid hl
      have HB := hid hbs
      clear hl hbs
      go_wp2_with fail
      refine hc.mono ?_
      rintro e w1 ⟨rfl, hb1⟩
      have st1 := stNew w1 Tryz.zeroCells113 bs w1.heap.size rfl zc_size HL.out
      have hrow := own_fr HI.out.1 (Fr.of_below hb1 (fun _ => False)) (fun _ _ h => h)
      have B1 : Aside (Below w.heap.size w w1 ∧ w1.ownsRow w.heap.size 5 1 (.slice A (k * 512) cap) (k * 512) (((List.range k).flatMap D.has).map u8)) := ⟨HI.out.2.trans (hb1.mono HI.out.2.size), hrow⟩
      obtain ⟨xs, hxs⟩ : ∃ xs, (List.range k).flatMap D.has = xs := ⟨_, rfl⟩
      have HX := hid hxs
      clear hb1 hc hrow hxs
      go_wp2_with (at_builtin
                   refine wpList_app_bytes (by rfl) _ _ (by rfl) w.heap.size (.slice A (k * 512) cap) (k * 512) xs (by rfl) ?_ (some ⟨w1.heap.size, 0, none⟩) 512 512 bs (by rfl) ?_ (by omega) ?_ ?_
                   · have := B1.out.2; rw [HX.out] at this; exact this.alloc _
                   · have := rd_of_cells (alloc_new w1 (.cells (cellsB bs) 113)); rw [HL.out] at this; exact this
                   · have := B1.out.1.size; simp; omega
                   intro A2 cap2 w2 hown2 hgr2 _
                   have A2' : Aside (w2.ownsRow w.heap.size 5 1 (.slice A2 (k * 512 + 512) cap2) (k * 512 + 512) ((xs ++ bs).map u8) ∧ (w1.alloc (.cells (cellsB bs) 113)).grownBy w2 (Value.slice A (k * 512) cap).ownBlock) := ⟨hown2, hgr2⟩
                   clear hown2 hgr2)
      go_roundg (ns - 1 - k)
      case rel =>
        have hF : Fr (fun b => (Value.slice A (k * 512) cap).ownBlock = some b) w1 w2 := ((Fr.refl _ w1).alloc _).trans ⟨A2'.out.2.os, A2'.out.2.tape, A2'.out.2.output, A2'.out.2.size, fun b hb hn => A2'.out.2.block b hb (fun e => hn e.symm)⟩ (fun _ _ h => h)
        refine ⟨k + 1, by omega, by go_num, ?_, B1.out.1.trans (hF.below B1.out.1.size fun b hb => (B1.out.2.lt b hb).1)⟩
        rw [List.range_succ, List.flatMap_append, HX.out, show (k + 1) * 512 = k * 512 + 512 by omega]
        simp only [List.flatMap_cons, List.flatMap_nil, List.append_nil]
        rw [HB.out]
        exact A2'.out.1
      case measure => omega
    · have hkn : ¬ (k : Int) < (ns : Int) := by omega
      obtain rfl : k = ns := by omega
      go_wp2_with fail
      go_ret
      obtain ⟨A', cap', e', q1, -, q3⟩ := own_form HI.out.1
      injection e' with e1 _ e3
      subst e1 e3
      exact ⟨A, cap, rfl, RdB.of_own HI.out.1, ⟨q1, fun h0 => by obtain ⟨g, hg, -⟩ := q3 (by omega); exact ⟨g, hg⟩⟩, HI.out.2⟩
end Go.Proofs.YthfidlhefkjpdaaGreatDoor

namespace Go.Proofs.YthfidlhefkjpdaaGreatDoor
open Go.RowKit Go.Maps

theorem below_stepI {n : Nat} {w X w' : World} (h1 : Below n w X) (h2 : Below X.heap.size X w') (hn : n ≤ w.heap.size) : Below n w w' := h1.trans (h2.mono (Nat.le_trans hn h1.size))
theorem all_piece {D : Dk} (hw : D.wf) {n i : Nat} (hn : D.sec.length = n) (hi : i < n) : (((List.range n).flatMap D.has).drop (512 * i)).take (512 * i + 512 - 512 * i) = D.has i := by
  have h1 : ∀ x ∈ (List.range n).map D.has, x.length = 512 := fun x hx => by
    obtain ⟨j, hj, rfl⟩ := List.mem_map.1 hx
    exact D.has_len hw (by rw [hn]; exact List.mem_range.1 hj)
  have h2 := flat_piece h1 (i := i) (by simpa using hi)
  rw [show 512 * i + 512 - 512 * i = 512 by omega, Nat.mul_comm 512 i]
  have e : (List.range n).flatMap D.has = flat ((List.range n).map D.has) := by simp [flat, List.flatMap]
  rw [e, h2]
  simp

set_option maxRecDepth 100000 in
set_option maxHeartbeats 2000000 in
theorem ahead_any (a : Ad) (P : Pl) (L : Lg) (D D0 : Dk) (count : Nat) (WA : Option Addr) (wc : Nat) (w : World) (h : PSt w a P L D) (hw : D.wf) (hlw : L.wf) (hn : D.sec.length = 4 + count) (hc : count ≤ 12) (hw0 : D0.wf) (hn0 : D0.sec.length = 4 + count)
    (hR : RdB w WA ((4 + count) * 512) ((List.range (4 + count)).flatMap D0.has)) 
    (hpg : ∀ N, N < count → ∃ p : Pg, p.wf ∧ pageOf (D.has (4 + N)) = some p)
    (hwal : ∀ N, N < count → D.has (4 + N) = D0.has (4 + N) ∨ ∃ p : Pg, p.wf ∧ pageOf (D.has (4 + N)) = some p ∧ p.lsn < L.lsn L.safe) :
    Calls Tryz.prog 24 #[.pointer (some ⟨a.gd, 0, none⟩), .pointer (some ⟨a.gl, 0, none⟩), .slice WA ((4 + count) * 512) wc, .int .i64 (count : Int)] w fun e w' => e = .returned (.bool false) ∧ Below w.heap.size w w' := by
  have hal := dall_any a.gd a.gs a.gm D w h.ld.disk hw
  rw [hn] at hal
  obtain ⟨M, hM⟩ : ∃ M, (4 + count) * 512 = M := ⟨_, rfl⟩
  obtain ⟨S, hS⟩ : ∃ S, L.lsn L.safe = S := ⟨_, rfl⟩
  have HH : Aside ((∀ W, Below w.heap.size w W → RdB W WA M ((List.range (4 + count)).flatMap D0.has)) ∧ (∀ W, Below w.heap.size w W → Calls Tryz.prog 38 #[.pointer (some ⟨a.gl, 0, none⟩)] W fun e w' => e = .returned (.int .i64 S) ∧ W = w') ∧
      (∀ N, N < count → (D.has (4 + N)).length = 512 ∧ (opens (D.has (4 + N)) = false ∨ ∃ p : Pg, parseP (D.has (4 + N)) = some p ∧ (p.lsn < S ∨ D.has (4 + N) = D0.has (4 + N)))) ∧
      (∀ N, N < count → (((List.range (4 + count)).flatMap D.has).drop (512 * (4 + N))).take (512 * (4 + N) + 512 - 512 * (4 + N)) = D.has (4 + N)) ∧
      (∀ N, N < count → (((List.range (4 + count)).flatMap D0.has).drop (512 * (4 + N))).take (512 * (4 + N) + 512 - 512 * (4 + N)) = D0.has (4 + N))) := by
    refine ⟨fun W hW => by rw [← hM]; exact hR.below hW, fun W hW => ?_, fun N hN => ⟨D.has_len hw (by omega), ?_⟩, fun N hN => all_piece hw hn (by omega), fun N hN => all_piece hw0 hn0 (by omega)⟩
    · rw [← hS]
      exact lsafe_any a.base a.gl a.gd a.sv a.rv L W (h.below hW).ld.log hlw
    · have key : ∀ p, pageOf (D.has (4 + N)) = some p → allZ (D.has (4 + N)) = false → parseP (D.has (4 + N)) = some p := fun p hp hz => by
        unfold pageOf at hp
        rw [hz] at hp
        exact hp
      cases hz : allZ (D.has (4 + N)) with
      | true =>
        refine .inl ?_
        have hl : (D.has (4 + N)).length = 512 := D.has_len hw (by omega)
        have e : D.has (4 + N) = zeros 512 := by
          unfold zeros
          rw [← hl]
          exact List.eq_replicate_iff.2 ⟨rfl, fun x hx => by
            have := List.all_eq_true.1 hz x hx
            simpa using this⟩
        rw [e]
        exact opens_zeros
      | false =>
        rcases hwal N hN with k | ⟨p, p1, p2, p3⟩
        · obtain ⟨p, p1, p2⟩ := hpg N hN
          exact .inr ⟨p, key p p2 hz, .inr k⟩
        · exact .inr ⟨p, key p p2 hz, .inl (by rw [← hS]; exact p3)⟩
  rw [hM] at hal
  rw [hM]
  clear h hw hlw hn hw0 hn0 hR hpg hwal hS
  go_enter Tryz.func24, Tryz.ntmps24
  go_wp2_with fail
  refine hal.mono ?_
  rintro e w1 ⟨NA, nc, rfl, hRn, ⟨hnc, -⟩, hb1⟩
  have H1 : Aside (RdB w1 NA M ((List.range (4 + count)).flatMap D.has) ∧ Below w.heap.size w w1) := ⟨hRn, hb1⟩
  clear hRn hb1 hal
  go_wp2_with fail
  go_loopg [10] count (fun q i wr => ∃ k : Nat, k + q = count ∧ i = .int .i64 ((4 + k : Nat) : Int) ∧ Hid (Below w1.heap.size w1 wr))
  case atStart => exact ⟨0, by omega, rfl, Below.refl _ _⟩
  case round =>
    obtain ⟨k, hk, rfl, hI⟩ := hrel
    obtain ⟨i, hi⟩ : ∃ i, 4 + k = i := ⟨_, rfl⟩
    rw [hi]
    by_cases hlt : k < count
    · have d1 : decide ((i : Int) < 4 + (count : Int)) = true := by simp; omega
      obtain ⟨lo, hlo⟩ : ∃ lo, 512 * i = lo := ⟨_, rfl⟩
      obtain ⟨hi2, hhi⟩ : ∃ hi2, lo + 512 = hi2 := ⟨_, rfl⟩
      have hwl : IntKind.i64.wrap (512 * (i : Int)) = (lo : Int) := by rw [wrap_nat (by omega) (by omega)]; omega
      have hwh : IntKind.i64.wrap ((lo : Int) + 512) = (hi2 : Int) := by rw [wrap_nat (by omega) (by omega)]; omega
      have hlb : lo ≤ 8192 := by omega
      have hhb : hi2 ≤ 8704 := by omega
      have hib : i ≤ 16 := by omega
      have hlin : 512 * (i : Int) = (lo : Int) := by omega
      have hhin : (lo : Int) + 512 = (hi2 : Int) := by omega
      have hpc := piece_any NA M nc lo hi2 _ wr (H1.out.1.below hI.out) (by omega) (by omega) (by omega)
      have hpe := HH.out.2.2.2.1 k hlt
      have hp0 := HH.out.2.2.2.2 k hlt
      rw [hi, hlo, hhi] at hpe hp0
      rw [hpe] at hpc
      obtain ⟨hlen, hcase⟩ := HH.out.2.2.1 k hlt
      rw [hi] at hlen hcase
      obtain ⟨B, hB⟩ : ∃ B, D.has i = B := ⟨_, rfl⟩
      rw [hB] at hpc hlen hcase hpe
      have HI : Aside (Below w1.heap.size w1 wr ∧ 4 + k = i ∧ k < count) := ⟨hI.out, hi, hlt⟩
      have hd : hi2 - lo = 512 := by omega
      rw [hd] at hpc
      have HP := hid hp0
      have HQ : Aside (lo ≤ hi2 ∧ hi2 ≤ M ∧ M ≤ 140737488355000) := ⟨by omega, by omega, by omega⟩
      clear hI hi hlt hpe hp0 hlo hhi
      go_wp2_with fail
      with_reducible refine Calls.mono hpc ?_
      rintro e w2 ⟨v2, rfl, hO2, hb2⟩
      obtain ⟨A2, c2, rfl, hc2, hc3, -⟩ := own_form hO2
      have hr2 := RdB.of_own hO2
      have S2 : Aside (RdB w2 (some ⟨0, 0, none⟩) 0 [] ∨ RdB w2 A2 512 B) := ⟨.inr hr2⟩
      have HB2 : Aside (Below w1.heap.size w1 w2) := ⟨below_stepI HI.out.1 hb2 (Nat.le_refl _)⟩
      unfold maxLen at hc3
      clear hb2 hO2 hpc
      rcases hcase with hop | ⟨p, hpp, hcc⟩
      · have hpb := parse_bad A2 c2 B w2 hr2 hc2 (by omega) hop
        clear hr2 S2
        go_wp2_with fail
        refine hpb.mono ?_
        rintro e w3 ⟨⟨er, her, rfl⟩, hb3⟩
        have HB3 : Aside (Below w1.heap.size w1 w3) := ⟨below_stepI HB2.out hb3 (Nat.le_refl _)⟩
        clear hb3 hpb
        go_wp2_with fail
        go_roundg (count - 1 - k)
        case rel => exact ⟨k + 1, by have := HI.out.2.2; omega, by have := HI.out.2.1; go_num, HB3.out⟩
        case measure => have := HI.out.2.2; omega
      · have hpo := parse_ok A2 c2 B p w2 hr2 hc2 (by omega) hpp
        have HR2 := hid hr2
        clear hr2 S2
        go_wp2_with fail
        refine hpo.mono ?_
        rintro e w3 ⟨g, rfl, hG3, hb3⟩
        have HB3 : Aside (Below w1.heap.size w1 w3 ∧ RdB w3 A2 512 B) := ⟨below_stepI HB2.out hb3 (Nat.le_refl _), HR2.out.below hb3⟩
        have hls := lsn_any w2.heap.size g p w3 hG3
        have hsf := HH.out.2.1 w3 (H1.out.2.trans (HB3.out.1.mono H1.out.2.size))
        obtain ⟨ps, hps⟩ : ∃ ps, p.lsn = ps := ⟨_, rfl⟩
        rw [hps] at hls hcc
        clear hb3 hpo hG3 hps hpp
        go_wp2_with fail
        refine hls.mono ?_
        rintro e w' ⟨rfl, rfl⟩
        go_wp2_with fail
        refine hsf.mono ?_
        rintro e w' ⟨rfl, rfl⟩
        clear hls hsf
        by_cases hge : S ≤ ps
        · have hD0 : B = D0.has i := by
            rcases hcc with h | h
            · omega
            · first | exact h | rw [← h, hB]
          have dS : decide (S ≤ ps) = true := by simpa using hge
          have hpw := piece_any WA M wc lo hi2 _ w3 (HH.out.1 w3 (H1.out.2.trans (HB3.out.1.mono H1.out.2.size))) HQ.out.1 HQ.out.2.1 HQ.out.2.2
          rw [HP.out, ← hD0, hd] at hpw
          clear hcc hge hD0 hB
          go_wp2_with fail
          refine hpw.mono ?_
          rintro e w4 ⟨v4, rfl, hO4, hb4⟩
          obtain ⟨A4, c4, rfl, -, -, -⟩ := own_form hO4
          have hsm := same_any A2 A4 512 c2 c4 B w4 (HB3.out.2.below hb4) (RdB.of_own hO4) (by omega)
          have HB4 : Aside (Below w1.heap.size w1 w4) := ⟨below_stepI HB3.out.1 hb4 (Nat.le_refl _)⟩
          clear hb4 hO4 hpw
          go_wp2_with fail
          refine hsm.mono ?_
          rintro e w5 ⟨rfl, hb5⟩
          have HB5 : Aside (Below w1.heap.size w1 w5) := ⟨below_stepI HB4.out hb5 (Nat.le_refl _)⟩
          clear hb5 hsm
          go_wp2_with fail
          go_roundg (count - 1 - k)
          case rel => exact ⟨k + 1, by have := HI.out.2.2; omega, by have := HI.out.2.1; go_num, HB5.out⟩
          case measure => have := HI.out.2.2; omega
        · have dS : decide (S ≤ ps) = false := by simpa using hge
          clear hcc hge hB
          go_wp2_with fail
          go_roundg (count - 1 - k)
          case rel => exact ⟨k + 1, by have := HI.out.2.2; omega, by have := HI.out.2.1; go_num, HB3.out.1⟩
          case measure => have := HI.out.2.2; omega
    · have d1 : decide ((i : Int) < 4 + (count : Int)) = false := by simp; omega
      have HB := hid (H1.out.2.trans (hI.out.mono H1.out.2.size))
      clear hI hlt hi
      go_wp2_with fail
      go_ret
      exact ⟨rfl, HB.out⟩
end Go.Proofs.YthfidlhefkjpdaaGreatDoor

namespace Go.Proofs.YthfidlhefkjpdaaGreatDoor
open Go.RowKit Go.Maps

theorem infoFate : (Tryz.prog.info? 76).map (fun i => (i.zero, i.size, i.bytes)) = some (some (.agg #[.int .i64 0, .int .i64 0]), 2, 16) := by kernel_rfl

set_option maxRecDepth 100000 in
theorem dsteps_any (gd gs gm : Nat) (D : Dk) (w : World) (hD : DiskAt w gd gs gm D) :
    Calls Tryz.prog 31 #[.pointer (some ⟨gd, 0, none⟩)] w fun e w' => e = .returned (.int .i64 D.steps) ∧ w = w' := by
  obtain ⟨pv, m, hB, -⟩ := hD
  have c3 := hB.cell 3
  simp only [List.getElem?_toArray, List.getElem?_cons_succ, List.getElem?_cons_zero] at c3
  clear hB
  go_enter Tryz.func31, Tryz.ntmps31
  go_wp2_with fail
  go_ret
  exact ⟨rfl, rfl⟩

set_option maxRecDepth 100000 in
theorem cloneF_one (g : Nat) (nn kd : Int) (w : World) (hg : w.heap[g]? = some (.cells #[.int .i64 nn, .int .i64 kd] 76 (0, 0))) :
    Calls Tryz.prog 74 #[.slice (some ⟨g, 0, none⟩) 1 1] w fun e w' => ∃ v, e = .returned v ∧ w'.ownsRow 0 76 2 v 1 [.int .i64 nn, .int .i64 kd] ∧ Below w.heap.size w w' := by
  have q22 : ∀ (w : World) (a : Option Addr) (n c n' c' : Nat), (binOp .eql 52 (.slice a n c) (.slice none n' c')).run Tryz.prog w = .ok (.bool a.isNone) w := fun w a n c n' c' => Lib.run_eql_slice_nil w _ _ a n c n' c' Tryz.underlying52
  have hi : (some (⟨g, 0, none⟩ : Addr) : Option Addr).isNone = false := rfl
  obtain ⟨i0, hi0, hz0, hz1, hz2⟩ := info_parts infoFate
  have HG := hid hg
  clear hg
  go_enter Tryz.func74, Tryz.ntmps74
  go_wp2_with (at_builtin
               refine wpList_append_own _ rfl _ _ 52 rfl 0 76 i0 _ 2 16 Tryz.underlying52 hi0 hz0 hz1 hz2 rfl (by decide) (.slice (some ⟨w.heap.size, 0, none⟩) 0 0) 0 [] rfl ⟨rfl, Or.inr ⟨w.heap.size, 0, #[], rfl, Nat.zero_le _, alloc_new w _, Nat.le_refl _, Nat.zero_le _, rfl, rfl⟩⟩ ⟨g, 0, none⟩ 1 1 [.int .i64 nn, .int .i64 kd] rfl rfl ?c1 (by simp [Value.oneCell']) (by unfold maxLen; omega) (by omega) (Nat.zero_le _) ?_
               (case c1 => exact news_blk (cs := #[_, _]) (t := 76) (fr := (0, 0)) ((Below.heap_alloc _ _ _ (Array.getElem?_eq_some_iff.1 HG.out).1).trans HG.out))
               intro v' w1 hown' hgrow _
               have HB : Aside (Below w.heap.size w w1) := ⟨((Below.refl _ w).alloc (Nat.le_refl _) _).grown hgrow (by simp) (by rintro k e; cases e; simp)⟩
               rw [Nat.zero_add, List.nil_append] at hown')
  go_ret
  exact ⟨v', rfl, hown', HB.out⟩

set_option maxRecDepth 100000 in
theorem dplan_one (gd gs gm g : Nat) (nn kd : Int) (D : Dk) (w : World) (hD : DiskAt w gd gs gm D) (hg : w.heap[g]? = some (.cells #[.int .i64 nn, .int .i64 kd] 76 (0, 0))) (hsm : gs ≠ gd) (hmm : gm ≠ gd) :
    Calls Tryz.prog 32 #[.pointer (some ⟨gd, 0, none⟩), .slice (some ⟨g, 0, none⟩) 1 1] w fun e w' => e = .returned (.tuple #[]) ∧ DiskAt w' gd gs gm (D.under [(nn, kd)]) ∧ Fr (· = gd) w w' := by
  have hc := cloneF_one g nn kd w hg
  have HD := hid hD
  clear hD hg
  go_enter Tryz.func32, Tryz.ntmps32
  go_wp2_with fail
  refine hc.mono ?_
  rintro e w1 ⟨v, rfl, ho, hb⟩
  obtain ⟨pv, m, hB, hS, hM, hms, hP⟩ := HD.out.below hb
  have hlt := hB.lt
  have f2 := hB.frozen 2
  have HH : Aside (Blk w1 gd 111 #[.slice (some ⟨gs, 0, none⟩) D.sec.length D.sec.length, .map (some gm), pv, .int .i64 D.steps, .bool D.off] ∧ w1.heap[gs]? = some (.cells (cellsB (flat D.sec)) 113 (0, 0)) ∧ MapAt Tryz.prog 3 w1 gm m (encP D.pend) ∧ (m : Int) ≤ D.steps ∧ w1.ownsRow 0 76 2 v 1 [.int .i64 nn, .int .i64 kd] ∧ Below w.heap.size w w1 ∧ gd < w1.heap.size) := ⟨hB, hS, hM, hms, ho, hb, hlt⟩
  have c2 := hB.cell 2
  simp only [List.getElem?_toArray, List.getElem?_cons_succ, List.getElem?_cons_zero] at c2
  obtain ⟨FA, fc, rfl⟩ : ∃ FA fc, v = .slice FA 1 fc := by
    obtain ⟨-, ⟨-, h0⟩ | ⟨g1, cap, cur, e1, -⟩⟩ := ho
    · cases h0
    · exact ⟨_, _, e1⟩
  clear hc ho hb hB hS hM hms hP
  go_wp2_with fail
  go_end0
  obtain ⟨hB, hS, hM, hms, ho, hb, hlt⟩ := HH.out
  have hF : Fr (· = gd) w1 (w1.setCell ⟨gd, 2, none⟩ (.slice FA 1 fc)) := fr_at (Fr.refl _ _) _ _
  have hgs := (Array.getElem?_eq_some_iff.1 hS).1
  refine ⟨rfl, ⟨.slice FA 1 fc, m, hB.set_ 2 _, (hF.block gs hgs hsm).trans hS, hM.block (hF.block gm hM.lt hmm), hms, ?_⟩, (Fr.of_below hb _).trans hF (fun _ _ h => h)⟩
  refine own_fr ho hF (fun b hb e => ?_)
  have e' : b = gd := e
  subst e'
  exact (own_ty ho hb).ne hB.ty (by decide)

theorem plan_st (a : Ad) (P : Pl) (L : Lg) (D : Dk) (g : Nat) (nn kd : Int) (w : World) (h : PSt w a P L D) (hg : w.heap[g]? = some (.cells #[.int .i64 nn, .int .i64 kd] 76 (0, 0))) :
    Calls Tryz.prog 32 #[.pointer (some ⟨a.gd, 0, none⟩), .slice (some ⟨g, 0, none⟩) 1 1] w fun e w' => e = .returned (.tuple #[]) ∧ PSt w' a P L (D.under [(nn, kd)]) ∧ Fr (aT a) w w' := by
  have hD := h.ld.disk
  obtain ⟨pv, m, hB, hS, hM, -⟩ := h.ld.disk
  have hsm : a.gs ≠ a.gd := fun e => by
    rw [e] at hS
    have := hB.ty
    exact (show Ty w a.gd 113 from ⟨_, _, hS⟩).ne this (by decide)
  have hmm : a.gm ≠ a.gd := fun e => by
    rw [e] at hM
    exact map_ty hM hB.ty
  refine (dplan_one a.gd a.gs a.gm g nn kd D w hD hg hsm hmm).mono ?_
  rintro e w' ⟨rfl, h1, h2⟩
  have h3 : Fr (dT a.gd a.gs a.gm) w w' := ⟨h2.os, h2.tape, h2.output, h2.size, fun b hb hn => h2.block b hb (fun e => hn (.inl e))⟩
  have h4 : Fr (aL a) w w' := ⟨h2.os, h2.tape, h2.output, h2.size, fun b hb hn => h2.block b hb (fun e => hn (.inl (.inl e)))⟩
  have := h.onLD (sv' := a.sv) (rv' := a.rv) h4 (Nx.refl _ _) (h.ld.onDisk h3 h1)
  exact ⟨rfl, this, ⟨h2.os, h2.tape, h2.output, h2.size, fun b hb hn => h2.block b hb (fun e => hn (.inl (.inl (.inl e))))⟩⟩
end Go.Proofs.YthfidlhefkjpdaaGreatDoor

namespace Go.Proofs.YthfidlhefkjpdaaGreatDoor
open Go.RowKit Go.Maps

set_option maxRecDepth 100000 in
set_option maxHeartbeats 2000000 in
theorem don_any (gd gs gm : Nat) (D : Dk) (A : Option Addr) (n c : Nat) (zs : List Int) (w : World) (hD : DiskAt w gd gs gm D) (hw : D.wf) (hoff : D.off = false) (hpend : ∀ k, D.pend k = none) (hz : RdZ w A n zs) (hn : n ≤ 17592186044416)
    (hfar : ∀ b o, 0 < n → A = some ⟨b, o, none⟩ → b ≠ gs) :
    Calls Tryz.prog 29 #[.pointer (some ⟨gd, 0, none⟩), .slice A n c] w fun e w' => e = .returned (.tuple #[]) ∧ DiskAt w' gd gs gm D ∧ Fr (fun b => b = gd ∨ (b = gs ∨ b = gm)) w w' := by
  have hset := fun W i (hW : DiskAt W gd gs gm D) hi => settle_any gd gs gm D i W hW hw hi
  have hsame : ∀ i, i < D.sec.length → D.sec.set i (D.has i) = D.sec := fun i hi => by
    unfold Dk.has
    rw [hpend]
    simp only [List.getD_eq_getElem?_getD, List.getElem?_eq_getElem hi, Option.getD_some]
    exact List.set_getElem_self hi
  obtain ⟨pv, m, hB, hS, hM, hms, hP⟩ := id hD
  have hgd := hB.lt
  have hgs := (Array.getElem?_eq_some_iff.1 hS).1
  have hgm := hM.lt
  have hmapne : ∀ b t, Ty w b t → gm ≠ b := by
    rintro b t ⟨cs, fr, h⟩ rfl
    obtain ⟨_, ⟨es, c', h1, _⟩, _⟩ := hM
    rw [h] at h1; cases h1
  have hgmd : gm ≠ gd := hmapne gd _ hB.ty
  have hgms : gm ≠ gs := hmapne gs _ ⟨_, _, hS⟩
  have hgsd : gs ≠ gd := fun e => by subst e; exact hB.ty.ne ⟨_, _, hS⟩ (by decide)
  have hPn : ∀ b, pv.ownBlock = some b → b ≠ gd ∧ b ≠ gs ∧ b ≠ gm := fun b hb =>
    ⟨fun e => by subst e; exact (own_ty hP hb).ne hB.ty (by decide), fun e => by subst e; exact (own_ty hP hb).ne ⟨_, _, hS⟩ (by decide), fun e => hmapne b _ (own_ty hP hb) e.symm⟩
  obtain ⟨ns, hns⟩ : ∃ ns, D.sec.length = ns := ⟨_, rfl⟩
  have H : Aside (DiskAt w gd gs gm D ∧ D.wf ∧ RdZ w A n zs ∧ (∀ b o, 0 < n → A = some ⟨b, o, none⟩ → b ≠ gs)) := ⟨hD, hw, hz, hfar⟩
  have HS : Aside ((∀ W i, DiskAt W gd gs gm D → i < D.sec.length → Calls Tryz.prog 73 #[.pointer (some ⟨gd, 0, none⟩), .int .i64 (i : Int)] W fun e w' => e = .returned (.tuple #[]) ∧
      w'.heap[gs]? = some (.cells (cellsB (flat (D.sec.set i (D.has i)))) 113 (0, 0)) ∧ Fr (· = gs) W w') ∧ (∀ i, i < D.sec.length → D.sec.set i (D.has i) = D.sec) ∧ D.sec.length = ns) := ⟨hset, hsame, hns⟩
  have N1 : Aside (gd < w.heap.size ∧ gs < w.heap.size ∧ gm < w.heap.size ∧ gm ≠ gd ∧ gm ≠ gs ∧ gs ≠ gd ∧ D.off = false ∧ (D.pend = fun _ => none) ∧ D.sec.length ≤ 4096) := ⟨hgd, hgs, hgm, hgmd, hgms, hgsd, hoff, funext hpend, hw.n⟩
  have same_gs : ∀ W W', DiskAt W gd gs gm D → Fr (· = gs) w W → Fr (· = gs) W W' → W'.heap[gs]? = some (.cells (cellsB (flat D.sec)) 113 (0, 0)) → DiskAt W' gd gs gm D := by
    intro W W' h1 hFw hF h2
    obtain ⟨pv', m', k1, k2, k3, k4, k5⟩ := h1
    have hz := hFw.size
    exact ⟨pv', m', k1.fr hF (fun e => hgsd e.symm), h2, k3.block (hF.block gm (by omega) hgms), k4, own_fr k5 hF (fun b hb e => by
      have e' : b = gs := e
      subst e'
      exact (own_ty k5 hb).ne (⟨_, _, k2⟩ : Ty W _ 113) (by decide))⟩
  have SG := hid same_gs
  have hnn : ns ≤ 4096 := by have := hw.n; omega
  clear hset hsame hB hS hM hms hP hD hw hz hfar hmapne hPn same_gs hns hoff hpend hgd hgs hgm hgmd hgms hgsd
  go_enter Tryz.func29, Tryz.ntmps29
  go_wp2_with fail
  go_loopg [8] n (fun q i wr => ∃ k : Nat, k + q = n ∧ i = .int .i64 (k : Nat) ∧ Hid (DiskAt wr gd gs gm D ∧ Fr (· = gs) w wr))
  case atStart => exact ⟨0, by omega, rfl, H.out.1, Fr.refl _ _⟩
  case round =>
    obtain ⟨k, hk, rfl, hI⟩ := hrel
    have HI := hid hI.out
    clear hI
    obtain ⟨pv2, m2, hB2, hS2, hM2, hms2, hP2⟩ := id HI.out.1
    have c0 := hB2.cell 0
    have c1 := hB2.cell 1
    have c4 := hB2.cell 4
    have f4 := hB2.frozen 4
    simp only [List.getElem?_toArray, List.getElem?_cons_succ, List.getElem?_cons_zero] at c0 c1 c4
    rw [HS.out.2.2] at c0
    by_cases hlt : k < n
    · have hlt2 : (k : Int) < (n : Int) := by omega
      obtain ⟨bz, oz, rfl, hbz, hcz⟩ := H.out.2.2.1.2.2 (by omega)
      have hkz : k < zs.length := by rw [H.out.2.2.1.1]; exact hlt
      obtain ⟨z, hz⟩ : ∃ z, zs[k] = z := ⟨_, rfl⟩
      have hcell : wr.cell? ⟨bz, oz + k, none⟩ = some (.int .i64 z) := by
        rw [World.cell?_of_block (w := w) (HI.out.2.block bz hbz (fun e => H.out.2.2.2 bz oz (by omega) rfl e)), ← hz]
        exact hcz k hkz
      clear hB2 hS2 hM2 hms2 hP2 hcz hbz hkz hz c1 c4 f4
      by_cases hz0 : 0 ≤ z
      · have d0 : decide ((0 : Int) ≤ z) = true := by simpa using hz0
        obtain ⟨i, rfl⟩ : ∃ i : Nat, (i : Int) = z := ⟨z.toNat, by omega⟩
        by_cases hi : i < ns
        · have d1 : decide ((i : Int) < (ns : Int)) = true := by simpa using hi
          have hc := HS.out.1 wr i HI.out.1 (by rw [HS.out.2.2]; exact hi)
          rw [HS.out.2.1 i (by rw [HS.out.2.2]; exact hi)] at hc
          go_wp2_with fail
          refine hc.mono ?_
          rintro e w2 ⟨rfl, hS2, hF2⟩
          have H2 : Aside (DiskAt w2 gd gs gm D ∧ Fr (· = gs) w w2) := ⟨SG.out wr w2 HI.out.1 HI.out.2 hF2 hS2, HI.out.2.trans hF2 (fun _ _ h => h)⟩
          clear hS2 hF2 hc hcell c0
          go_wp2_with fail
          go_roundg (n - 1 - k)
          case rel => exact ⟨k + 1, by omega, by go_num, H2.out⟩
          case measure => omega
        · have d1 : decide ((i : Int) < (ns : Int)) = false := by simpa using hi
          go_wp2_with fail
          go_roundg (n - 1 - k)
          case rel => exact ⟨k + 1, by omega, by go_num, HI.out⟩
          case measure => omega
      · have d0 : decide ((0 : Int) ≤ z) = false := by simpa using hz0
        go_wp2_with fail
        go_roundg (n - 1 - k)
        case rel => exact ⟨k + 1, by omega, by go_num, HI.out⟩
        case measure => omega
    · have hkn : ¬ (k : Int) < (n : Int) := by omega
      have HM := hid hM2
      have HB := hid hB2
      have HR : Aside (wr.heap[gs]? = some (.cells (cellsB (flat D.sec)) 113 (0, 0)) ∧ wr.ownsRow 0 76 2 pv2 D.plan.length (D.plan.flatMap encF) ∧ (m2 : Int) ≤ D.steps) := ⟨hS2, hP2, hms2⟩
      clear hB2 hS2 hM2 hms2 hP2
      go_wp2_with (refine wpList_clear (by rfl) (.tmp 30) 109 113 (by rfl) Tryz.underlying109 (by rfl) HM.out ?_
                   intro w2 hM2 hg2 hs2
                   have B2 : Aside (Blk w2 gd 111 #[.slice (some ⟨gs, 0, none⟩) D.sec.length D.sec.length, .map (some gm), pv2, .int .i64 D.steps, .bool D.off]) := ⟨HB.out.only hg2 (fun e => N1.out.2.2.2.1 (by injection e with e; exact e.symm))⟩
                   have C2 : Aside (MapAt Tryz.prog 3 w2 gm 0 (fun _ => none) ∧ wr.grownBy w2 (some gm)) := ⟨hM2, hg2⟩
                   have c42 := B2.out.cell 4
                   have f42 := B2.out.frozen 4
                   clear hM2 hg2 hs2 c0 c1 c4 f4)
      go_end0
      have hF2 : Fr (· = gm) wr w2 := Fr.of_only C2.out.2
      have hF3 : Fr (· = gd) w2 (w2.setCell ⟨gd, 4, none⟩ (.bool false)) := (Fr.refl (· = gd) w2).set (p := ⟨gd, 4, none⟩) (.inl rfl) _
      have hz1 := HI.out.2.size
      have hz2 := hF2.size
      obtain ⟨n1, n2, n3, n4, n5, n6, n7, n8, n9⟩ := N1.out
      have hS2 : w2.heap[gs]? = some (.cells (cellsB (flat D.sec)) 113 (0, 0)) := (hF2.block gs (by omega) (fun e => n5 e.symm)).trans HR.out.1
      have hR2 : w2.ownsRow 0 76 2 pv2 D.plan.length (D.plan.flatMap encF) := own_fr HR.out.2.1 hF2 (fun b hb e => by
        have e' : b = gm := e
        subst e'
        obtain ⟨_, ⟨es, c', h1, _⟩, _⟩ := HM.out
        obtain ⟨_, _, h2⟩ := own_ty HR.out.2.1 hb
        rw [h1] at h2; cases h2)
      refine ⟨rfl, ⟨pv2, 0, ?_, (hF3.block gs (by omega) n6).trans hS2, ?_, by have := H.out.2.1.s0; omega, own_fr hR2 hF3 (fun b hb e => by
        have e' : b = gd := e
        subst e'
        exact (own_ty hR2 hb).ne B2.out.ty (by decide))⟩, ?_⟩
      · have := B2.out.set_ 4 (.bool false)
        rw [n7]
        rw [n7] at this
        simpa using this
      · rw [n8]
        exact C2.out.1.block (hF3.block gm (by omega) n4)
      · exact ((HI.out.2.mono (fun b _ h => .inr (.inl h))).trans hF2 (fun b _ h => .inr (.inr h))).trans hF3 (fun b _ h => .inl h)
end Go.Proofs.YthfidlhefkjpdaaGreatDoor
