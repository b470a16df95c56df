/- slices.Repeat of one number.
   cache.Get, Pin, Unpin where nothing is refused.
   cache.Unpin, Pins. -/
import Derived.Test.YthfidlhefkjpdaaGreatDoorKb
import Derived.Test.YthfidlhefkjpdaaGreatDoorTbg
import Derived.Test.YthfidlhefkjpdaaGreatDoorTal
import Derived.Test.YthfidlhefkjpdaaGreatDoorTad
import Derived.Test.YthfidlhefkjpdaaGreatDoorTaa
import Derived.Deep.RegionLaw
import Derived.RegionTactic
import Derived.Test.YthfidlhefkjpdaaGreatDoorTbi
namespace Go.Proofs.YthfidlhefkjpdaaGreatDoor
open Go.RowKit Go.Maps

theorem mul_any (x y : Nat) (hx : x < 18446744073709551616) (hy : y < 18446744073709551616) (w : World) :
    Calls Tryz.prog 108 #[.int .u64 x, .int .u64 y] w fun e w' => e = .returned (.tuple #[.int .u64 ((x * y / 18446744073709551616 : Nat) : Int), .int .u64 ((x * y % 18446744073709551616 : Nat) : Int)]) ∧ w' = w := Any.bits_Mul Tryz.laysMul x y hx hy w

theorem infoInt : (Tryz.prog.info? 3).map (fun i => (i.zero, i.size, i.bytes)) = some (some (.int .i64 0), 1, 8) := by kernel_rfl

def repV (z : Int) (c k : Nat) : List Value := List.replicate k (.int .i64 z) ++ List.replicate (c - k) (.int .i64 0)
theorem repV_len (z : Int) {c k : Nat} (h : k ≤ c) : (repV z c k).length = c := by simp [repV]; omega
theorem repV_get (z : Int) {c k i : Nat} (h : k ≤ c) (hi : i < c) : (repV z c k)[i]? = some (if i < k then .int .i64 z else .int .i64 0) := by
  unfold repV
  by_cases hk : i < k
  · rw [if_pos hk, List.getElem?_append_left (by simp; exact hk)]
    simp [hk]
  · rw [if_neg hk, List.getElem?_append_right (by simp; omega)]
    rw [List.getElem?_replicate_of_lt (by simp; omega)]
theorem repV_splice (z : Int) {c k m : Nat} (h : k + m ≤ c) : splice (repV z c k) k (List.replicate m (Value.int .i64 z)) = repV z c (k + m) := by
  have hk : k ≤ c := by omega
  have h1 : (repV z c k).take k = List.replicate k (Value.int .i64 z) := by simp [repV]
  have h2 : (repV z c k).drop (k + m) = List.replicate (c - (k + m)) (Value.int .i64 0) := by
    rw [← List.drop_drop]
    simp [repV]
    omega
  unfold splice
  rw [h1, List.length_replicate, h2]
  unfold repV
  rw [← List.append_assoc, List.replicate_append_replicate]
theorem repV_full (z : Int) (c : Nat) : repV z c c = List.replicate c (.int .i64 z) := by simp [repV]
theorem repV_zero (z : Int) (c : Nat) : madeCells (Value.int .i64 0).cells c = (repV z c 0).toArray := by
  apply Array.ext
  · simp [madeCells, repV]
  · intro i h1 h2
    simp [madeCells, repV, Value.cells, Nat.mod_one]

theorem szInt : (Tryz.prog.info? 3).map (·.size) = some 1 := by kernel_rfl

theorem from_int (b c k : Nat) (hk : k ≤ c) (hne : ¬ c = k) (W : World) :
    (Instr.sliceAt 22 (.slice (some ⟨b, 0, none⟩) c c) (some (.int .i64 (k : Int))) none none).run Tryz.prog W = .ok (.slice (some ⟨b, k, none⟩) (c - k) (c - k)) W := by
  have h2 : (k : Int) ≤ (c : Int) := by omega
  simp [go_sem, sliced, hne, h2, Addr.add_lit]

set_option maxRecDepth 100000 in
theorem repeat_any (z : Int) (g0 c : Nat) (w : World) (hg0 : w.heap[g0]? = some (.cells #[.int .i64 z] 3 (0, 0))) (hc1 : 1 ≤ c) (hc2 : c ≤ 1099511627776) :
    Calls Tryz.prog 70 #[.slice (some ⟨g0, 0, none⟩) 1 1, .int .i64 (c : Int)] w fun e w' => e = .returned (.slice (some ⟨w.heap.size, 0, none⟩) c c) ∧
      w'.heap[w.heap.size]? = some (.cells (List.replicate c (.int .i64 z)).toArray 3 (0, 0)) ∧ Below w.heap.size w w' := by
  have hmul : Calls Tryz.prog 108 #[.int .u64 1, .int .u64 (c : Int)] w fun e w' => e = .returned (.tuple #[.int .u64 0, .int .u64 (c : Int)]) ∧ w' = w := by
    have h := mul_any 1 c (by omega) (by omega) w
    rw [Nat.one_mul, Nat.div_eq_of_lt (by omega), Nat.mod_eq_of_lt (by omega)] at h
    exact h
  have hw1 : IntKind.u64.wrap 1 = ((1 : Nat) : Int) := by decide
  have hwc : IntKind.u64.wrap (c : Int) = (c : Int) := by rw [IntKind.wrap_u64]; omega
  obtain ⟨i0, hi0, hz0, hz1, hz2⟩ := info_parts infoInt
  have hmk := fun W => run_make_two (P := Tryz.prog) 22 3 i0 (.int .i64 0) Tryz.underlying22 hi0 hz0 hz1 c c (c : Int) (c : Int) rfl rfl (Nat.le_refl _) (by rw [hz2]; omega) (by omega) W
  have hwi : IntKind.i64.wrap (c : Int) = (c : Int) := wrap_nat (by omega) (by omega)
  have hgl : g0 < w.heap.size := (Array.getElem?_eq_some_iff.1 hg0).1
  have HG := hid hg0
  clear hg0
  go_enter Tryz.func70, Tryz.ntmps70
  have d1 : decide ((c : Int) < 0) = false := by simp
  have d2 : decide ((9223372036854775807 : Int) < (c : Int)) = false := by simp; omega
  go_wp2_with fail
  refine hmul.mono ?_
  rintro e w' ⟨rfl, rfl⟩
  go_wp2_with (
    ((with_reducible refine wpList_copy_splice (o := ⟨some 33, _, _, _, _, _⟩) rfl (.tmp 31) (.tmp 32) 22 22 rfl 3 Tryz.underlying22 szInt (some ⟨w'.heap.size, 0, none⟩) (some ⟨g0, 0, none⟩) c c 1 1 rfl rfl w'.heap.size 0 (repV z c 0) 3 ?_ [.int .i64 z] ?_ ?_ ?_ ?_ w'.heap.size w' ?_ (Nat.le_refl _) ?_)
     · rw [← repV_zero]; exact alloc_new w' _
     · exact (Nat.min_eq_left hc1).symm
     · intro _
       refine ⟨rfl, ⟨g0, 0, none⟩, rfl, fun j v hj => ?_⟩
       exact news_blk (cs := #[.int .i64 z]) (t := 3) (fr := (0, 0)) ((Below.heap_alloc _ _ _ hgl).trans HG.out) j v hj
     · rw [repV_len z (by omega)]; simp; omega
     · simp [Value.oneCell']
     · exact bl_alloc (Below.refl _ _) _
     intro w1 h1 hb1
     have e1 : (goInt ([Value.int IntKind.i64 z] : List Value).length) = .int .i64 1 := rfl
     rw [e1]
     have H1 : Aside (w1.heap[w'.heap.size]? = some (.cells (repV z c 1).toArray 3 (0, 0)) ∧ Below w'.heap.size w' w1) := ⟨by have := h1.out; rw [show [Value.int IntKind.i64 z] = List.replicate 1 (Value.int .i64 z) from rfl, repV_splice z (by omega)] at this; exact this, hb1⟩
     clear h1 hb1 e1))
  go_loopg [8] (c - 1) (fun q i wr => ∃ k : Nat, k + q = c ∧ 1 ≤ k ∧ i = .int .i64 (k : Nat) ∧ Hid (wr.heap[w'.heap.size]? = some (.cells (repV z c k).toArray 3 (0, 0)) ∧ Below w'.heap.size w' wr))
  case atStart => exact ⟨1, by omega, by omega, rfl, H1.out⟩
  case round =>
    obtain ⟨k, hk, hk1, rfl, hI⟩ := hrel
    by_cases hlt : k < c
    · obtain ⟨m, hm⟩ : ∃ m, min k (c - k) = m := ⟨_, rfl⟩
      have hm1 : 1 ≤ m := by omega
      have hmk : k + m ≤ c := by omega
      have HI : Aside (wr.heap[w'.heap.size]? = some (.cells (repV z c k).toArray 3 (0, 0)) ∧ Below w'.heap.size w' wr) := ⟨hI.out⟩
      have HM : Aside (m = min k (c - k)) := ⟨hm.symm⟩
      have hi1 : (k : Int) ≤ (c : Int) := by omega
      have hfrom := from_int w'.heap.size c k (by omega) (by omega)
      have hrd : ∀ (j : Nat) (v : Value), (List.replicate m (Value.int .i64 z))[j]? = some v → wr.cell? ((⟨w'.heap.size, 0, none⟩ : Addr).add j) = some v := fun j v hj => by
        obtain ⟨hjm, e⟩ := List.getElem?_eq_some_iff.1 hj
        rw [List.length_replicate] at hjm
        rw [List.getElem_replicate] at e
        subst e
        rw [Addr.add_lit, Nat.zero_add]
        unfold World.cell?
        rw [HI.out.1]
        have := repV_get z (c := c) (k := k) (i := j) (by omega) (by omega)
        rw [if_pos (by omega)] at this
        simpa using this
      have HRD := hid hrd
      clear hrd
      have hi0 : (0 : Int) ≤ (k : Int) := by omega
      clear hI hm
      go_wp2_with fail
      go_region_law (
        ((refine step_copy_fr (o := ⟨some 45, _, _, _, _, _⟩) (by rfl) (.tmp 41) (.tmp 44) 22 22 (by rfl) 3 Tryz.underlying22 szInt (some ⟨w'.heap.size, k, none⟩) (some ⟨w'.heap.size, 0, none⟩) (c - k) (c - k) k c (by go_simp) (by go_simp) w'.heap.size k (repV z c k) 3 ?_ (List.replicate m (.int .i64 z)) ?_ ?_ ?_ ?_ ?_)
         · exact HI.out.1
         · rw [List.length_replicate, HM.out]
         · intro _
           refine ⟨rfl, ⟨w'.heap.size, 0, none⟩, rfl, fun j v hj => ?_⟩
           exact HRD.out j v hj
         · rw [repV_len z (by omega), List.length_replicate]; exact hmk
         · intro v hv
           have e := (List.mem_replicate.1 hv).2
           subst e
           rfl
         intro w3 h3 hF3
         have H3 : Aside (w3.heap[w'.heap.size]? = some (.cells (repV z c (k + m)).toArray 3 (0, 0)) ∧ Fr (· = w'.heap.size) wr w3) := ⟨by have := h3.out; rw [repV_splice z hmk] at this; exact this, (Fr.refl _ wr).drew.trans hF3 (fun _ _ h => h)⟩
         have e3 : goInt (List.replicate m (Value.int .i64 z)).length = .int .i64 (m : Int) := by rw [List.length_replicate]; rfl
         rw [e3]
         clear h3 hF3 e3))
      all_goals go_wp2_with fail
      all_goals (
        go_roundg (gk - m)
        case rel =>
          refine ⟨k + m, by omega, by omega, by rw [wrap_nat (by omega) (by omega), Int.natCast_add], H3.out.1, HI.out.2.trans (H3.out.2.below HI.out.2.size fun b e => by omega)⟩
        case measure => omega)
    · obtain rfl : k = c := by omega
      have HE : Aside (wr.heap[w'.heap.size]? = some (.cells (List.replicate k (.int .i64 z)).toArray 3 (0, 0)) ∧ Below w'.heap.size w' wr) := by rw [← repV_full]; exact ⟨hI.out⟩
      clear hI
      go_wp2_with fail
      go_ret
      exact ⟨rfl, HE.out⟩
end Go.Proofs.YthfidlhefkjpdaaGreatDoor

namespace Go.Proofs.YthfidlhefkjpdaaGreatDoor
open Go.RowKit Go.Maps

theorem PSt.lt {w : World} {a : Ad} {P : Pl} {L : Lg} {D : Dk} (h : PSt w a P L D) {b : Nat} (hb : aT a b) : b < w.heap.size := by
  rcases hb with (hb | hb) | hb
  · have h1 := h.ld.bd; have h2 := h.ld.bs; have h3 := h.ld.bm; have h4 := h.lb; have h5 := h.pool.lp; have h6 := h.pool.blk.lt
    rcases hb with rfl | rfl | rfl <;> omega
  · have hk := h.ld.log.kinds hb
    rcases hk.2 with ⟨_, _, k⟩ | ⟨_, _, k⟩ | ⟨_, _, k⟩ <;> exact (Array.getElem?_eq_some_iff.1 k).1
  · exact h.pool.lt hb
theorem pinV_upd (pins : Int → Option Int) (k x : Int) : upd (pinV pins) k (.int .i64 x) = pinV (fun j => if j = k then some x else pins j) := by
  funext j
  unfold upd pinV
  by_cases h : j = k <;> simp [h]
theorem pinV_del (pins : Int → Option Int) (k : Int) : (fun j => if j = k then none else pinV pins j) = pinV (fun j => if j = k then none else pins j) := by
  funext j
  unfold pinV
  by_cases h : j = k <;> simp [h]
/-- The map of pins is set anew. -/
theorem PSt.pinned {w w' : World} {a : Ad} {P : Pl} {L : Lg} {D : Dk} {m' : Nat} {pins' : Int → Option Int} (h : PSt w a P L D) (hm : MapAt Tryz.prog 3 w' a.gn m' (pinV pins')) (ht : w.mapTurned w' a.gn) :
    PSt w' { a with mn := m' } { P with pins := pins' } L D ∧ Fr (pT a) w w' := by
  have hF := mapTurned_fr ht
  have hFp : Fr (pT a) w w' := hF.mono fun _ _ e => .inr (.inr (.inr (.inr e)))
  have hne : ∀ b t, Ty w b t → b ≠ a.gn := fun b t hb e => by subst e; exact map_ty h.pool.pin hb
  refine ⟨h.onPool (a' := { a with mn := m' }) hFp ⟨h.pool.blk.fr hF (hne _ _ h.pool.blk.ty), own_fr h.pool.row hF (fun b hb => hne b _ (own_ty h.pool.row hb)), h.pool.blen, fun j hj => (h.pool.each j hj).fr hF ?_ (fun x hx _ _ => hne x _ hx), h.pool.nodup, h.pool.atm.block (hF.block _ h.pool.atm.lt h.pool.ne), hm, h.pool.lp, h.pool.la, h.pool.ln, h.pool.ne, fun b hb => Nat.lt_of_lt_of_le (h.pool.ol b hb) hF.size⟩, hFp⟩
  obtain ⟨_, _, q, _⟩ := h.pool.each j hj
  exact hne _ _ q.ty

set_option maxRecDepth 100000 in
theorem cget_some (a : Ad) (P : Pl) (L : Lg) (D : Dk) (N : Nat) (p : Pg) (i : Nat) (P' : Pl) (L' : Lg) (D' : Dk) (f : Frm) (q : Pg) (w : World) (h : PSt w a P L D) (ho : Ok P L D) (hw : PWf P) (hn1 : N < P.count)
    (hp : pageOf (D.has (P.base + N)) = some p) (hpw : p.wf) (hma : a.ma ≤ 1099511627776) (hlog : L.first + L.count ≤ P.base) (hr : fetchR P L D N p = some (i, P', L', D')) (hf : P'.frames[i]? = some f) (hq : f.bytes = bytesP q) (hqw : q.wf) :
    Calls Tryz.prog 25 #[.pointer (some ⟨a.gp, 0, none⟩), .int .i64 (N : Int)] w fun e w' => ∃ a' g, e = .returned (.tuple #[.pointer (some ⟨g, 0, none⟩), .int .i64 0]) ∧
      PSt w' a' P' L' D' ∧ (∃ base, PageAt w' base g q ∧ w.heap.size ≤ base ∧ ∀ b, aT a' b → b < base) ∧ Fr (aT a) w w' ∧ AdN w a a' 1 := by
  have hfe := fetch_some a P L D N p i P' L' D' w h ho hw hn1 hp hpw hma hlog hr
  have H : Aside (P'.frames[i]? = some f ∧ f.bytes = bytesP q ∧ q.wf) := ⟨hf, hq, hqw⟩
  clear h ho hw hn1 hp hpw hma hlog hr hf hq hqw
  go_enter Tryz.func25, Tryz.ntmps25
  go_wp2_with fail
  refine hfe.mono ?_
  rintro e w1 ⟨a', rfl, h1, hF1, hA1⟩
  obtain ⟨bi, hbi⟩ : ∃ bi, a'.bk.getD i 0 = bi := ⟨_, rfl⟩
  rw [hbi]
  obtain ⟨A, cap, ⟨hcap, hcm⟩, hRd, hBk⟩ := (h1.pool.frame H.out.1 hbi).cells
  have hbl : f.bytes.length = 512 := by rw [H.out.2.1]; exact bytesP_length H.out.2.2
  have k1 := hBk.cell 1
  simp [frmCells] at k1
  rw [hbl] at hRd k1 hcap
  rw [H.out.2.1] at hRd
  have H1 : Aside (PSt w1 a' P' L' D' ∧ Fr (aT a) w w1 ∧ AdN w a a' 1 ∧ RdB w1 A 512 (bytesP q) ∧ 512 ≤ cap ∧ cap ≤ maxLen) := ⟨h1, hF1, hA1, hRd, hcap, hcm⟩
  clear h1 hF1 hA1 hbi hfe hRd hBk hbl hcap hcm
  go_wp2_with fail
  refine (parse_ok A cap (bytesP q) q w1 H1.out.2.2.2.1 H1.out.2.2.2.2.1 (by have := H1.out.2.2.2.2.2; unfold maxLen at this; omega) (parse_back H.out.2.2)).mono ?_
  rintro e w2 ⟨g, rfl, hP2, hb2⟩
  have H2 : Aside (PageAt w2 w1.heap.size g q ∧ Below w1.heap.size w1 w2) := ⟨hP2, hb2⟩
  clear hP2 hb2
  go_wp2_with fail
  go_ret2
  exact ⟨a', g, rfl, H1.out.1.below H2.out.2, ⟨w1.heap.size, H2.out.1, H1.out.2.1.size, fun b hb => H1.out.1.lt hb⟩, H1.out.2.1.trans (Fr.of_below H2.out.2 (aT a)) (fun _ _ h => h), H1.out.2.2.1⟩

set_option maxRecDepth 100000 in
theorem cget_err (gp : Nat) (n e0 : Int) (w : World) (Q : World → Prop) (he : ((e0 : Int) == 0) = false) (hc : Calls Tryz.prog 49 #[.pointer (some ⟨gp, 0, none⟩), .int .i64 n] w fun e w' => e = .returned (.tuple #[.pointer none, .int .i64 e0]) ∧ Q w') :
    Calls Tryz.prog 25 #[.pointer (some ⟨gp, 0, none⟩), .int .i64 n] w fun e w' => e = .returned (.tuple #[.pointer none, .int .i64 e0]) ∧ Q w' := by
  have hne : (e0 != 0) = true := by simp [bne, he]
  go_enter Tryz.func25, Tryz.ntmps25
  go_wp2_with fail
  refine hc.mono ?_
  rintro e w1 ⟨rfl, h1⟩
  have H1 := hid h1
  clear h1 hc
  go_wp2_with fail
  go_ret2
  exact ⟨rfl, H1.out⟩

set_option maxRecDepth 100000 in
theorem cpin_err (gp : Nat) (n e0 : Int) (w : World) (Q : World → Prop) (he : ((e0 : Int) == 0) = false) (hc : Calls Tryz.prog 49 #[.pointer (some ⟨gp, 0, none⟩), .int .i64 n] w fun e w' => e = .returned (.tuple #[.pointer none, .int .i64 e0]) ∧ Q w') :
    Calls Tryz.prog 33 #[.pointer (some ⟨gp, 0, none⟩), .int .i64 n] w fun e w' => e = .returned (.int .i64 e0) ∧ Q w' := by
  have hne : (e0 != 0) = true := by simp [bne, he]
  go_enter Tryz.func33, Tryz.ntmps33
  go_wp2_with fail
  refine hc.mono ?_
  rintro e w1 ⟨rfl, h1⟩
  have H1 := hid h1
  clear h1 hc
  go_wp2_with fail
  go_ret
  exact ⟨rfl, H1.out⟩

set_option maxRecDepth 100000 in
theorem cpin_some (a : Ad) (P : Pl) (L : Lg) (D : Dk) (N : Nat) (p : Pg) (i : Nat) (P' : Pl) (L' : Lg) (D' : Dk) (w : World) (h : PSt w a P L D) (ho : Ok P L D) (hw : PWf P) (hn1 : N < P.count)
    (hp : pageOf (D.has (P.base + N)) = some p) (hpw : p.wf) (hma : a.ma ≤ 1099511627776) (hmn : a.mn ≤ 1099511627776) (hlog : L.first + L.count ≤ P.base) (hr : fetchR P L D N p = some (i, P', L', D')) (hpn : 0 ≤ (P'.pins N).getD 0 ∧ (P'.pins N).getD 0 ≤ 4398046511104) :
    Calls Tryz.prog 33 #[.pointer (some ⟨a.gp, 0, none⟩), .int .i64 (N : Int)] w fun e w' => e = .returned (.int .i64 0) ∧
      ∃ a', PSt w' a' { P' with pins := fun k => if k = (N : Int) then some ((P'.pins N).getD 0 + 1) else P'.pins k } L' D' ∧ Fr (aT a) w w' ∧ AdN w a a' 2 := by
  have hfe := fetch_some a P L D N p i P' L' D' w h ho hw hn1 hp hpw hma hlog hr
  have hnw : wf64 (N : Int) := by have := hw.count; unfold wf64; omega
  obtain ⟨n, hn⟩ : ∃ n : Int, (N : Int) = n := ⟨_, rfl⟩
  rw [hn] at hfe hnw hpn ⊢
  have H : Aside (a.mn ≤ 1099511627776 ∧ a.gn < w.heap.size) := ⟨hmn, h.pool.pin.lt⟩
  obtain ⟨px, hpx⟩ : ∃ px, (P'.pins n).getD 0 = px := ⟨_, rfl⟩
  rw [hpx] at hpn ⊢
  obtain ⟨hp0, hp1⟩ := hpn
  have HPX := hid hpx
  clear h ho hw hn1 hp hpw hma hlog hr hmn hpx hn
  go_enter Tryz.func33, Tryz.ntmps33
  go_wp2_with fail
  refine hfe.mono ?_
  rintro e w1 ⟨a', rfl, h1, hF1, hA1⟩
  have c7 := h1.pool.blk.cell 7
  simp [plCells] at c7
  rw [hA1.gp] at c7
  have hlook := pin_look h1.pool.pin n hnw w1 rfl
  rw [HPX.out] at hlook
  have HM := hid h1.pool.pin
  have hmn' : a'.mn < maxLen := by have := hA1.mn; have := H.out.1; unfold maxLen; omega
  have hpw1 : IntKind.i64.wrap (px + 1) = px + 1 := wrap_nat (by omega) (by omega)
  have H1 : Aside (PSt w1 a' P' L' D' ∧ Fr (aT a) w w1 ∧ AdN w a a' 1) := ⟨h1, hF1, hA1⟩
  clear h1 hF1 hA1 hfe
  go_wp2_with (
    (refine wpList_upd _ rfl (.tmp 19) (.tmp 20) (.tmp 22) 103 rfl 3 3 Tryz.underlying3 Tryz.underlying103 a'.gn a'.mn (pinV P'.pins) rfl HM.out hmn' n rfl hnw (.int .i64 (px + 1)) rfl ?_)
    intro w2 hm2 ht2
    have R2 : Aside (MapAt Tryz.prog 3 w2 a'.gn (a'.mn + 1) (upd (pinV P'.pins) n (.int .i64 (px + 1))) ∧ w1.mapTurned w2 a'.gn) := ⟨hm2, ht2⟩
    clear hm2 ht2)
  go_ret
  have hm2 := R2.out.1
  rw [pinV_upd] at hm2
  obtain ⟨h2, hF2⟩ := H1.out.1.pinned hm2 R2.out.2
  refine ⟨rfl, _, h2, H1.out.2.2.fr H1.out.2.1 (fr_aT2 hF2), ?_⟩
  obtain ⟨q1, q2, q3, q4, q5, q6, q7, q8, q9, q10, q11, q12, q13, q14, q15, q16⟩ := H1.out.2.2
  exact ⟨q1, q2, q3, q4, q5, q6, q7, q8, q9, q10, q11, q12, q13, by show a'.ma ≤ _; omega, by show a'.mn + 1 ≤ _; omega, q16⟩
end Go.Proofs.YthfidlhefkjpdaaGreatDoor

namespace Go.Proofs.YthfidlhefkjpdaaGreatDoor
open Go.RowKit Go.Maps

set_option maxRecDepth 100000 in
theorem cunpin_loose (a : Ad) (P : Pl) (L : Lg) (D : Dk) (n : Int) (w : World) (h : PSt w a P L D) (hn : wf64 n) (hp : (P.pins n).getD 0 = 0) :
    Calls Tryz.prog 35 #[.pointer (some ⟨a.gp, 0, none⟩), .int .i64 n] w fun e w' => e = .returned (.int .i64 101) ∧ w = w' := by
  have c7 := h.pool.blk.cell 7
  simp [plCells] at c7
  have hlook := pin_look h.pool.pin n hn w rfl
  rw [hp] at hlook
  clear h hp
  go_enter Tryz.func35, Tryz.ntmps35
  go_wp2_with fail
  go_ret
  exact ⟨rfl, rfl⟩

def unpinV (pins : Int → Option Int) (n : Int) : Int → Option Int := fun j => if j = n then (if (pins n).getD 0 = 1 then none else some ((pins n).getD 0 - 1)) else pins j

set_option maxRecDepth 100000 in
theorem cunpin_some (a : Ad) (P : Pl) (L : Lg) (D : Dk) (n : Int) (w : World) (h : PSt w a P L D) (hn : wf64 n) (hp : 1 ≤ (P.pins n).getD 0) (hp2 : (P.pins n).getD 0 ≤ 4398046511104) (hmn : a.mn ≤ 1099511627776) :
    Calls Tryz.prog 35 #[.pointer (some ⟨a.gp, 0, none⟩), .int .i64 n] w fun e w' => e = .returned (.int .i64 0) ∧
      PSt w' { a with mn := a.mn + 1 } { P with pins := unpinV P.pins n } L D ∧ Fr (pT a) w w' := by
  have c7 := h.pool.blk.cell 7
  simp [plCells] at c7
  have hlook := pin_look h.pool.pin n hn w rfl
  obtain ⟨px, hpx⟩ : ∃ px, (P.pins n).getD 0 = px := ⟨_, rfl⟩
  rw [hpx] at hlook hp hp2
  have hnz : ((px : Int) == 0) = false := by simp; omega
  have hpw1 : IntKind.i64.wrap (px - 1) = px - 1 := wrap_nat (by omega) (by omega)
  have hmn' : a.mn < maxLen := by unfold maxLen; omega
  have HM := hid h.pool.pin
  have H : Aside (PSt w a P L D ∧ (P.pins n).getD 0 = px) := ⟨h, hpx⟩
  clear h hpx
  by_cases h1 : px = 1
  · have hz : ((px - 1 : Int) == 0) = true := by simp; omega
    have H1 := hid h1
    clear h1
    go_enter Tryz.func35, Tryz.ntmps35
    go_wp2_with (
      (refine wpList_upd _ rfl (.tmp 15) (.tmp 16) (.tmp 18) 103 rfl 3 3 Tryz.underlying3 Tryz.underlying103 a.gn a.mn (pinV P.pins) rfl HM.out hmn' n rfl hn (.int .i64 (px - 1)) rfl ?_)
      intro w2 hm2 ht2
      have hm2' := hm2
      rw [pinV_upd] at hm2'
      obtain ⟨hS2, hF2⟩ := H.out.1.pinned hm2' ht2
      have d7 := hS2.pool.blk.cell 7
      simp [plCells] at d7
      have hlk2 := pin_look hS2.pool.pin n hn w2 rfl
      simp only [if_true, Option.getD_some] at hlk2
      obtain ⟨w3, hdel, hm3, ht3⟩ := hS2.pool.pin.drop (t := 103) (e := 3) Tryz.underlying3 Tryz.underlying103 hn 0
      have R2 : Aside (PSt w2 { a with mn := a.mn + 1 } { P with pins := fun j => if j = n then some (px - 1) else P.pins j } L D ∧ Fr (pT a) w w2 ∧ MapAt Tryz.prog 3 w3 a.gn (a.mn + 1) (fun j => if j = n then none else pinV (fun j => if j = n then some (px - 1) else P.pins j) j) ∧ w2.mapTurned w3 a.gn) := ⟨hS2, hF2, hm3, ht3⟩
      clear hm2 ht2 hm2' hS2 hF2 hm3 ht3)
    go_ret
    have hm3 := R2.out.2.2.1
    rw [pinV_del] at hm3
    obtain ⟨h3, hF3⟩ := R2.out.1.pinned (m' := a.mn + 1) hm3 R2.out.2.2.2
    refine ⟨rfl, ?_, fr_same R2.out.2.1 hF3⟩
    have e : unpinV P.pins n = (fun j => if j = n then none else (fun j => if j = n then some (px - 1) else P.pins j) j) := by
      funext j
      unfold unpinV
      by_cases hj : j = n
      · simp [hj, H.out.2, H1.out]
      · simp [hj]
    rw [e]
    exact h3
  · have hz : ((px - 1 : Int) == 0) = false := by simp; omega
    have H1 := hid h1
    clear h1
    go_enter Tryz.func35, Tryz.ntmps35
    go_wp2_with (
      (refine wpList_upd _ rfl (.tmp 15) (.tmp 16) (.tmp 18) 103 rfl 3 3 Tryz.underlying3 Tryz.underlying103 a.gn a.mn (pinV P.pins) rfl HM.out hmn' n rfl hn (.int .i64 (px - 1)) rfl ?_)
      intro w2 hm2 ht2
      have hm2' := hm2
      rw [pinV_upd] at hm2'
      obtain ⟨hS2, hF2⟩ := H.out.1.pinned hm2' ht2
      have d7 := hS2.pool.blk.cell 7
      simp [plCells] at d7
      have hlk2 := pin_look hS2.pool.pin n hn w2 rfl
      simp only [if_true, Option.getD_some] at hlk2
      have R2 : Aside (PSt w2 { a with mn := a.mn + 1 } { P with pins := fun j => if j = n then some (px - 1) else P.pins j } L D ∧ Fr (pT a) w w2) := ⟨hS2, hF2⟩
      clear hm2 ht2 hm2' hS2 hF2)
    go_ret
    refine ⟨rfl, ?_, R2.out.2⟩
    have e : unpinV P.pins n = (fun j => if j = n then some (px - 1) else P.pins j) := by
      funext j
      unfold unpinV
      by_cases hj : j = n
      · simp [hj, H.out.2, H1.out]
      · simp [hj]
    rw [e]
    exact R2.out.1

theorem wpList_app_ints {ops : Array Oper} {rest : List Oper} {o : Oper} {a : Act} {Q : Exit → Act → World → Prop} {W : World} (hgd : o.guard = none) (s x : Operand)
    (ho : o.op = .call { callee := .builtin .append, args := #[s, x], argTypes := #[22, 22] }) (base : Nat) (v : Value) (zs ys : List Int) (g n c : Nat) (hs : a.eval s = v)
    (hO : W.ownsRow base 3 1 v zs.length (zs.map (Value.int .i64))) (hx : a.eval x = .slice (some ⟨g, 0, none⟩) n c) (hn : ys.length = n) (hg : W.heap[g]? = some (.cells (ys.map (Value.int .i64)).toArray 3 (0, 0))) (hl : zs.length + n ≤ 2199023255552) (hb : base ≤ W.heap.size)
    (h : ∀ v' w', w'.ownsRow base 3 1 v' (zs ++ ys).length ((zs ++ ys).map (Value.int .i64)) → W.grownBy w' v.ownBlock → wpList Tryz.prog ops Q rest (a.put o.dst v') w') : wpList Tryz.prog ops Q (o :: rest) a W := by
  obtain ⟨i0, hi, hz0, hz1, hz2⟩ := info_parts infoInt
  refine wpList_append_own_at W hgd s x 22 ho base 3 i0 (.int .i64 0) 1 8 Tryz.underlying22 hi hz0 hz1 hz2 rfl (by decide) v zs.length _ hs hO ⟨g, 0, none⟩ n c (ys.map (Value.int .i64)) hx (by rw [List.length_map, hn, Nat.mul_one])
    (fun j u hj => ?_) (fun u hu => ?_) (by unfold maxLen; omega) (by omega) hb (fun v' w' hown hgr _ _ => ?_)
  · exact World.news_of_block (cs := (ys.map (Value.int .i64)).toArray) hg j u (by simpa using hj)
  · obtain ⟨y, _, rfl⟩ := List.mem_map.1 hu
    rfl
  · exact h _ _ (by rw [List.length_append, List.map_append, hn]; exact hown) hgr

/-- What Pins tells. -/
def pinsL (pins : Int → Option Int) (ks : List Int) : List Int := ks.flatMap fun k => List.replicate ((pins k).getD 0).toNat k

theorem keys_pin {pins : Int → Option Int} {ks : List Int} (h : KeysOf (pinV pins) ks) : KeysOf pins ks := ⟨h.1, fun k => by rw [h.2 k]; unfold pinV; cases pins k <;> rfl⟩

set_option maxRecDepth 100000 in
set_option maxHeartbeats 2000000 in
theorem cpins_any (a : Ad) (P : Pl) (L : Lg) (D : Dk) (w : World) (h : PSt w a P L D) (hmn : a.mn ≤ 1099511627776) (hwf : ∀ k, (P.pins k).isSome = true → wf64 k ∧ 1 ≤ (P.pins k).getD 0 ∧ (P.pins k).getD 0 ≤ 1099511627776)
    (hlen : ∀ ks, KeysOf P.pins ks → ks.length ≤ 4096 ∧ (pinsL P.pins ks).length ≤ 1099511627776) :
    Calls Tryz.prog 22 #[.pointer (some ⟨a.gp, 0, none⟩)] w fun e w' => ∃ v ks, e = .returned v ∧ KeysOf P.pins ks ∧
      w'.ownsRow w.heap.size 3 1 v (pinsL P.pins ks).length ((pinsL P.pins ks).map (Value.int .i64)) ∧ Below w.heap.size w w' := by
  have c7 := h.pool.blk.cell 7
  simp [plCells] at c7
  have hgp := h.pool.blk.lt
  have H : Aside (PSt w a P L D ∧ a.mn ≤ 1099511627776 ∧ (∀ k, (P.pins k).isSome = true → wf64 k ∧ 1 ≤ (P.pins k).getD 0 ∧ (P.pins k).getD 0 ≤ 1099511627776) ∧ (∀ ks, KeysOf P.pins ks → ks.length ≤ 4096 ∧ (pinsL P.pins ks).length ≤ 1099511627776)) := ⟨h, hmn, hwf, hlen⟩
  clear h hmn hwf hlen
  go_enter Tryz.func22, Tryz.ntmps22
  go_wp2_with fail
  refine (keysP_any a.gn w).mono ?_
  rintro e w' ⟨rfl, rfl⟩
  go_wp2_with fail
  refine (sortedP_any a.gn a.mn (pinV P.pins) w H.out.1.pool.pin H.out.2.1).mono ?_
  rintro e w2 ⟨v, ks, rfl, hk, hown, hb⟩
  obtain ⟨A, cap, rfl, hcap, hcm, hA⟩ := own_form hown
  obtain ⟨n, hn⟩ : ∃ n, ks.length = n := ⟨_, rfl⟩
  have hl2 := H.out.2.2.2 ks (keys_pin hk)
  have hn64 : n ≤ 4096 := by rw [← hn]; exact hl2.1
  rw [hn] at hown
  rw [hn]
  have hb2 : Below w.heap.size w w2 := (bl_alloc (Below.refl _ _) _).trans (hb.mono (by omega))
  have H2 : Aside (KeysOf P.pins ks ∧ w2.ownsRow (w.heap.size + 1) 3 1 (.slice A n cap) n (ks.map (Value.int .i64)) ∧ Below w.heap.size w w2 ∧ ks.length = n ∧ (pinsL P.pins ks).length ≤ 1099511627776) := ⟨keys_pin hk, hown, hb2, hn, hl2.2⟩
  clear hk hown hb hA hb2 hcap hcm hn c7 hl2
  go_wp2_with fail
  go_loopg [3, 13] n (fun q o i wr => ∃ k : Nat, k + q = n ∧ i = .int .i64 (k : Nat) ∧ Hid (wr.ownsRow w2.heap.size 3 1 o (pinsL P.pins (ks.take k)).length ((pinsL P.pins (ks.take k)).map (Value.int .i64)) ∧ Below w.heap.size w wr ∧ w2.heap.size ≤ wr.heap.size ∧ wr.ownsRow (w.heap.size + 1) 3 1 (.slice A n cap) n (ks.map (Value.int .i64))))
  case atStart => exact ⟨0, by omega, rfl, World.ownsRow_nil _ _ _ _, H2.out.2.2.1, Nat.le_refl _, H2.out.2.1⟩
  case round =>
    obtain ⟨k, hk, rfl, hI⟩ := hrel
    by_cases hlt : k < n
    · obtain ⟨hO, hB, hz, hR⟩ := hI.out
      obtain ⟨A', c', e', -, -, hA⟩ := own_form hR
      injection e' with e1 e2 e3
      subst e1
      subst e3
      obtain ⟨g, rfl, hg1, hg2, -⟩ := hA (by omega)
      have hgw2 : g < w2.heap.size := (H2.out.2.1.lt g rfl).2
      have hkl : k < ks.length := by rw [H2.out.2.2.2.1]; exact hlt
      obtain ⟨K, hK⟩ : ∃ K, ks[k] = K := ⟨_, rfl⟩
      have hcell : wr.cell? ⟨g, k, none⟩ = some (.int .i64 K) := by rw [← hK]; exact ints_row hR rfl hkl
      have hKs := H.out.2.2.1 K ((H2.out.1.2 K).1 (by rw [← hK]; exact List.getElem_mem hkl))
      have hPr := H.out.1.below hB
      have c7 := hPr.pool.blk.cell 7
      simp [plCells] at c7
      obtain ⟨hKw, hx1, hx2⟩ := hKs
      have hlook := pin_look hPr.pool.pin K hKw (wr.alloc (.cells #[.int .i64 K] 3)) (Below.heap_alloc _ _ _ (by have := hPr.pool.pin.lt; omega))
      have hsn : pinsL P.pins (ks.take (k + 1)) = pinsL P.pins (ks.take k) ++ List.replicate ((P.pins K).getD 0).toNat K := by
        rw [List.take_succ_eq_append_getElem hkl, hK]
        simp [pinsL]
      have hle : (pinsL P.pins (ks.take (k + 1))).length ≤ 1099511627776 := by
        have e : pinsL P.pins ks = pinsL P.pins (ks.take (k + 1)) ++ pinsL P.pins (ks.drop (k + 1)) := by
          unfold pinsL
          rw [← List.flatMap_append, List.take_append_drop]
        have := H2.out.2.2.2.2
        rw [e, List.length_append] at this
        omega
      obtain ⟨c, hc⟩ : ∃ c : Nat, (P.pins K).getD 0 = (c : Int) := ⟨((P.pins K).getD 0).toNat, by omega⟩
      rw [hc] at hlook hx1 hx2 hsn
      rw [Int.toNat_natCast] at hsn
      obtain ⟨zs, hzs⟩ : ∃ zs, pinsL P.pins (ks.take k) = zs := ⟨_, rfl⟩
      rw [hzs] at hO hsn
      rw [hsn, List.length_append, List.length_replicate] at hle
      have hrep := repeat_any K wr.heap.size c (wr.alloc (.cells #[.int .i64 K] 3)) (alloc_new wr _) (by omega) (by omega)
      obtain ⟨oA, oc, rfl, -, -, -⟩ := own_form hO
      have HR : Aside (wr.ownsRow w2.heap.size 3 1 (.slice oA zs.length oc) zs.length (zs.map (Value.int .i64)) ∧ Below w.heap.size w wr ∧ wr.ownsRow (w.heap.size + 1) 3 1 (.slice (some ⟨g, 0, none⟩) n cap) n (ks.map (Value.int .i64)) ∧ pinsL P.pins (ks.take (k + 1)) = zs ++ List.replicate c K) := ⟨hO, hB, hR, hsn⟩
      have hsz := hB.size
      have c7a := (cell?_keep_alloc wr a.gp 7 (by omega) (.cells #[.int .i64 K] 3)).trans c7
      clear hI hO hB hR hA hPr hsn hzs hK hkl hc
      go_wp2_with fail
      refine hrep.mono ?_
      rintro e w3 ⟨rfl, hB3, hb3⟩
      rw [World.size_alloc] at hB3 hb3 ⊢
      have hb3' : Below wr.heap.size wr w3 := (bl_alloc (Below.refl _ _) _).trans (hb3.mono (by omega))
      have R3 : Aside (w3.heap[wr.heap.size + 1]? = some (.cells ((List.replicate c K).map (Value.int .i64)).toArray 3 (0, 0)) ∧ Below wr.heap.size wr w3) := ⟨by rw [List.map_replicate]; exact hB3, hb3'⟩
      clear hB3 hb3 hb3' hrep
      go_wp2_with (
        (at_builtin
         refine wpList_app_ints rfl (.tmp 17) (.tmp 26) rfl w2.heap.size (.slice oA zs.length oc) zs (List.replicate c K) (wr.heap.size + 1) c c rfl (own_fr HR.out.1 (Fr.of_below R3.out.2 (fun _ => False)) (fun _ _ h => h)) rfl (by simp) R3.out.1 (by omega) (by have := R3.out.2.size; omega) ?_
         intro v' w4 hO4 hg4
         have R4 : Aside (w4.ownsRow w2.heap.size 3 1 v' (zs ++ List.replicate c K).length ((zs ++ List.replicate c K).map (Value.int .i64)) ∧ w3.grownBy w4 (Value.slice oA zs.length oc).ownBlock) := ⟨hO4, hg4⟩
         clear hO4 hg4))
      go_roundg (n - 1 - k)
      case rel =>
        have hF : Fr (fun b => (Value.slice oA zs.length oc).ownBlock = some b) wr w4 := (Fr.of_below R3.out.2 _).trans ⟨R4.out.2.os, R4.out.2.tape, R4.out.2.output, R4.out.2.size, fun b hb hn => R4.out.2.block b hb (fun e => hn e.symm)⟩ (fun _ _ h => h)
        refine ⟨k + 1, by omega, by go_num, ?_⟩
        rw [HR.out.2.2.2]
        refine ⟨R4.out.1, ?_, Nat.le_trans hz hF.size, ?_⟩
        · exact HR.out.2.1.trans (hF.below hsz fun b hb => by have := (HR.out.1.lt b hb).1; have := H2.out.2.2.1.size; omega)
        · exact own_fr HR.out.2.2.1 hF fun b hb e => by
            have h1 := (HR.out.1.lt b e).1
            have h2 : g = b := by injection hb
            omega
      case measure => omega
    · obtain rfl : k = n := by omega
      obtain ⟨hO, hB, -, hR⟩ := hI.out
      rw [List.take_of_length_le (by rw [H2.out.2.2.2.1]; omega)] at hO
      obtain ⟨oA, oc, rfl, -, -, -⟩ := own_form hO
      have HO : Aside (wr.ownsRow w.heap.size 3 1 (.slice oA (pinsL P.pins ks).length oc) (pinsL P.pins ks).length ((pinsL P.pins ks).map (Value.int .i64)) ∧ Below w.heap.size w wr) := ⟨own_mono hO H2.out.2.2.1.size, hB⟩
      clear hI hO hB hR
      go_wp2_with fail
      go_ret
      exact ⟨_, ks, rfl, H2.out.1, HO.out⟩
end Go.Proofs.YthfidlhefkjpdaaGreatDoor
