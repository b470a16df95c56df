/- cache.victim. -/
import Derived.Test.YthfidlhefkjpdaaGreatDoorTaw
namespace Go.Proofs.YthfidlhefkjpdaaGreatDoor
open Go.RowKit

def vict (pins : Int → Option Int) : Nat → List Frm → Nat → Option Nat × List Frm × Nat
  | 0, fs, h => (none, fs, h)
  | k + 1, fs, h => match fs[h]? with
    | none => (none, fs, h)
    | some f =>
      if 0 < (pins f.n).getD 0 then vict pins k fs ((h + 1) % fs.length)
      else if f.used = true then vict pins k (fs.set h { f with used := false }) ((h + 1) % fs.length)
      else (some h, fs, (h + 1) % fs.length)

theorem pin_look {w : World} {b n : Nat} {pins : Int → Option Int} (h : MapAt Tryz.prog 3 w b n (pinV pins)) (k : Int) (hk : wf64 k) (W : World) (hW : W.heap[b]? = w.heap[b]?) :
    (Instr.lookup 103 (.map (some b)) (.int .i64 k) false).run Tryz.prog W = .ok (.int .i64 ((pins k).getD 0)) W := by
  have := (h.block hW).look (t := 103) (e := 3) Tryz.underlying3 Tryz.underlying103 (z := .int .i64 0) (by kernel_rfl) hk
  rw [this]
  unfold pinV
  cases pins k <;> rfl

theorem PoolAt.ptr {w : World} {a : Ad} {P : Pl} (h : PoolAt w a P) {gf n fcap : Nat} (hfv : a.fv = .slice (some ⟨gf, 0, none⟩) n fcap) (hn : P.frames.length = n) (i : Nat) (hi : i < n) :
    w.cell? ⟨gf, i, none⟩ = some (.pointer (some ⟨a.bk.getD i 0, 0, none⟩)) := by
  have hr := h.row
  rw [hfv] at hr
  obtain ⟨A', cap', e', -, -, hA⟩ := own_form hr
  injection e' with e1 e2 e3
  obtain ⟨g', e4, _, _, hc⟩ := hA (by omega)
  rw [← e1] at e4
  injection e4 with e4
  injection e4 with e4
  subst e4
  rw [hc i (by omega)]
  have hbl : i < a.bk.length := by rw [h.blen, hn]; exact hi
  simp only [ptrs, List.getElem?_map, List.getElem?_eq_getElem hbl, Option.map_some]
  rw [List.getD_eq_getElem?_getD, List.getElem?_eq_getElem hbl]
  rfl
theorem PoolAt.frame {w : World} {a : Ad} {P : Pl} (h : PoolAt w a P) {i : Nat} {f : Frm} {bi : Nat} (hi : P.frames[i]? = some f) (hb : a.bk.getD i 0 = bi) : FrmAt w a.pb a.sv a.ov bi f := by
  obtain ⟨hl, e⟩ := List.getElem?_eq_some_iff.1 hi
  have := h.each i hl
  rw [e, hb] at this
  exact this

set_option maxRecDepth 100000 in
set_option maxHeartbeats 2000000 in
theorem cvictim_any (a : Ad) (P : Pl) (L : Lg) (D : Dk) (n : Nat) (w : World) (h : PSt w a P L D) (hn : P.frames.length = n) (hn0 : 0 < n) (hn1 : n ≤ 64) (hh : P.hand < n) (hwf : ∀ f ∈ P.frames, wf64 f.n) :
    Calls Tryz.prog 127 #[.pointer (some ⟨a.gp, 0, none⟩)] w fun e w' => e = .returned (match (vict P.pins (2 * n) P.frames P.hand).1 with | none => .pointer none | some i => .pointer (some ⟨a.bk.getD i 0, 0, none⟩)) ∧
      PSt w' a { P with frames := (vict P.pins (2 * n) P.frames P.hand).2.1, hand := (vict P.pins (2 * n) P.frames P.hand).2.2 } L D ∧ Fr (pT a) w w' := by
  obtain ⟨R, hR⟩ : ∃ R, vict P.pins (2 * n) P.frames P.hand = R := ⟨_, rfl⟩
  rw [hR]
  obtain ⟨rvl, hrvl⟩ : ∃ rvl : Value, (match R.1 with | none => .pointer none | some i => .pointer (some ⟨a.bk.getD i 0, 0, none⟩)) = rvl := ⟨_, rfl⟩
  rw [hrvl]
  have HRV := hid hrvl
  obtain ⟨fA, fcap, hfv, hfc, hfm, hfr⟩ := own_form h.pool.row
  obtain ⟨gf, rfl, hgf1, hgf2, -⟩ := hfr (by omega)
  rw [hn] at hfv hfc
  have H : Aside (PSt w a P L D ∧ P.frames.length = n ∧ a.fv = .slice (some ⟨gf, 0, none⟩) n fcap ∧ (∀ f ∈ P.frames, wf64 f.n)) := ⟨h, hn, hfv, hwf⟩
  have c5 := h.pool.blk.cell 5
  simp [plCells] at c5
  rw [hfv] at c5
  have h2n : IntKind.i64.wrap (2 * (n : Int)) = ((2 * n : Nat) : Int) := by rw [wrap_nat (by omega) (by omega)]; omega
  obtain ⟨N2, hN2⟩ : ∃ N2, 2 * n = N2 := ⟨_, rfl⟩
  rw [hN2] at hR h2n
  have HR := hid hR
  have hN2l : N2 ≤ 128 := by omega
  clear h hn hfv hwf hR hrvl hfr hN2
  go_enter Tryz.func127, Tryz.ntmps127
  go_wp2_with fail
  go_loopg [10] N2 (fun q i wr => ∃ k : Nat, k + q = N2 ∧ i = .int .i64 (k : Nat) ∧ Hid (∃ fs hd, PSt wr a { P with frames := fs, hand := hd } L D ∧ hd < n ∧ fs.length = n ∧ (∀ f ∈ fs, wf64 f.n) ∧ vict P.pins q fs hd = R ∧ Fr (pT a) w wr))
  case atStart => exact ⟨0, by omega, rfl, P.frames, P.hand, H.out.1, hh, H.out.2.1, H.out.2.2.2, HR.out, Fr.refl _ _⟩
  case round =>
    obtain ⟨k, hk, rfl, hI⟩ := hrel
    by_cases hlt : k < N2
    · obtain ⟨q, rfl⟩ : ∃ q, gk = q + 1 := ⟨gk - 1, by omega⟩
      obtain ⟨fs, hd, hP, hhd, hfl, hfw, hv, hF⟩ := hI.out
      have c5 := hP.pool.blk.cell 5
      have c8 := hP.pool.blk.cell 8
      have c7 := hP.pool.blk.cell 7
      have f8 := hP.pool.blk.frozen 8
      simp [plCells] at c5 c8 c7
      rw [H.out.2.2.1] at c5
      obtain ⟨f, hfi⟩ : ∃ f, fs[hd]? = some f := ⟨_, List.getElem?_eq_getElem (by omega)⟩
      obtain ⟨bi, hbi⟩ : ∃ bi, a.bk.getD hd 0 = bi := ⟨_, rfl⟩
      have hrow : wr.cell? ⟨gf, hd, none⟩ = some (.pointer (some ⟨bi, 0, none⟩)) := by
        rw [← hbi]; exact hP.pool.ptr H.out.2.2.1 hfl hd hhd
      have hFa : FrmAt wr a.pb a.sv a.ov bi f := hP.pool.frame hfi hbi
      obtain ⟨_, _, _, _, hBk⟩ := hFa.cells
      have k0 := hBk.cell 0
      have k5 := hBk.cell 5
      have y5 := hBk.frozen 5
      simp [frmCells] at k0 k5
      have HI : Aside (PSt wr a { P with frames := fs, hand := hd } L D ∧ hd < n ∧ fs.length = n ∧ (∀ f ∈ fs, wf64 f.n) ∧ vict P.pins (q + 1) fs hd = R ∧ Fr (pT a) w wr ∧ fs[hd]? = some f ∧ a.bk.getD hd 0 = bi) := ⟨hP, hhd, hfl, hfw, hv, hF, hfi, hbi⟩
      clear hI hP hfl hfw hv hF hfi hbi hFa hBk
      go_wp2_with fail
      go_region_held3 (fun w' => w'.cell? ⟨a.gp, 5, none⟩ = some (.slice (some ⟨gf, 0, none⟩) n fcap) ∧ w'.cell? ⟨a.gp, 8, none⟩ = some (.int .i64 (hd : Int)) ∧ w'.cell? ⟨gf, hd, none⟩ = some (.pointer (some ⟨bi, 0, none⟩))) (exact ⟨c5, c8, hrow⟩) (fail)
      obtain ⟨w1, hw1⟩ : ∃ w1, wr.drew = w1 := ⟨_, rfl⟩
      have HI1 : Aside (PSt w1 a { P with frames := fs, hand := hd } L D ∧ Fr (pT a) w w1) := by
        rw [← hw1]; exact ⟨HI.out.1.below (bl_drew (Below.refl _ _)), HI.out.2.2.2.2.2.1.drew⟩
      replace c5 : w1.cell? ⟨a.gp, 5, none⟩ = some (.slice (some ⟨gf, 0, none⟩) n fcap) := by rw [← hw1]; exact c5
      replace c8 : w1.cell? ⟨a.gp, 8, none⟩ = some (.int .i64 (hd : Int)) := by rw [← hw1]; exact c8
      replace f8 : w1.frozen? ⟨a.gp, 8, none⟩ = false := by rw [← hw1]; exact f8
      have hd1w : IntKind.i64.wrap ((hd : Int) + 1) = ((hd + 1 : Nat) : Int) := by rw [wrap_nat (by omega) (by omega)]; omega
      have hremI : Int.tmod ((hd + 1 : Nat) : Int) (n : Int) = (((hd + 1) % n : Nat) : Int) := by rw [Int.tmod_eq_emod_of_nonneg (by omega)]; omega
      have hrw : IntKind.i64.wrap (((hd + 1) % n : Nat) : Int) = (((hd + 1) % n : Nat) : Int) := by
        have := Nat.mod_lt (hd + 1) hn0
        exact wrap_nat (by omega) (by omega)
      obtain ⟨h1, hh1⟩ : ∃ h1, (hd + 1) % n = h1 := ⟨_, rfl⟩
      obtain ⟨e1, he1⟩ : ∃ e1, hd + 1 = e1 := ⟨_, rfl⟩
      rw [hh1] at hremI hrw
      rw [he1] at hd1w hremI
      have HH : Aside ((hd + 1) % n = h1 ∧ h1 < n) := ⟨hh1, by rw [← hh1]; exact Nat.mod_lt _ hn0⟩
      have hnz : ((n : Int) == 0) = false := by simp; omega
      have hnz3 : ¬ n = 0 := by omega
      rw [hw1]
      clear hw1 hh1 he1 hrow c7
      go_wp2_with fail
      have c5d : w1.drew.cell? ⟨a.gp, 5, none⟩ = some (.slice (some ⟨gf, 0, none⟩) n fcap) := c5
      have c8d : w1.drew.cell? ⟨a.gp, 8, none⟩ = some (.int .i64 (hd : Int)) := c8
      have f8d : w1.drew.frozen? ⟨a.gp, 8, none⟩ = false := f8
      go_region_law (fail)
      all_goals go_wp2_with fail
      all_goals
        obtain ⟨w2, hw2⟩ : ∃ w2, (w1.setCell ⟨a.gp, 8, none⟩ (.int .i64 (h1 : Int))).drew = w2 := ⟨_, rfl⟩
        obtain ⟨hp2, hF2⟩ := HI1.out.1.pool.setCell_ (P' := { P with frames := fs, hand := h1 }) 8 (.int .i64 (h1 : Int)) (by simp [plCells]) rfl rfl rfl
        have hPS2 : PSt w2 a { P with frames := fs, hand := h1 } L D := by rw [← hw2]; exact (HI1.out.1.onPool0 (fr_gp hF2) hp2).below (bl_drew (Below.refl _ _))
        have hFr2 : Fr (pT a) w w2 := by rw [← hw2]; exact (fr_same HI1.out.2 (fr_gp hF2)).drew
        rw [hw2]
        clear hw2 hp2 hF2
        have c7 := hPS2.pool.blk.cell 7
        simp [plCells] at c7
        have hFa : FrmAt w2 a.pb a.sv a.ov bi f := hPS2.pool.frame HI.out.2.2.2.2.2.2.1 HI.out.2.2.2.2.2.2.2
        obtain ⟨_, _, _, _, hBk⟩ := hFa.cells
        have k0' := hBk.cell 0
        have k5' := hBk.cell 5
        have y5' := hBk.frozen 5
        simp [frmCells] at k0' k5'
        have hfm : f ∈ fs := List.mem_of_getElem? HI.out.2.2.2.2.2.2.1
        have hlook := pin_look hPS2.pool.pin f.n (HI.out.2.2.2.1 f hfm) w2.drew rfl
        obtain ⟨px, hpx⟩ : ∃ px, (P.pins f.n).getD 0 = px := ⟨_, rfl⟩
        have hlook' : (Instr.lookup 103 (.map (some a.gn)) (.int .i64 f.n) false).run Tryz.prog w2.drew = .ok (.int .i64 px) w2.drew := by rw [← hpx]; exact hlook
        obtain ⟨fn, hfn⟩ : ∃ fn, f.n = fn := ⟨_, rfl⟩
        obtain ⟨fu, hfu⟩ : ∃ fu, f.used = fu := ⟨_, rfl⟩
        rw [hfn] at k0' hlook' hpx
        rw [hfu] at k5'
        have H2 : Aside (PSt w2 a { P with frames := fs, hand := h1 } L D ∧ Fr (pT a) w w2 ∧ f.n = fn ∧ f.used = fu ∧ (P.pins fn).getD 0 = px) := ⟨hPS2, hFr2, hfn, hfu, hpx⟩
        clear hPS2 hFr2 hfn hfu hpx hlook hBk hFa hfm k0 k5 y5
        go_region_held3 (fun w' => w'.cell? ⟨a.gp, 7, none⟩ = some (.map (some a.gn)) ∧ w'.cell? ⟨bi, 0, none⟩ = some (.int .i64 fn)) (exact ⟨c7, k0'⟩) (fail)
        obtain ⟨w3, hw3⟩ : ∃ w3, w2.drew = w3 := ⟨_, rfl⟩
        have H3 : Aside (PSt w3 a { P with frames := fs, hand := h1 } L D ∧ Fr (pT a) w w3) := by
          rw [← hw3]; exact ⟨H2.out.1.below (bl_drew (Below.refl _ _)), H2.out.2.1.drew⟩
        have k53 : w3.cell? ⟨bi, 5, none⟩ = some (.bool fu) := by rw [← hw3]; exact k5'
        have y53 : w3.frozen? ⟨bi, 5, none⟩ = false := by rw [← hw3]; exact y5'
        rw [hw3]
        clear hw3 k0' k5' y5' c7 hlook'
        have hv := HI.out.2.2.2.2.1
        simp only [vict, HI.out.2.2.2.2.2.2.1, HI.out.2.2.1, HH.out.1] at hv
        rw [H2.out.2.2.1, H2.out.2.2.2.2, H2.out.2.2.2.1] at hv
        have hhl := HI.out.2.1
        by_cases hpin : 0 < px
        · have dp : decide (0 < px) = true := by simpa using hpin
          rw [if_pos hpin] at hv
          have HV := hid hv
          clear hv hpin
          rw [dp]
          go_wp2_with fail
          go_roundg q
          case rel => exact ⟨k + 1, by omega, by go_num, fs, h1, H3.out.1, HH.out.2, HI.out.2.2.1, HI.out.2.2.2.1, HV.out, H3.out.2⟩
          case measure => omega
        · have dp : decide (0 < px) = false := by simpa using hpin
          rw [if_neg hpin] at hv
          rw [dp]
          clear hpin
          cases fu with
          | true =>
            rw [if_pos rfl] at hv
            have HV := hid hv
            clear hv
            go_wp2_with fail
            have h5 := H3.out.1.frmCell hd (by show hd < fs.length; rw [HI.out.2.2.1]; exact hhl) { f with used := false } 5 (.bool false) (by
              show f.bytes = (fs[hd]'_).bytes
              obtain ⟨_, e⟩ := List.getElem?_eq_some_iff.1 HI.out.2.2.2.2.2.2.1
              rw [e]) (fun bv => by
              obtain ⟨_, e⟩ := List.getElem?_eq_some_iff.1 HI.out.2.2.2.2.2.2.1
              show (frmCells (fs[hd]'_) bv).setIfInBounds 5 (.bool false) = _
              rw [e]; simp [frmCells])
            rw [HI.out.2.2.2.2.2.2.2] at h5
            go_roundg q
            case rel => exact ⟨k + 1, by omega, by go_num, fs.set hd { f with used := false }, h1, h5.1, HH.out.2, by rw [List.length_set]; exact HI.out.2.2.1, fun g hg => by
              rcases List.mem_or_eq_of_mem_set hg with h | h
              · exact HI.out.2.2.2.1 g h
              · rw [h]; exact HI.out.2.2.2.1 f (List.mem_of_getElem? HI.out.2.2.2.2.2.2.1), by rw [H2.out.2.2.1]; exact HV.out, fr_same H3.out.2 h5.2⟩
            case measure => omega
          | false =>
            rw [if_neg (by simp)] at hv
            have HV := hid hv
            clear hv
            go_wp2_with fail
            go_ret
            rw [← HRV.out, ← HV.out]
            refine ⟨?_, H3.out.1, H3.out.2⟩
            show Ending.returned (.pointer (some ⟨bi, 0, none⟩)) = Ending.returned (.pointer (some ⟨a.bk.getD hd 0, 0, none⟩))
            rw [HI.out.2.2.2.2.2.2.2]
    · obtain rfl : k = N2 := by omega
      obtain rfl : gk = 0 := by omega
      obtain ⟨fs, hd, hP, hhd, hfl, hfw, hv, hF⟩ := hI.out
      have H3 : Aside (PSt wr a { P with frames := fs, hand := hd } L D ∧ Fr (pT a) w wr ∧ (none, fs, hd) = R) := ⟨hP, hF, hv⟩
      clear hP hF hv hI hfl hfw
      go_wp2_with fail
      go_ret
      rw [← HRV.out, ← H3.out.2.2]
      exact ⟨rfl, H3.out.1, H3.out.2.1⟩
end Go.Proofs.YthfidlhefkjpdaaGreatDoor
