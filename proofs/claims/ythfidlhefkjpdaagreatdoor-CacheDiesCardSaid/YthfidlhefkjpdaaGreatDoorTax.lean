/- cache.write under any plan. -/
import Derived.Test.YthfidlhefkjpdaaGreatDoorTau
import Derived.Test.YthfidlhefkjpdaaGreatDoorTaw
namespace Go.Proofs.YthfidlhefkjpdaaGreatDoor
open Go.RowKit

/-- Behind a page's write that was refused, at the log or at the page. -/
structure Lost (pl : List (Int × Int)) (L L' : Lg) (D D' : Dk) (f : Frm) (G : Nat) (top : Int) : Prop where
  le : D'.steps ≤ top
  lw : L'.wf
  run : L'.run = L.run
  safe : L.safe ≤ L'.safe
  len : D'.sec.length = D.sec.length
  wf : D'.wf
  ge : D.steps < D'.steps
  hit : kindOf pl D'.steps ≠ 0
  calm : Calm pl D.steps (D'.steps - 1)
  has : ∀ j, j < D.sec.length → L.first + L.count ≤ j → D'.has j = D.has j ∨ (j = G ∧ D'.has j = fullS f.bytes ∧ L' = wrL L f)
theorem wrL_wfU {L : Lg} (h : L.wf) (f : Frm) : (wrL L f).wf := by
  unfold wrL
  split
  · exact ⟨h.run, h.most, h.count, h.len, Nat.le_refl _⟩
  · exact h
theorem wrL_run (L : Lg) (f : Frm) : (wrL L f).run = L.run := by unfold wrL; split <;> rfl
theorem wrL_safe2 {L : Lg} (hw : L.wf) (f : Frm) : L.safe ≤ (wrL L f).safe := by
  unfold wrL
  split
  · exact hw.safe
  · exact Nat.le_refl _

set_option maxRecDepth 100000 in
set_option maxHeartbeats 2000000 in
theorem cwrite_two (a : Ad) (P : Pl) (L : Lg) (D : Dk) (pl : List (Int × Int)) (i : Nat) (w : World) (h : PSt w a P L (D.under pl)) (hpl : pl.length ≤ 70368744175616) (ho : Ok P L D) (hi : i < P.frames.length) (hn0 : 0 ≤ P.frames[i].n) (hn1 : P.frames[i].n < P.count) (hb : P.frames[i].bytes.length ≤ 512) :
    Calls Tryz.prog 52 #[.pointer (some ⟨a.gp, 0, none⟩), .pointer (some ⟨a.bk.getD i 0, 0, none⟩)] w fun e w' => Fr (aT a) w w' ∧
      ((e = .returned (.int .i64 0) ∧ PSt w' a (wrP P i P.frames[i]) (wrL L P.frames[i]) ((wrD D L P.frames[i] P.base).under pl) ∧ Calm pl D.steps (wrD D L P.frames[i] P.base).steps) ∨
       (∃ er L' D', e = .returned (.int .i64 er) ∧ (er == 0) = false ∧ PSt w' a { P with dead := true } L' D' ∧ Lost pl L L' D D' P.frames[i] (P.base + P.frames[i].n.toNat) (wrD D L P.frames[i] P.base).steps ∧ 0 < er)) := by
  obtain ⟨f, hf⟩ : ∃ f, P.frames[i] = f := ⟨_, rfl⟩
  rw [hf] at hn0 hn1 hb ⊢
  obtain ⟨N, hN⟩ : ∃ N : Nat, f.n = (N : Int) := ⟨f.n.toNat, by omega⟩
  obtain ⟨G, hG⟩ : ∃ G, P.base + N = G := ⟨_, rfl⟩
  obtain ⟨bi, hbi⟩ : ∃ bi, a.bk.getD i 0 = bi := ⟨_, rfl⟩
  rw [hbi]
  have hGl : G < D.sec.length := by have := ho.pb; omega
  have hDn := ho.dw.n
  have hGw : IntKind.i64.wrap ((P.base : Int) + (N : Int)) = (G : Int) := by rw [wrap_nat (by omega) (by omega)]; omega
  have H : Aside (PSt w a P L (D.under pl) ∧ Ok P L D ∧ P.frames[i] = f ∧ f.n = (N : Int) ∧ P.base + N = G ∧ a.bk.getD i 0 = bi ∧ G < D.sec.length) := ⟨h, ho, hf, hN, hG, hbi, hGl⟩
  have HPL := hid hpl
  have hGG : P.base + f.n.toNat = G := by rw [hN]; exact hG
  rw [hGG]
  have HGG := hid hGG
  clear hpl hGG
  have cP := fun j => h.pool.blk.cell j
  have c1 := cP 1
  simp [plCells] at c1
  have hfa := h.pool.each i hi
  rw [hbi, hf] at hfa
  obtain ⟨A, cap, ⟨hcap, hcm⟩, hRd, hBk⟩ := hfa.cells
  have k2 := hBk.cell 2
  simp [frmCells] at k2
  obtain ⟨S, hS⟩ : ∃ S, L.lsn L.safe = S := ⟨_, rfl⟩
  have HS := hid hS
  clear hRd hBk hfa cP hf hN hG hbi h ho hcap hcm hS
  go_enter Tryz.func52, Tryz.ntmps52
  go_wp2_with fail
  have hlt := H.out.1.pool.blk.lt
  have hbl : bi < w.heap.size := H.out.1.pool.lt (.inr (.inr (.inl (by rw [← H.out.2.2.2.2.2.1]; exact bk_mem (by rw [H.out.1.pool.blen]; exact hi)))))
  go_region_held3 (fun w' => w'.cell? ⟨a.gp, 1, none⟩ = some (.pointer (some ⟨a.gl, 0, none⟩)) ∧ w'.cell? ⟨bi, 2, none⟩ = some (.int .i64 f.lsn))
    (exact ⟨c1, k2⟩)
    ((go_at_call 38
      (with_reducible refine Calls.mono (lsafe_any a.base a.gl a.gd a.sv a.rv L _ ?_ H.out.2.1.lw) ?_)
      · exact H.out.1.ld.log.below (by repeat (first | exact Below.refl _ _ | refine bl_drew ?_))
      rintro e w2 ⟨rfl, rfl⟩))
  rw [HS.out]
  by_cases hS : S ≤ f.lsn
  · have dS : decide (S ≤ f.lsn) = true := by simpa using hS
    rw [dS]
    obtain ⟨wA, hwA⟩ : ∃ wA, w.drew = wA := ⟨_, rfl⟩
    have hbA : Below w.heap.size w wA := by rw [← hwA]; exact bl_drew (Below.refl _ _)
    rw [hwA]
    clear hwA
    have hA : PSt wA a P L (D.under pl) := H.out.1.below hbA
    have c1A := hA.pool.blk.cell 1
    simp [plCells] at c1A
    have HA : Aside (PSt wA a P L (D.under pl) ∧ Below w.heap.size w wA) := ⟨hA, hbA⟩
    clear hA hbA
    go_wp2_with fail
    refine (lflush_two a.base a.gl a.gd a.gs a.gm a.sv a.rv L D pl wA HA.out.1.ld H.out.2.1.lw H.out.2.1.ld H.out.2.1.dw HPL.out H.out.2.1.doff H.out.2.1.lf (by have := H.out.2.1.st; omega)).mono ?_
    rintro e wB ⟨hFB, hcase⟩
    have HFB : Aside (Fr (aT a) w wB) := ⟨(Fr.of_below HA.out.2 _).trans (fr_aT1 (fr_aL hFB)) (fun _ _ h => h)⟩
    rcases hcase with ⟨rfl, hB, hcalm⟩ | ⟨er, D', rfl, her, hB, hfat, hpos⟩
    case' inr =>
      have hB2 : PSt wB a P { L with dead := true } D' := HA.out.1.onLD (fr_aL hFB) (Nx.refl _ _) hB
      have HB2 := hid hB2
      have HF2 := hid hfat
      clear hB2 hB hfat hFB c1A
      go_wp2_with fail
      refine (pstep_any a P _ _ er wB HB2.out).mono ?_
      rintro e wX ⟨rfl, hX, hFX⟩
      have hdd : (P.dead || !decide (er = 0)) = true := by
        have : decide (er = 0) = false := by simpa using her
        rw [this]
        simp
      rw [hdd] at hX
      have H5 : Aside (PSt wX a { P with dead := true } { L with dead := true } D' ∧ Fr (aT a) w wX ∧ Lost pl L { L with dead := true } D D' f G (wrD D L f P.base).steps) := by
        have hlw := H.out.2.1.lw
        have hle := HF2.out.le
        refine ⟨hX, fr_same HFB.out (fr_aT2 (fr_gp hFX)), by
          have hn : L.lsn L.safe ≤ f.lsn := by rw [HS.out]; exact hS
          rw [wrD, if_pos hn]
          show _ ≤ (D.lflush L).steps + 1
          omega, ⟨hlw.run, hlw.most, hlw.count, hlw.len, hlw.safe⟩, rfl, Nat.le_refl _, HF2.out.len, HF2.out.wf, HF2.out.ge, HF2.out.hit, HF2.out.calm, fun j hj ho => .inl (HF2.out.has j hj (.inr ho))⟩
      clear hX hFX hdd HB2 HF2
      go_wp2_with fail
      go_ret
      exact ⟨H5.out.2.1, .inr ⟨er, _, D', rfl, her, H5.out.1, H5.out.2.2, hpos⟩⟩
    have HB : Aside (PSt wB a P { L with safe := L.stream.length } ((D.lflush L).under pl) ∧ Fr (aT a) w wB ∧ Calm pl D.steps (D.lflush L).steps) := ⟨HA.out.1.onLD (fr_aL hFB) (Nx.refl _ _) hB, HFB.out, hcalm⟩
    clear hB hFB c1A hcalm HFB
    go_wp2_with fail
    refine (pstep_ok a P _ _ wB HB.out.1 H.out.2.1.pd).mono ?_
    rintro e wX ⟨rfl, hX, hFX⟩
    obtain ⟨D1, hD1⟩ : ∃ D1, D.lflush L = D1 := ⟨_, rfl⟩
    have HX : Aside (PSt wX a P (wrL L f) (D1.under pl) ∧ Fr (aT a) w wX ∧ DkNext D D1 L.first (L.first + L.count) (L.count + 1) ∧ wrD D L f P.base = D1.write G f.bytes ∧ Calm pl D.steps D1.steps ∧ D1.steps + 1 ≤ 1152921504606846976) := by
      have hn : L.lsn L.safe ≤ f.lsn := by rw [HS.out]; exact hS
      have hx := lflush_next H.out.2.1.dw H.out.2.1.dp H.out.2.1.doff H.out.2.1.lw H.out.2.1.lf (by have := H.out.2.1.st; omega)
      have hcc := H.out.2.1.lw.count
      refine ⟨?_, fr_same HB.out.2.1 (fr_aT2 (fr_gp hFX)), ?_, ?_, ?_, ?_⟩
      · rw [wrL, if_pos hn, ← hD1]; exact hX
      · rw [← hD1]; exact hx
      · rw [wrD, if_pos hn, hD1, H.out.2.2.2.1, ← H.out.2.2.2.2.1]; rfl
      · rw [← hD1]; exact HB.out.2.2
      · rw [← hD1]; have := hx.steps; have := H.out.2.1.st; omega
    clear hD1 hX hFX
    have cP := fun j => HX.out.1.pool.blk.cell j
    have c0 := cP 0
    have c2 := cP 2
    have f9 := HX.out.1.pool.blk.frozen 9
    have c9 := cP 9
    simp [plCells] at c0 c2 c9
    have hfa := HX.out.1.pool.each i hi
    rw [H.out.2.2.2.2.2.1, H.out.2.2.1] at hfa
    obtain ⟨A, cap, ⟨hcap, hcm⟩, hRd, hBk⟩ := hfa.cells
    have k0 := hBk.cell 0
    have k1 := hBk.cell 1
    simp [frmCells] at k0 k1
    rw [H.out.2.2.2.1] at k0
    obtain ⟨fb, hfb⟩ : ∃ fb, f.bytes = fb := ⟨_, rfl⟩
    obtain ⟨fl, hfl⟩ : ∃ fl, fb.length = fl := ⟨_, rfl⟩
    rw [hfb] at hRd k1 hb
    rw [hfl] at hRd k1 hb
    have HR : Aside (RdB wX A fl fb ∧ f.bytes = fb) := ⟨hRd, hfb⟩
    clear hRd hBk hfa cP hcap hfb hfl
    have hltX : a.gp < wX.heap.size := HX.out.1.pool.blk.lt
    have hblX : bi < wX.heap.size := HX.out.1.pool.lt (.inr (.inr (.inl (by rw [← H.out.2.2.2.2.2.1]; exact bk_mem (by rw [H.out.1.pool.blen]; exact hi)))))
    have q0 : ∀ W, Below wX.heap.size wX W → W.cell? ⟨a.gp, 0, none⟩ = some (.pointer (some ⟨a.gd, 0, none⟩)) ∧ W.cell? ⟨a.gp, 2, none⟩ = some (.int .i64 (P.base : Int)) ∧ W.cell? ⟨bi, 0, none⟩ = some (.int .i64 (N : Int)) ∧ W.cell? ⟨bi, 1, none⟩ = some (.slice A fl cap) := fun W hW => ⟨(hW.cell (p := ⟨a.gp, 0, none⟩) hltX).trans c0, (hW.cell (p := ⟨a.gp, 2, none⟩) hltX).trans c2, (hW.cell (p := ⟨bi, 0, none⟩) hblX).trans k0, (hW.cell (p := ⟨bi, 1, none⟩) hblX).trans k1⟩
    have q1 : ∀ W, Fr (fun b => b = a.gd ∨ b = a.gm) wX W ∨ Fr (fun b => b = a.gp) wX W → True := fun _ _ => trivial
    have Q0 := hid q0
    clear q0 q1
    go_wp2_with fail
    go_region_held3 (fun w' => w'.cell? ⟨a.gp, 0, none⟩ = some (.pointer (some ⟨a.gd, 0, none⟩)) ∧ w'.cell? ⟨a.gp, 2, none⟩ = some (.int .i64 (P.base : Int)) ∧ w'.cell? ⟨bi, 0, none⟩ = some (.int .i64 (N : Int)) ∧ w'.cell? ⟨bi, 1, none⟩ = some (.slice A fl cap))
      (first | exact ⟨c0, c2, k0, k1⟩ | exact R5.out.2.2 | exact R4.out.2.2)
      (first
       | (go_at_call 81
          (with_reducible refine Calls.mono (write_two a.gd a.gs a.gm D1 pl G fl cap A fb _ (HX.out.1.ld.disk.below (by repeat (first | exact Below.refl _ _ | refine bl_drew ?_))) HX.out.2.2.1.wf HPL.out HX.out.2.2.1.off (by rw [HX.out.2.2.1.len]; exact H.out.2.2.2.2.2.2) (HR.out.1.below (by repeat (first | exact Below.refl _ _ | refine bl_drew ?_))) hb HX.out.2.2.2.2.2) ?_)
          rintro e w4 ⟨er, D', rfl, hD4, hF4, hcase⟩
          have HC := hid hcase
          clear hcase
          have hF4' : Fr (aL a) wX w4 := ((Fr.refl _ _).drewN 1).trans (fr_aL ((fr_dT hF4).mono fun _ _ e => .inr e)) (fun _ _ h => h)
          have h4 : PSt w4 a P (wrL L f) D' := HX.out.1.onLD hF4' (Nx.refl _ _) ((HX.out.1.ld.below (bl_drew (Below.refl _ _))).onDisk (fr_dT hF4) hD4)
          have e4 : w4.cell? ⟨a.gp, 0, none⟩ = some (.pointer (some ⟨a.gd, 0, none⟩)) ∧ w4.cell? ⟨a.gp, 2, none⟩ = some (.int .i64 (P.base : Int)) ∧ w4.cell? ⟨bi, 0, none⟩ = some (.int .i64 (N : Int)) ∧ w4.cell? ⟨bi, 1, none⟩ = some (.slice A fl cap) := by
            have hg : ¬ aL a a.gp := fun hl => HX.out.1.apart hl (.inl rfl)
            have hg2 : ¬ aL a bi := fun hl => HX.out.1.apart hl (.inr (.inr (.inl (by rw [← H.out.2.2.2.2.2.1]; exact bk_mem (by rw [H.out.1.pool.blen]; exact hi)))))
            exact ⟨(World.cell?_of_block (w := wX) (hF4'.block _ hltX hg)).trans c0, (World.cell?_of_block (w := wX) (hF4'.block _ hltX hg)).trans c2, (World.cell?_of_block (w := wX) (hF4'.block _ hblX hg2)).trans k0, (World.cell?_of_block (w := wX) (hF4'.block _ hblX hg2)).trans k1⟩
          have R4 : Aside (PSt w4 a P (wrL L f) D' ∧ Fr (aT a) w w4 ∧ (w4.cell? ⟨a.gp, 0, none⟩ = some (.pointer (some ⟨a.gd, 0, none⟩)) ∧ w4.cell? ⟨a.gp, 2, none⟩ = some (.int .i64 (P.base : Int)) ∧ w4.cell? ⟨bi, 0, none⟩ = some (.int .i64 (N : Int)) ∧ w4.cell? ⟨bi, 1, none⟩ = some (.slice A fl cap))) := ⟨h4, fr_same HX.out.2.1 (fr_aT1 hF4'), e4⟩
          clear hD4 hF4 hF4' h4 e4)
       | (go_at_call 53
          (with_reducible refine Calls.mono (pstep_any a P (wrL L f) D' er _ R4.out.1) ?_)
          rintro e w5 ⟨rfl, h5, hF5⟩
          have e5 : w5.cell? ⟨a.gp, 0, none⟩ = some (.pointer (some ⟨a.gd, 0, none⟩)) ∧ w5.cell? ⟨a.gp, 2, none⟩ = some (.int .i64 (P.base : Int)) ∧ w5.cell? ⟨bi, 0, none⟩ = some (.int .i64 (N : Int)) ∧ w5.cell? ⟨bi, 1, none⟩ = some (.slice A fl cap) := by
            have z0 := h5.pool.blk.cell 0
            have z2 := h5.pool.blk.cell 2
            simp [plCells] at z0 z2
            have hne : ¬ bi = a.gp := fun e => by
              obtain ⟨_, _, hB, _⟩ := R4.out.1.pool.each i hi
              rw [H.out.2.2.2.2.2.1, e] at hB
              exact hB.ty.ne R4.out.1.pool.blk.ty (by decide)
            have hlt4 : bi < w4.heap.size := by have := R4.out.2.1.size; omega
            exact ⟨z0, z2, (World.cell?_of_block (w := w4) (hF5.block _ hlt4 hne)).trans R4.out.2.2.2.2.1, (World.cell?_of_block (w := w4) (hF5.block _ hlt4 hne)).trans R4.out.2.2.2.2.2⟩
          have R5 : Aside (PSt w5 a { P with dead := P.dead || !decide (er = 0) } (wrL L f) D' ∧ Fr (aT a) w w5 ∧ (w5.cell? ⟨a.gp, 0, none⟩ = some (.pointer (some ⟨a.gd, 0, none⟩)) ∧ w5.cell? ⟨a.gp, 2, none⟩ = some (.int .i64 (P.base : Int)) ∧ w5.cell? ⟨bi, 0, none⟩ = some (.int .i64 (N : Int)) ∧ w5.cell? ⟨bi, 1, none⟩ = some (.slice A fl cap))) := ⟨h5, fr_same R4.out.2.1 (fr_aT2 (fr_gp hF5)), e5⟩
          clear h5 hF5 e5))
    rcases HC.out with ⟨her, hD', hk0⟩ | ⟨her, hfat, hhas, hpos⟩
    case' inr =>
      have hdd : (P.dead || !decide (er = 0)) = true := by
        have : decide (er = 0) = false := by simpa using her
        rw [this]
        simp
      have h5 := R5.out.1
      rw [hdd] at h5
      have H5 : Aside (PSt w5 a { P with dead := true } (wrL L f) D' ∧ Lost pl L (wrL L f) D D' f G (wrD D L f P.base).steps) := by
        refine ⟨h5, by rw [HX.out.2.2.2.1]; exact hfat.le, wrL_wfU H.out.2.1.lw f, wrL_run L f, wrL_safe2 H.out.2.1.lw f, hfat.len.trans HX.out.2.2.1.len, hfat.wf, ?_, hfat.hit, HX.out.2.2.2.2.1.trans hfat.calm, fun j hj ho => ?_⟩
        · have := HX.out.2.2.1.ge
          have := hfat.ge
          omega
        · have h1 := HX.out.2.2.1.has j hj (.inr ho)
          by_cases hjG : j = G
          · subst hjG
            rcases hhas with e | e
            · exact .inl (e.trans h1)
            · exact .inr ⟨rfl, by rw [e, HR.out.2], rfl⟩
          · exact .inl ((hfat.has j (by rw [HX.out.2.2.1.len]; exact hj) (by omega)).trans h1)
      clear h5 hdd hfat hhas HC
      go_wp2_with fail
      go_ret
      exact ⟨R5.out.2.1, .inr ⟨er, _, D', rfl, her, H5.out.1, H5.out.2, hpos⟩⟩
    subst her hD'
    have e00 : (P.dead || !decide ((0 : Int) = 0)) = P.dead := by simp
    have R5b := R5.out
    rw [e00] at R5b
    have R6 : Aside (PSt w5 a P (wrL L f) ((D1.write G fb).under pl) ∧ Fr (aT a) w w5 ∧ Calm pl D.steps (D1.write G fb).steps) := ⟨R5b.1, R5b.2.1, HX.out.2.2.2.2.1.trans (Calm.one hk0)⟩
    clear R5 R5b R4 e00 HC hk0
    have z9 := R6.out.1.pool.blk.cell 9
    have y9 := R6.out.1.pool.blk.frozen 9
    simp [plCells] at z9
    obtain ⟨_, _, _, hRd5, hBk5⟩ := (R6.out.1.pool.each i hi).cells
    rw [H.out.2.2.2.2.2.1] at hBk5
    have z3 := hBk5.cell 3
    have y3 := hBk5.frozen 3
    simp [frmCells] at z3
    clear hRd5 hBk5
    go_wp2_with fail
    go_ret
    have h6 := R6.out.1.frmCell i hi { P.frames[i] with dirty := false } 3 (.bool false) rfl (fun bv => by simp [frmCells])
    rw [H.out.2.2.2.2.2.1, H.out.2.2.1] at h6
    obtain ⟨h7, hF7⟩ := h6.1.pool.setCell_ (P' := wrP P i f) 9 (.bool true) (by simp [plCells, wrP]) rfl rfl rfl
    refine ⟨fr_same (fr_same R6.out.2.1 (fr_aT2 h6.2)) (fr_aT2 (fr_gp hF7)), .inl ⟨rfl, ?_, ?_⟩⟩
    · rw [HX.out.2.2.2.1, HR.out.2]
      exact h6.1.onPool0 (fr_gp hF7) h7
    · rw [HX.out.2.2.2.1, HR.out.2]
      exact R6.out.2.2
  · have dS : decide (S ≤ f.lsn) = false := by simpa using hS
    rw [dS]
    obtain ⟨wX, hwX⟩ : ∃ wX, w.drew = wX := ⟨_, rfl⟩
    have hbX : Below w.heap.size w wX := by rw [← hwX]; exact bl_drew (Below.refl _ _)
    rw [hwX]
    clear hwX
    obtain ⟨D1, hD1⟩ : ∃ D1, D = D1 := ⟨_, rfl⟩
    have HX : Aside (PSt wX a P (wrL L f) (D1.under pl) ∧ Fr (aT a) w wX ∧ DkNext D D1 L.first (L.first + L.count) (L.count + 1) ∧ wrD D L f P.base = D1.write G f.bytes ∧ Calm pl D.steps D1.steps ∧ D1.steps + 1 ≤ 1152921504606846976) := by
      have hn : ¬ L.lsn L.safe ≤ f.lsn := by rw [HS.out]; exact hS
      refine ⟨?_, Fr.of_below hbX _, ?_, ?_, ?_, ?_⟩
      · rw [wrL, if_neg hn, ← hD1]; exact H.out.1.below hbX
      · rw [← hD1]; exact ⟨rfl, H.out.2.1.dp, H.out.2.1.doff, H.out.2.1.dw, by omega, by omega, fun _ _ _ => rfl⟩
      · rw [wrD, if_neg hn, hD1, H.out.2.2.2.1, ← H.out.2.2.2.2.1]; rfl
      · rw [← hD1]; exact Calm.refl _ _
      · rw [← hD1]; have := H.out.2.1.st; omega
    clear hD1 hbX
    have cP := fun j => HX.out.1.pool.blk.cell j
    have c0 := cP 0
    have c2 := cP 2
    have f9 := HX.out.1.pool.blk.frozen 9
    have c9 := cP 9
    simp [plCells] at c0 c2 c9
    have hfa := HX.out.1.pool.each i hi
    rw [H.out.2.2.2.2.2.1, H.out.2.2.1] at hfa
    obtain ⟨A, cap, ⟨hcap, hcm⟩, hRd, hBk⟩ := hfa.cells
    have k0 := hBk.cell 0
    have k1 := hBk.cell 1
    simp [frmCells] at k0 k1
    rw [H.out.2.2.2.1] at k0
    obtain ⟨fb, hfb⟩ : ∃ fb, f.bytes = fb := ⟨_, rfl⟩
    obtain ⟨fl, hfl⟩ : ∃ fl, fb.length = fl := ⟨_, rfl⟩
    rw [hfb] at hRd k1 hb
    rw [hfl] at hRd k1 hb
    have HR : Aside (RdB wX A fl fb ∧ f.bytes = fb) := ⟨hRd, hfb⟩
    clear hRd hBk hfa cP hcap hfb hfl
    have hltX : a.gp < wX.heap.size := HX.out.1.pool.blk.lt
    have hblX : bi < wX.heap.size := HX.out.1.pool.lt (.inr (.inr (.inl (by rw [← H.out.2.2.2.2.2.1]; exact bk_mem (by rw [H.out.1.pool.blen]; exact hi)))))
    have q0 : ∀ W, Below wX.heap.size wX W → W.cell? ⟨a.gp, 0, none⟩ = some (.pointer (some ⟨a.gd, 0, none⟩)) ∧ W.cell? ⟨a.gp, 2, none⟩ = some (.int .i64 (P.base : Int)) ∧ W.cell? ⟨bi, 0, none⟩ = some (.int .i64 (N : Int)) ∧ W.cell? ⟨bi, 1, none⟩ = some (.slice A fl cap) := fun W hW => ⟨(hW.cell (p := ⟨a.gp, 0, none⟩) hltX).trans c0, (hW.cell (p := ⟨a.gp, 2, none⟩) hltX).trans c2, (hW.cell (p := ⟨bi, 0, none⟩) hblX).trans k0, (hW.cell (p := ⟨bi, 1, none⟩) hblX).trans k1⟩
    have q1 : ∀ W, Fr (fun b => b = a.gd ∨ b = a.gm) wX W ∨ Fr (fun b => b = a.gp) wX W → True := fun _ _ => trivial
    have Q0 := hid q0
    clear q0 q1
    go_wp2_with fail
    go_region_held3 (fun w' => w'.cell? ⟨a.gp, 0, none⟩ = some (.pointer (some ⟨a.gd, 0, none⟩)) ∧ w'.cell? ⟨a.gp, 2, none⟩ = some (.int .i64 (P.base : Int)) ∧ w'.cell? ⟨bi, 0, none⟩ = some (.int .i64 (N : Int)) ∧ w'.cell? ⟨bi, 1, none⟩ = some (.slice A fl cap))
      (first | exact ⟨c0, c2, k0, k1⟩ | exact R5.out.2.2 | exact R4.out.2.2)
      (first
       | (go_at_call 81
          (with_reducible refine Calls.mono (write_two a.gd a.gs a.gm D1 pl G fl cap A fb _ (HX.out.1.ld.disk.below (by repeat (first | exact Below.refl _ _ | refine bl_drew ?_))) HX.out.2.2.1.wf HPL.out HX.out.2.2.1.off (by rw [HX.out.2.2.1.len]; exact H.out.2.2.2.2.2.2) (HR.out.1.below (by repeat (first | exact Below.refl _ _ | refine bl_drew ?_))) hb HX.out.2.2.2.2.2) ?_)
          rintro e w4 ⟨er, D', rfl, hD4, hF4, hcase⟩
          have HC := hid hcase
          clear hcase
          have hF4' : Fr (aL a) wX w4 := ((Fr.refl _ _).drewN 1).trans (fr_aL ((fr_dT hF4).mono fun _ _ e => .inr e)) (fun _ _ h => h)
          have h4 : PSt w4 a P (wrL L f) D' := HX.out.1.onLD hF4' (Nx.refl _ _) ((HX.out.1.ld.below (bl_drew (Below.refl _ _))).onDisk (fr_dT hF4) hD4)
          have e4 : w4.cell? ⟨a.gp, 0, none⟩ = some (.pointer (some ⟨a.gd, 0, none⟩)) ∧ w4.cell? ⟨a.gp, 2, none⟩ = some (.int .i64 (P.base : Int)) ∧ w4.cell? ⟨bi, 0, none⟩ = some (.int .i64 (N : Int)) ∧ w4.cell? ⟨bi, 1, none⟩ = some (.slice A fl cap) := by
            have hg : ¬ aL a a.gp := fun hl => HX.out.1.apart hl (.inl rfl)
            have hg2 : ¬ aL a bi := fun hl => HX.out.1.apart hl (.inr (.inr (.inl (by rw [← H.out.2.2.2.2.2.1]; exact bk_mem (by rw [H.out.1.pool.blen]; exact hi)))))
            exact ⟨(World.cell?_of_block (w := wX) (hF4'.block _ hltX hg)).trans c0, (World.cell?_of_block (w := wX) (hF4'.block _ hltX hg)).trans c2, (World.cell?_of_block (w := wX) (hF4'.block _ hblX hg2)).trans k0, (World.cell?_of_block (w := wX) (hF4'.block _ hblX hg2)).trans k1⟩
          have R4 : Aside (PSt w4 a P (wrL L f) D' ∧ Fr (aT a) w w4 ∧ (w4.cell? ⟨a.gp, 0, none⟩ = some (.pointer (some ⟨a.gd, 0, none⟩)) ∧ w4.cell? ⟨a.gp, 2, none⟩ = some (.int .i64 (P.base : Int)) ∧ w4.cell? ⟨bi, 0, none⟩ = some (.int .i64 (N : Int)) ∧ w4.cell? ⟨bi, 1, none⟩ = some (.slice A fl cap))) := ⟨h4, fr_same HX.out.2.1 (fr_aT1 hF4'), e4⟩
          clear hD4 hF4 hF4' h4 e4)
       | (go_at_call 53
          (with_reducible refine Calls.mono (pstep_any a P (wrL L f) D' er _ R4.out.1) ?_)
          rintro e w5 ⟨rfl, h5, hF5⟩
          have e5 : w5.cell? ⟨a.gp, 0, none⟩ = some (.pointer (some ⟨a.gd, 0, none⟩)) ∧ w5.cell? ⟨a.gp, 2, none⟩ = some (.int .i64 (P.base : Int)) ∧ w5.cell? ⟨bi, 0, none⟩ = some (.int .i64 (N : Int)) ∧ w5.cell? ⟨bi, 1, none⟩ = some (.slice A fl cap) := by
            have z0 := h5.pool.blk.cell 0
            have z2 := h5.pool.blk.cell 2
            simp [plCells] at z0 z2
            have hne : ¬ bi = a.gp := fun e => by
              obtain ⟨_, _, hB, _⟩ := R4.out.1.pool.each i hi
              rw [H.out.2.2.2.2.2.1, e] at hB
              exact hB.ty.ne R4.out.1.pool.blk.ty (by decide)
            have hlt4 : bi < w4.heap.size := by have := R4.out.2.1.size; omega
            exact ⟨z0, z2, (World.cell?_of_block (w := w4) (hF5.block _ hlt4 hne)).trans R4.out.2.2.2.2.1, (World.cell?_of_block (w := w4) (hF5.block _ hlt4 hne)).trans R4.out.2.2.2.2.2⟩
          have R5 : Aside (PSt w5 a { P with dead := P.dead || !decide (er = 0) } (wrL L f) D' ∧ Fr (aT a) w w5 ∧ (w5.cell? ⟨a.gp, 0, none⟩ = some (.pointer (some ⟨a.gd, 0, none⟩)) ∧ w5.cell? ⟨a.gp, 2, none⟩ = some (.int .i64 (P.base : Int)) ∧ w5.cell? ⟨bi, 0, none⟩ = some (.int .i64 (N : Int)) ∧ w5.cell? ⟨bi, 1, none⟩ = some (.slice A fl cap))) := ⟨h5, fr_same R4.out.2.1 (fr_aT2 (fr_gp hF5)), e5⟩
          clear h5 hF5 e5))
    rcases HC.out with ⟨her, hD', hk0⟩ | ⟨her, hfat, hhas, hpos⟩
    case' inr =>
      have hdd : (P.dead || !decide (er = 0)) = true := by
        have : decide (er = 0) = false := by simpa using her
        rw [this]
        simp
      have h5 := R5.out.1
      rw [hdd] at h5
      have H5 : Aside (PSt w5 a { P with dead := true } (wrL L f) D' ∧ Lost pl L (wrL L f) D D' f G (wrD D L f P.base).steps) := by
        refine ⟨h5, by rw [HX.out.2.2.2.1]; exact hfat.le, wrL_wfU H.out.2.1.lw f, wrL_run L f, wrL_safe2 H.out.2.1.lw f, hfat.len.trans HX.out.2.2.1.len, hfat.wf, ?_, hfat.hit, HX.out.2.2.2.2.1.trans hfat.calm, fun j hj ho => ?_⟩
        · have := HX.out.2.2.1.ge
          have := hfat.ge
          omega
        · have h1 := HX.out.2.2.1.has j hj (.inr ho)
          by_cases hjG : j = G
          · subst hjG
            rcases hhas with e | e
            · exact .inl (e.trans h1)
            · exact .inr ⟨rfl, by rw [e, HR.out.2], rfl⟩
          · exact .inl ((hfat.has j (by rw [HX.out.2.2.1.len]; exact hj) (by omega)).trans h1)
      clear h5 hdd hfat hhas HC
      go_wp2_with fail
      go_ret
      exact ⟨R5.out.2.1, .inr ⟨er, _, D', rfl, her, H5.out.1, H5.out.2, hpos⟩⟩
    subst her hD'
    have e00 : (P.dead || !decide ((0 : Int) = 0)) = P.dead := by simp
    have R5b := R5.out
    rw [e00] at R5b
    have R6 : Aside (PSt w5 a P (wrL L f) ((D1.write G fb).under pl) ∧ Fr (aT a) w w5 ∧ Calm pl D.steps (D1.write G fb).steps) := ⟨R5b.1, R5b.2.1, HX.out.2.2.2.2.1.trans (Calm.one hk0)⟩
    clear R5 R5b R4 e00 HC hk0
    have z9 := R6.out.1.pool.blk.cell 9
    have y9 := R6.out.1.pool.blk.frozen 9
    simp [plCells] at z9
    obtain ⟨_, _, _, hRd5, hBk5⟩ := (R6.out.1.pool.each i hi).cells
    rw [H.out.2.2.2.2.2.1] at hBk5
    have z3 := hBk5.cell 3
    have y3 := hBk5.frozen 3
    simp [frmCells] at z3
    clear hRd5 hBk5
    go_wp2_with fail
    go_ret
    have h6 := R6.out.1.frmCell i hi { P.frames[i] with dirty := false } 3 (.bool false) rfl (fun bv => by simp [frmCells])
    rw [H.out.2.2.2.2.2.1, H.out.2.2.1] at h6
    obtain ⟨h7, hF7⟩ := h6.1.pool.setCell_ (P' := wrP P i f) 9 (.bool true) (by simp [plCells, wrP]) rfl rfl rfl
    refine ⟨fr_same (fr_same R6.out.2.1 (fr_aT2 h6.2)) (fr_aT2 (fr_gp hF7)), .inl ⟨rfl, ?_, ?_⟩⟩
    · rw [HX.out.2.2.2.1, HR.out.2]
      exact h6.1.onPool0 (fr_gp hF7) h7
    · rw [HX.out.2.2.2.1, HR.out.2]
      exact R6.out.2.2
theorem Lost.not_calm {pl : List (Int × Int)} {L L' : Lg} {D D' : Dk} {f : Frm} {G : Nat} {top : Int} (h : Lost pl L L' D D' f G top) : ¬ Calm pl D.steps top := fun hc => h.hit (hc _ h.ge h.le)
end Go.Proofs.YthfidlhefkjpdaaGreatDoor
