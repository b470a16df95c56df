/- cache.write. -/
import Derived.Test.YthfidlhefkjpdaaGreatDoorTav
namespace Go.Proofs.YthfidlhefkjpdaaGreatDoor
open Go.RowKit

theorem pstep_ok (a : Ad) (P : Pl) (L : Lg) (D : Dk) (w : World) (h : PSt w a P L D) (hd : P.dead = false) :
    Calls Tryz.prog 53 #[.pointer (some ⟨a.gp, 0, none⟩), .int .i64 0] w fun e w' => e = .returned (.int .i64 0) ∧ PSt w' a P L D ∧ Fr (· = a.gp) w w' := by
  refine (pstep_any a P L D 0 w h).mono ?_
  rintro e w' ⟨rfl, hP, hF⟩
  have e : ({ P with dead := P.dead || !decide ((0 : Int) = 0) } : Pl) = P := by
    have : (P.dead || !decide ((0 : Int) = 0)) = P.dead := by simp
    rw [this]
  rw [e] at hP
  exact ⟨rfl, hP, hF⟩

/-- What disk, log and pool must be for a call that is not refused. -/
structure Ok (P : Pl) (L : Lg) (D : Dk) : Prop where
  lw : L.wf
  ld : L.dead = false
  dw : D.wf
  dp : D.plan = []
  doff : D.off = false
  lf : L.first + L.count ≤ D.sec.length
  pd : P.dead = false
  pb : P.base + P.count ≤ D.sec.length
  st : D.steps + 8192 ≤ 1152921504606846976

def wrL (L : Lg) (f : Frm) : Lg := if L.lsn L.safe ≤ f.lsn then { L with safe := L.stream.length } else L
def wrD (D : Dk) (L : Lg) (f : Frm) (base : Nat) : Dk := (if L.lsn L.safe ≤ f.lsn then D.lflush L else D).write (base + f.n.toNat) f.bytes
def wrP (P : Pl) (i : Nat) (f : Frm) : Pl := { P with frames := P.frames.set i { f with dirty := false }, loose := true }

theorem fr_aL {w w' : World} {a : Ad} (h : Fr (fun b => b = a.gl ∨ dT a.gd a.gs a.gm b) w w') : Fr (aL a) w w' := h.mono fun _ _ e => by
  rcases e with e | e
  · exact .inr (.inl e)
  · exact .inl e
theorem fr_aT1 {w w' : World} {a : Ad} (h : Fr (aL a) w w') : Fr (aT a) w w' := h.mono fun _ _ e => .inl e
theorem fr_aT2 {w w' : World} {a : Ad} (h : Fr (pT a) w w') : Fr (aT a) w w' := h.mono fun _ _ e => .inr e
theorem fr_gp {w w' : World} {a : Ad} (h : Fr (· = a.gp) w w') : Fr (pT a) w w' := h.mono fun _ _ e => .inl e
theorem fr_same {w w1 w2 : World} {T : Nat → Prop} (h : Fr T w w1) (k : Fr T w1 w2) : Fr T w w2 := h.trans k (fun _ _ h => h)

theorem FrmAt.cells {w : World} {pb b : Nat} {sv ov : Value} {f : Frm} (h : FrmAt w pb sv ov b f) : ∃ A cap, (f.bytes.length ≤ cap ∧ cap ≤ maxLen) ∧ RdB w A f.bytes.length f.bytes ∧ Blk w b 96 (frmCells f (.slice A f.bytes.length cap)) := by
  obtain ⟨h1, bv, h2, h3, h4⟩ := h
  obtain ⟨A, cap, rfl, q1, q2, -⟩ := own_form h3
  exact ⟨A, cap, ⟨q1, q2⟩, RdB.of_own h3, h2⟩

/-- A cell of frame i is set, its bytes are as they were. -/
theorem PSt.frmCell {w : World} {a : Ad} {P : Pl} {L : Lg} {D : Dk} (h : PSt w a P L D) (i : Nat) (hi : i < P.frames.length) (f' : Frm) (j : Nat) (v : Value) (hb : f'.bytes = P.frames[i].bytes)
    (hc : ∀ bv, (frmCells P.frames[i] bv).setIfInBounds j v = frmCells f' bv) : PSt (w.setCell ⟨a.bk.getD i 0, j, none⟩ v) a { P with frames := P.frames.set i f' } L D ∧ Fr (pT a) w (w.setCell ⟨a.bk.getD i 0, j, none⟩ v) := by
  have hil : i < a.bk.length := by rw [h.pool.blen]; exact hi
  have hF : Fr (· = a.bk.getD i 0) w (w.setCell ⟨a.bk.getD i 0, j, none⟩ v) := (Fr.refl (· = a.bk.getD i 0) w).set (p := ⟨a.bk.getD i 0, j, none⟩) (.inl rfl) v
  obtain ⟨h1, bv, h2, h3, h4⟩ := h.pool.each i hi
  have hf : FrmAt (w.setCell ⟨a.bk.getD i 0, j, none⟩ v) a.pb a.sv a.ov (a.bk.getD i 0) f' := by
    refine ⟨h1, bv, ?_, ?_, h4⟩
    · have := h2.set_ j v
      rw [hc] at this
      exact this
    · rw [hb]
      exact own_fr h3 hF (fun b hb e => by rw [e] at hb; exact (own_ty h3 hb).ne h2.ty (by decide))
  have hFp : Fr (pT a) w (w.setCell ⟨a.bk.getD i 0, j, none⟩ v) := hF.mono fun _ _ e => by rw [e]; exact .inr (.inr (.inl (bk_mem hil)))
  exact ⟨h.onPool0 hFp (h.pool.setFrm i hi hF f' hf), hFp⟩

theorem PSt.logLike {w : World} {a : Ad} {P : Pl} {L : Lg} {D : Dk} (h : PSt w a P L D) : PSt w { a with sv := a.sv, rv := a.rv } P L D := h

set_option maxRecDepth 100000 in
set_option maxHeartbeats 2000000 in
theorem cwrite_any (a : Ad) (P : Pl) (L : Lg) (D : Dk) (i : Nat) (w : World) (h : PSt w a P L D) (ho : Ok P L D) (hi : i < P.frames.length) (hn0 : 0 ≤ P.frames[i].n) (hn1 : P.frames[i].n < P.count) (hb : P.frames[i].bytes.length ≤ 512) :
    Calls Tryz.prog 52 #[.pointer (some ⟨a.gp, 0, none⟩), .pointer (some ⟨a.bk.getD i 0, 0, none⟩)] w fun e w' => e = .returned (.int .i64 0) ∧
      PSt w' a (wrP P i P.frames[i]) (wrL L P.frames[i]) (wrD D L P.frames[i] P.base) ∧ Fr (aT a) w w' := by
  obtain ⟨f, hf⟩ : ∃ f, P.frames[i] = f := ⟨_, rfl⟩
  rw [hf] at hn0 hn1 hb ⊢
  obtain ⟨N, hN⟩ : ∃ N : Nat, f.n = (N : Int) := ⟨f.n.toNat, by omega⟩
  obtain ⟨G, hG⟩ : ∃ G, P.base + N = G := ⟨_, rfl⟩
  obtain ⟨bi, hbi⟩ : ∃ bi, a.bk.getD i 0 = bi := ⟨_, rfl⟩
  rw [hbi]
  have hGl : G < D.sec.length := by have := ho.pb; omega
  have hDn := ho.dw.n
  have hGw : IntKind.i64.wrap ((P.base : Int) + (N : Int)) = (G : Int) := by rw [wrap_nat (by omega) (by omega)]; omega
  have H : Aside (PSt w a P L D ∧ Ok P L D ∧ P.frames[i] = f ∧ f.n = (N : Int) ∧ P.base + N = G ∧ a.bk.getD i 0 = bi ∧ G < D.sec.length) := ⟨h, ho, hf, hN, hG, hbi, hGl⟩
  have cP := fun j => h.pool.blk.cell j
  have c1 := cP 1
  simp [plCells] at c1
  have hfa := h.pool.each i hi
  rw [hbi, hf] at hfa
  obtain ⟨A, cap, ⟨hcap, hcm⟩, hRd, hBk⟩ := hfa.cells
  have k2 := hBk.cell 2
  simp [frmCells] at k2
  obtain ⟨S, hS⟩ : ∃ S, L.lsn L.safe = S := ⟨_, rfl⟩
  have HS := hid hS
  clear hRd hBk hfa cP hf hN hG hbi h ho hcap hcm hS
  go_enter Tryz.func52, Tryz.ntmps52
  go_wp2_with fail
  have hlt := H.out.1.pool.blk.lt
  have hbl : bi < w.heap.size := H.out.1.pool.lt (.inr (.inr (.inl (by rw [← H.out.2.2.2.2.2.1]; exact bk_mem (by rw [H.out.1.pool.blen]; exact hi)))))
  go_region_held3 (fun w' => w'.cell? ⟨a.gp, 1, none⟩ = some (.pointer (some ⟨a.gl, 0, none⟩)) ∧ w'.cell? ⟨bi, 2, none⟩ = some (.int .i64 f.lsn))
    (exact ⟨c1, k2⟩)
    ((go_at_call 38
      (with_reducible refine Calls.mono (lsafe_any a.base a.gl a.gd a.sv a.rv L _ ?_ H.out.2.1.lw) ?_)
      · exact H.out.1.ld.log.below (by repeat (first | exact Below.refl _ _ | refine bl_drew ?_))
      rintro e w2 ⟨rfl, rfl⟩))
  rw [HS.out]
  by_cases hS : S ≤ f.lsn
  · have dS : decide (S ≤ f.lsn) = true := by simpa using hS
    rw [dS]
    obtain ⟨wA, hwA⟩ : ∃ wA, w.drew = wA := ⟨_, rfl⟩
    have hbA : Below w.heap.size w wA := by rw [← hwA]; exact bl_drew (Below.refl _ _)
    rw [hwA]
    clear hwA
    have hA : PSt wA a P L D := H.out.1.below hbA
    have c1A := hA.pool.blk.cell 1
    simp [plCells] at c1A
    have HA : Aside (PSt wA a P L D ∧ Below w.heap.size w wA) := ⟨hA, hbA⟩
    clear hA hbA
    go_wp2_with fail
    refine (lflush_any a.base a.gl a.gd a.gs a.gm a.sv a.rv L D wA HA.out.1.ld H.out.2.1.lw H.out.2.1.ld H.out.2.1.dw H.out.2.1.dp H.out.2.1.doff H.out.2.1.lf (by have := H.out.2.1.st; omega)).mono ?_
    rintro e wB ⟨rfl, hB, hFB⟩
    have HB : Aside (PSt wB a P { L with safe := L.stream.length } (D.lflush L) ∧ Fr (aT a) w wB) := ⟨HA.out.1.onLD (fr_aL hFB) (Nx.refl _ _) hB, (Fr.of_below HA.out.2 _).trans (fr_aT1 (fr_aL hFB)) (fun _ _ h => h)⟩
    clear hB hFB c1A
    go_wp2_with fail
    refine (pstep_ok a P _ _ wB HB.out.1 H.out.2.1.pd).mono ?_
    rintro e wX ⟨rfl, hX, hFX⟩
    obtain ⟨D1, hD1⟩ : ∃ D1, D.lflush L = D1 := ⟨_, rfl⟩
    have HX : Aside (PSt wX a P (wrL L f) D1 ∧ Fr (aT a) w wX ∧ DkNext D D1 L.first (L.first + L.count) (L.count + 1) ∧ wrD D L f P.base = D1.write G f.bytes) := by
      have hn : L.lsn L.safe ≤ f.lsn := by rw [HS.out]; exact hS
      refine ⟨?_, fr_same HB.out.2 (fr_aT2 (fr_gp hFX)), ?_, ?_⟩
      · rw [wrL, if_pos hn, ← hD1]; exact hX
      · rw [← hD1]; exact lflush_next H.out.2.1.dw H.out.2.1.dp H.out.2.1.doff H.out.2.1.lw H.out.2.1.lf (by have := H.out.2.1.st; omega)
      · rw [wrD, if_pos hn, hD1, H.out.2.2.2.1, ← H.out.2.2.2.2.1]; rfl
    clear hD1 hX hFX
    have cP := fun j => HX.out.1.pool.blk.cell j
    have c0 := cP 0
    have c2 := cP 2
    have f9 := HX.out.1.pool.blk.frozen 9
    have c9 := cP 9
    simp [plCells] at c0 c2 c9
    have hfa := HX.out.1.pool.each i hi
    rw [H.out.2.2.2.2.2.1, H.out.2.2.1] at hfa
    obtain ⟨A, cap, ⟨hcap, hcm⟩, hRd, hBk⟩ := hfa.cells
    have k0 := hBk.cell 0
    have k1 := hBk.cell 1
    simp [frmCells] at k0 k1
    rw [H.out.2.2.2.1] at k0
    obtain ⟨fb, hfb⟩ : ∃ fb, f.bytes = fb := ⟨_, rfl⟩
    obtain ⟨fl, hfl⟩ : ∃ fl, fb.length = fl := ⟨_, rfl⟩
    rw [hfb] at hRd k1 hb
    rw [hfl] at hRd k1 hb
    have HR : Aside (RdB wX A fl fb ∧ f.bytes = fb) := ⟨hRd, hfb⟩
    clear hRd hBk hfa cP hcap hfb hfl
    have hltX : a.gp < wX.heap.size := HX.out.1.pool.blk.lt
    have hblX : bi < wX.heap.size := HX.out.1.pool.lt (.inr (.inr (.inl (by rw [← H.out.2.2.2.2.2.1]; exact bk_mem (by rw [H.out.1.pool.blen]; exact hi)))))
    have q0 : ∀ W, Below wX.heap.size wX W → W.cell? ⟨a.gp, 0, none⟩ = some (.pointer (some ⟨a.gd, 0, none⟩)) ∧ W.cell? ⟨a.gp, 2, none⟩ = some (.int .i64 (P.base : Int)) ∧ W.cell? ⟨bi, 0, none⟩ = some (.int .i64 (N : Int)) ∧ W.cell? ⟨bi, 1, none⟩ = some (.slice A fl cap) := fun W hW => ⟨(hW.cell (p := ⟨a.gp, 0, none⟩) hltX).trans c0, (hW.cell (p := ⟨a.gp, 2, none⟩) hltX).trans c2, (hW.cell (p := ⟨bi, 0, none⟩) hblX).trans k0, (hW.cell (p := ⟨bi, 1, none⟩) hblX).trans k1⟩
    have q1 : ∀ W, Fr (fun b => b = a.gd ∨ b = a.gm) wX W ∨ Fr (fun b => b = a.gp) wX W → True := fun _ _ => trivial
    have Q0 := hid q0
    clear q0 q1
    go_wp2_with fail
    go_region_held3 (fun w' => w'.cell? ⟨a.gp, 0, none⟩ = some (.pointer (some ⟨a.gd, 0, none⟩)) ∧ w'.cell? ⟨a.gp, 2, none⟩ = some (.int .i64 (P.base : Int)) ∧ w'.cell? ⟨bi, 0, none⟩ = some (.int .i64 (N : Int)) ∧ w'.cell? ⟨bi, 1, none⟩ = some (.slice A fl cap))
      (first | exact ⟨c0, c2, k0, k1⟩ | exact R5.out.2.2 | exact R4.out.2.2)
      (first
       | (go_at_call 81
          (with_reducible refine Calls.mono (write_any a.gd a.gs a.gm D1 G fl cap A fb _ (HX.out.1.ld.disk.below (by repeat (first | exact Below.refl _ _ | refine bl_drew ?_))) HX.out.2.2.1.wf HX.out.2.2.1.plan HX.out.2.2.1.off (by rw [HX.out.2.2.1.len]; exact H.out.2.2.2.2.2.2) (HR.out.1.below (by repeat (first | exact Below.refl _ _ | refine bl_drew ?_))) hb) ?_)
          rintro e w4 ⟨rfl, hD4, hF4⟩
          have hF4' : Fr (aL a) wX w4 := ((Fr.refl _ _).drewN 1).trans (fr_aL ((fr_dT hF4).mono fun _ _ e => .inr e)) (fun _ _ h => h)
          have h4 : PSt w4 a P (wrL L f) (D1.write G fb) := HX.out.1.onLD hF4' (Nx.refl _ _) ((HX.out.1.ld.below (bl_drew (Below.refl _ _))).onDisk (fr_dT hF4) hD4)
          have e4 : w4.cell? ⟨a.gp, 0, none⟩ = some (.pointer (some ⟨a.gd, 0, none⟩)) ∧ w4.cell? ⟨a.gp, 2, none⟩ = some (.int .i64 (P.base : Int)) ∧ w4.cell? ⟨bi, 0, none⟩ = some (.int .i64 (N : Int)) ∧ w4.cell? ⟨bi, 1, none⟩ = some (.slice A fl cap) := by
            have hg : ¬ aL a a.gp := fun hl => HX.out.1.apart hl (.inl rfl)
            have hg2 : ¬ aL a bi := fun hl => HX.out.1.apart hl (.inr (.inr (.inl (by rw [← H.out.2.2.2.2.2.1]; exact bk_mem (by rw [H.out.1.pool.blen]; exact hi)))))
            exact ⟨(World.cell?_of_block (w := wX) (hF4'.block _ hltX hg)).trans c0, (World.cell?_of_block (w := wX) (hF4'.block _ hltX hg)).trans c2, (World.cell?_of_block (w := wX) (hF4'.block _ hblX hg2)).trans k0, (World.cell?_of_block (w := wX) (hF4'.block _ hblX hg2)).trans k1⟩
          have R4 : Aside (PSt w4 a P (wrL L f) (D1.write G fb) ∧ Fr (aT a) w w4 ∧ (w4.cell? ⟨a.gp, 0, none⟩ = some (.pointer (some ⟨a.gd, 0, none⟩)) ∧ w4.cell? ⟨a.gp, 2, none⟩ = some (.int .i64 (P.base : Int)) ∧ w4.cell? ⟨bi, 0, none⟩ = some (.int .i64 (N : Int)) ∧ w4.cell? ⟨bi, 1, none⟩ = some (.slice A fl cap))) := ⟨h4, fr_same HX.out.2.1 (fr_aT1 hF4'), e4⟩
          clear hD4 hF4 hF4' h4 e4)
       | (go_at_call 53
          (with_reducible refine Calls.mono (pstep_ok a P (wrL L f) (D1.write G fb) _ R4.out.1 H.out.2.1.pd) ?_)
          rintro e w5 ⟨rfl, h5, hF5⟩
          have e5 : w5.cell? ⟨a.gp, 0, none⟩ = some (.pointer (some ⟨a.gd, 0, none⟩)) ∧ w5.cell? ⟨a.gp, 2, none⟩ = some (.int .i64 (P.base : Int)) ∧ w5.cell? ⟨bi, 0, none⟩ = some (.int .i64 (N : Int)) ∧ w5.cell? ⟨bi, 1, none⟩ = some (.slice A fl cap) := by
            have z0 := h5.pool.blk.cell 0
            have z2 := h5.pool.blk.cell 2
            simp [plCells] at z0 z2
            have hne : ¬ bi = a.gp := fun e => by
              obtain ⟨_, _, hB, _⟩ := R4.out.1.pool.each i hi
              rw [H.out.2.2.2.2.2.1, e] at hB
              exact hB.ty.ne R4.out.1.pool.blk.ty (by decide)
            have hlt4 : bi < w4.heap.size := by have := R4.out.2.1.size; omega
            exact ⟨z0, z2, (World.cell?_of_block (w := w4) (hF5.block _ hlt4 hne)).trans R4.out.2.2.2.2.1, (World.cell?_of_block (w := w4) (hF5.block _ hlt4 hne)).trans R4.out.2.2.2.2.2⟩
          have R5 : Aside (PSt w5 a P (wrL L f) (D1.write G fb) ∧ Fr (aT a) w w5 ∧ (w5.cell? ⟨a.gp, 0, none⟩ = some (.pointer (some ⟨a.gd, 0, none⟩)) ∧ w5.cell? ⟨a.gp, 2, none⟩ = some (.int .i64 (P.base : Int)) ∧ w5.cell? ⟨bi, 0, none⟩ = some (.int .i64 (N : Int)) ∧ w5.cell? ⟨bi, 1, none⟩ = some (.slice A fl cap))) := ⟨h5, fr_same R4.out.2.1 (fr_aT2 (fr_gp hF5)), e5⟩
          clear h5 hF5 e5))
    have z9 := R5.out.1.pool.blk.cell 9
    have y9 := R5.out.1.pool.blk.frozen 9
    simp [plCells] at z9
    obtain ⟨_, _, _, hRd5, hBk5⟩ := (R5.out.1.pool.each i hi).cells
    rw [H.out.2.2.2.2.2.1] at hBk5
    have z3 := hBk5.cell 3
    have y3 := hBk5.frozen 3
    simp [frmCells] at z3
    clear hRd5 hBk5
    go_wp2_with fail
    go_ret
    have h6 := R5.out.1.frmCell i hi { P.frames[i] with dirty := false } 3 (.bool false) rfl (fun bv => by simp [frmCells])
    rw [H.out.2.2.2.2.2.1, H.out.2.2.1] at h6
    obtain ⟨h7, hF7⟩ := h6.1.pool.setCell_ (P' := wrP P i f) 9 (.bool true) (by simp [plCells, wrP]) rfl rfl rfl
    refine ⟨rfl, ?_, fr_same (fr_same R5.out.2.1 (fr_aT2 h6.2)) (fr_aT2 (fr_gp hF7))⟩
    rw [HX.out.2.2.2, HR.out.2]
    exact h6.1.onPool0 (fr_gp hF7) h7
  · have dS : decide (S ≤ f.lsn) = false := by simpa using hS
    rw [dS]
    obtain ⟨wX, hwX⟩ : ∃ wX, w.drew = wX := ⟨_, rfl⟩
    have hbX : Below w.heap.size w wX := by rw [← hwX]; exact bl_drew (Below.refl _ _)
    rw [hwX]
    clear hwX
    obtain ⟨D1, hD1⟩ : ∃ D1, D = D1 := ⟨_, rfl⟩
    have HX : Aside (PSt wX a P (wrL L f) D1 ∧ Fr (aT a) w wX ∧ DkNext D D1 L.first (L.first + L.count) (L.count + 1) ∧ wrD D L f P.base = D1.write G f.bytes) := by
      have hn : ¬ L.lsn L.safe ≤ f.lsn := by rw [HS.out]; exact hS
      refine ⟨?_, Fr.of_below hbX _, ?_, ?_⟩
      · rw [wrL, if_neg hn, ← hD1]; exact H.out.1.below hbX
      · rw [← hD1]; exact ⟨rfl, H.out.2.1.dp, H.out.2.1.doff, H.out.2.1.dw, by omega, by omega, fun _ _ _ => rfl⟩
      · rw [wrD, if_neg hn, hD1, H.out.2.2.2.1, ← H.out.2.2.2.2.1]; rfl
    clear hD1 hbX
    have cP := fun j => HX.out.1.pool.blk.cell j
    have c0 := cP 0
    have c2 := cP 2
    have f9 := HX.out.1.pool.blk.frozen 9
    have c9 := cP 9
    simp [plCells] at c0 c2 c9
    have hfa := HX.out.1.pool.each i hi
    rw [H.out.2.2.2.2.2.1, H.out.2.2.1] at hfa
    obtain ⟨A, cap, ⟨hcap, hcm⟩, hRd, hBk⟩ := hfa.cells
    have k0 := hBk.cell 0
    have k1 := hBk.cell 1
    simp [frmCells] at k0 k1
    rw [H.out.2.2.2.1] at k0
    obtain ⟨fb, hfb⟩ : ∃ fb, f.bytes = fb := ⟨_, rfl⟩
    obtain ⟨fl, hfl⟩ : ∃ fl, fb.length = fl := ⟨_, rfl⟩
    rw [hfb] at hRd k1 hb
    rw [hfl] at hRd k1 hb
    have HR : Aside (RdB wX A fl fb ∧ f.bytes = fb) := ⟨hRd, hfb⟩
    clear hRd hBk hfa cP hcap hfb hfl
    have hltX : a.gp < wX.heap.size := HX.out.1.pool.blk.lt
    have hblX : bi < wX.heap.size := HX.out.1.pool.lt (.inr (.inr (.inl (by rw [← H.out.2.2.2.2.2.1]; exact bk_mem (by rw [H.out.1.pool.blen]; exact hi)))))
    have q0 : ∀ W, Below wX.heap.size wX W → W.cell? ⟨a.gp, 0, none⟩ = some (.pointer (some ⟨a.gd, 0, none⟩)) ∧ W.cell? ⟨a.gp, 2, none⟩ = some (.int .i64 (P.base : Int)) ∧ W.cell? ⟨bi, 0, none⟩ = some (.int .i64 (N : Int)) ∧ W.cell? ⟨bi, 1, none⟩ = some (.slice A fl cap) := fun W hW => ⟨(hW.cell (p := ⟨a.gp, 0, none⟩) hltX).trans c0, (hW.cell (p := ⟨a.gp, 2, none⟩) hltX).trans c2, (hW.cell (p := ⟨bi, 0, none⟩) hblX).trans k0, (hW.cell (p := ⟨bi, 1, none⟩) hblX).trans k1⟩
    have q1 : ∀ W, Fr (fun b => b = a.gd ∨ b = a.gm) wX W ∨ Fr (fun b => b = a.gp) wX W → True := fun _ _ => trivial
    have Q0 := hid q0
    clear q0 q1
    go_wp2_with fail
    go_region_held3 (fun w' => w'.cell? ⟨a.gp, 0, none⟩ = some (.pointer (some ⟨a.gd, 0, none⟩)) ∧ w'.cell? ⟨a.gp, 2, none⟩ = some (.int .i64 (P.base : Int)) ∧ w'.cell? ⟨bi, 0, none⟩ = some (.int .i64 (N : Int)) ∧ w'.cell? ⟨bi, 1, none⟩ = some (.slice A fl cap))
      (first | exact ⟨c0, c2, k0, k1⟩ | exact R5.out.2.2 | exact R4.out.2.2)
      (first
       | (go_at_call 81
          (with_reducible refine Calls.mono (write_any a.gd a.gs a.gm D1 G fl cap A fb _ (HX.out.1.ld.disk.below (by repeat (first | exact Below.refl _ _ | refine bl_drew ?_))) HX.out.2.2.1.wf HX.out.2.2.1.plan HX.out.2.2.1.off (by rw [HX.out.2.2.1.len]; exact H.out.2.2.2.2.2.2) (HR.out.1.below (by repeat (first | exact Below.refl _ _ | refine bl_drew ?_))) hb) ?_)
          rintro e w4 ⟨rfl, hD4, hF4⟩
          have hF4' : Fr (aL a) wX w4 := ((Fr.refl _ _).drewN 1).trans (fr_aL ((fr_dT hF4).mono fun _ _ e => .inr e)) (fun _ _ h => h)
          have h4 : PSt w4 a P (wrL L f) (D1.write G fb) := HX.out.1.onLD hF4' (Nx.refl _ _) ((HX.out.1.ld.below (bl_drew (Below.refl _ _))).onDisk (fr_dT hF4) hD4)
          have e4 : w4.cell? ⟨a.gp, 0, none⟩ = some (.pointer (some ⟨a.gd, 0, none⟩)) ∧ w4.cell? ⟨a.gp, 2, none⟩ = some (.int .i64 (P.base : Int)) ∧ w4.cell? ⟨bi, 0, none⟩ = some (.int .i64 (N : Int)) ∧ w4.cell? ⟨bi, 1, none⟩ = some (.slice A fl cap) := by
            have hg : ¬ aL a a.gp := fun hl => HX.out.1.apart hl (.inl rfl)
            have hg2 : ¬ aL a bi := fun hl => HX.out.1.apart hl (.inr (.inr (.inl (by rw [← H.out.2.2.2.2.2.1]; exact bk_mem (by rw [H.out.1.pool.blen]; exact hi)))))
            exact ⟨(World.cell?_of_block (w := wX) (hF4'.block _ hltX hg)).trans c0, (World.cell?_of_block (w := wX) (hF4'.block _ hltX hg)).trans c2, (World.cell?_of_block (w := wX) (hF4'.block _ hblX hg2)).trans k0, (World.cell?_of_block (w := wX) (hF4'.block _ hblX hg2)).trans k1⟩
          have R4 : Aside (PSt w4 a P (wrL L f) (D1.write G fb) ∧ Fr (aT a) w w4 ∧ (w4.cell? ⟨a.gp, 0, none⟩ = some (.pointer (some ⟨a.gd, 0, none⟩)) ∧ w4.cell? ⟨a.gp, 2, none⟩ = some (.int .i64 (P.base : Int)) ∧ w4.cell? ⟨bi, 0, none⟩ = some (.int .i64 (N : Int)) ∧ w4.cell? ⟨bi, 1, none⟩ = some (.slice A fl cap))) := ⟨h4, fr_same HX.out.2.1 (fr_aT1 hF4'), e4⟩
          clear hD4 hF4 hF4' h4 e4)
       | (go_at_call 53
          (with_reducible refine Calls.mono (pstep_ok a P (wrL L f) (D1.write G fb) _ R4.out.1 H.out.2.1.pd) ?_)
          rintro e w5 ⟨rfl, h5, hF5⟩
          have e5 : w5.cell? ⟨a.gp, 0, none⟩ = some (.pointer (some ⟨a.gd, 0, none⟩)) ∧ w5.cell? ⟨a.gp, 2, none⟩ = some (.int .i64 (P.base : Int)) ∧ w5.cell? ⟨bi, 0, none⟩ = some (.int .i64 (N : Int)) ∧ w5.cell? ⟨bi, 1, none⟩ = some (.slice A fl cap) := by
            have z0 := h5.pool.blk.cell 0
            have z2 := h5.pool.blk.cell 2
            simp [plCells] at z0 z2
            have hne : ¬ bi = a.gp := fun e => by
              obtain ⟨_, _, hB, _⟩ := R4.out.1.pool.each i hi
              rw [H.out.2.2.2.2.2.1, e] at hB
              exact hB.ty.ne R4.out.1.pool.blk.ty (by decide)
            have hlt4 : bi < w4.heap.size := by have := R4.out.2.1.size; omega
            exact ⟨z0, z2, (World.cell?_of_block (w := w4) (hF5.block _ hlt4 hne)).trans R4.out.2.2.2.2.1, (World.cell?_of_block (w := w4) (hF5.block _ hlt4 hne)).trans R4.out.2.2.2.2.2⟩
          have R5 : Aside (PSt w5 a P (wrL L f) (D1.write G fb) ∧ Fr (aT a) w w5 ∧ (w5.cell? ⟨a.gp, 0, none⟩ = some (.pointer (some ⟨a.gd, 0, none⟩)) ∧ w5.cell? ⟨a.gp, 2, none⟩ = some (.int .i64 (P.base : Int)) ∧ w5.cell? ⟨bi, 0, none⟩ = some (.int .i64 (N : Int)) ∧ w5.cell? ⟨bi, 1, none⟩ = some (.slice A fl cap))) := ⟨h5, fr_same R4.out.2.1 (fr_aT2 (fr_gp hF5)), e5⟩
          clear h5 hF5 e5))
    have z9 := R5.out.1.pool.blk.cell 9
    have y9 := R5.out.1.pool.blk.frozen 9
    simp [plCells] at z9
    obtain ⟨_, _, _, hRd5, hBk5⟩ := (R5.out.1.pool.each i hi).cells
    rw [H.out.2.2.2.2.2.1] at hBk5
    have z3 := hBk5.cell 3
    have y3 := hBk5.frozen 3
    simp [frmCells] at z3
    clear hRd5 hBk5
    go_wp2_with fail
    go_ret
    have h6 := R5.out.1.frmCell i hi { P.frames[i] with dirty := false } 3 (.bool false) rfl (fun bv => by simp [frmCells])
    rw [H.out.2.2.2.2.2.1, H.out.2.2.1] at h6
    obtain ⟨h7, hF7⟩ := h6.1.pool.setCell_ (P' := wrP P i f) 9 (.bool true) (by simp [plCells, wrP]) rfl rfl rfl
    refine ⟨rfl, ?_, fr_same (fr_same R5.out.2.1 (fr_aT2 h6.2)) (fr_aT2 (fr_gp hF7))⟩
    rw [HX.out.2.2.2, HR.out.2]
    exact h6.1.onPool0 (fr_gp hF7) h7
end Go.Proofs.YthfidlhefkjpdaaGreatDoor
