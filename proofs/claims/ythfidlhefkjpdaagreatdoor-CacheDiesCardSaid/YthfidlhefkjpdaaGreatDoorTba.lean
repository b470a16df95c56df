/- cache.room where a frame leaves. -/
import Derived.Test.YthfidlhefkjpdaaGreatDoorTaz
namespace Go.Proofs.YthfidlhefkjpdaaGreatDoor
open Go.RowKit Go.Maps

def evP (P : Pl) (fs : List Frm) (hd i : Nat) (f : Frm) : Pl := { P with frames := fs.set i frm0, hand := hd, atm := fun k => if k = f.n then none else P.atm k, loose := P.loose || f.dirty }
def evL (L : Lg) (f : Frm) : Lg := if f.dirty = true then wrL L f else L
def evD (D : Dk) (L : Lg) (f : Frm) (base : Nat) : Dk := if f.dirty = true then wrD D L f base else D

theorem cwrite_at (a : Ad) (P : Pl) (L : Lg) (D : Dk) (i bi : Nat) (f : Frm) (w : World) (h : PSt w a P L D) (ho : Ok P L D) (hf : P.frames[i]? = some f) (hbi : a.bk.getD i 0 = bi) (hn0 : 0 ≤ f.n) (hn1 : f.n < P.count) (hb : f.bytes.length ≤ 512) :
    Calls Tryz.prog 52 #[.pointer (some ⟨a.gp, 0, none⟩), .pointer (some ⟨bi, 0, none⟩)] w fun e w' => e = .returned (.int .i64 0) ∧
      PSt w' a (wrP P i f) (wrL L f) (wrD D L f P.base) ∧ Fr (aT a) w w' := by
  obtain ⟨hi, rfl⟩ := List.getElem?_eq_some_iff.1 hf
  subst hbi
  exact cwrite_any a P L D i w h ho hi hn0 hn1 hb
theorem mapTurned_fr {w w' : World} {b : Nat} (h : w.mapTurned w' b) : Fr (· = b) w w' := Fr.of_only h.grown

/-- The frame is emptied, its entry in the map is gone. -/
theorem PSt.emptied {w w' : World} {a : Ad} {P : Pl} {L : Lg} {D : Dk} {i : Nat} {k : Int} (h : PSt w a P L D) (hi : i < P.frames.length) (hm : MapAt Tryz.prog 3 w' a.ga a.ma (fun j => if j = k then none else atV a.bk P.atm j)) (ht : w.mapTurned w' a.ga) (hl : a.pb ≤ a.bk.getD i 0) :
    PSt w' a { P with atm := fun j => if j = k then none else P.atm j } L D ∧ Fr (pT a) w w' := by
  have hF := mapTurned_fr ht
  have hFp : Fr (pT a) w w' := hF.mono fun _ _ e => .inr (.inr (.inr (.inl e)))
  have hne : ∀ b t, Ty w b t → b ≠ a.ga := fun b t hb e => by subst e; exact map_ty h.pool.atm hb
  refine ⟨h.onPool0 hFp ⟨h.pool.blk.fr hF (hne _ _ h.pool.blk.ty), own_fr h.pool.row hF (fun b hb => hne b _ (own_ty h.pool.row hb)), h.pool.blen, fun j hj => (h.pool.each j hj).fr hF ?_ (fun x hx _ _ => hne x _ hx), h.pool.nodup, ?_, h.pool.pin.block (hF.block _ h.pool.pin.lt (fun e => h.pool.ne e.symm)), h.pool.lp, h.pool.la, h.pool.ln, h.pool.ne, fun b hb => Nat.lt_of_lt_of_le (h.pool.ol b hb) hF.size⟩, hFp⟩
  · obtain ⟨_, _, q, _⟩ := h.pool.each j hj
    exact hne _ _ q.ty
  · have e : atV a.bk (fun j => if j = k then none else P.atm j) = (fun j => if j = k then none else atV a.bk P.atm j) := by
      funext j
      unfold atV
      by_cases hj : j = k
      · simp [hj]
      · simp [hj]
    show MapAt _ _ _ _ _ (atV a.bk (fun j => if j = k then none else P.atm j))
    rw [e]
    exact hm

def frmSet (w : World) (b : Nat) (f : Frm) (bv : Value) : World :=
  (((((w.setCell ⟨b, 0, none⟩ (.int .i64 f.n)).setCell ⟨b, 1, none⟩ bv).setCell ⟨b, 2, none⟩ (.int .i64 f.lsn)).setCell ⟨b, 3, none⟩ (.bool f.dirty)).setCell ⟨b, 4, none⟩ (.int .i64 f.since)).setCell ⟨b, 5, none⟩ (.bool f.used)
/-- A frame is set whole. -/
theorem PSt.frmAll {w : World} {a : Ad} {P : Pl} {L : Lg} {D : Dk} {i bi : Nat} (h : PSt w a P L D) (hi : i < P.frames.length) (hbi : a.bk.getD i 0 = bi) (f' : Frm) (bv' : Value)
    (hO : w.ownsRow a.pb 5 1 bv' f'.bytes.length (f'.bytes.map u8)) (hsv : ∀ b, bv'.ownBlock = some b → a.sv.ownBlock ≠ some b ∧ a.ov.ownBlock ≠ some b) :
    PSt (frmSet w bi f' bv') a { P with frames := P.frames.set i f' } L D ∧ Fr (pT a) w (frmSet w bi f' bv') := by
  have hil : i < a.bk.length := by rw [h.pool.blen]; exact hi
  have hF : Fr (· = bi) w (frmSet w bi f' bv') := ((((((Fr.refl (· = bi) w).set (p := ⟨bi, 0, none⟩) (.inl rfl) _).set (p := ⟨bi, 1, none⟩) (.inl rfl) _).set (p := ⟨bi, 2, none⟩) (.inl rfl) _).set (p := ⟨bi, 3, none⟩) (.inl rfl) _).set (p := ⟨bi, 4, none⟩) (.inl rfl) _).set (p := ⟨bi, 5, none⟩) (.inl rfl) _
  obtain ⟨h1, bv, h2, h3, h4⟩ := h.pool.each i hi
  rw [hbi] at h1 h2
  have hB : Blk (frmSet w bi f' bv') bi 96 (frmCells f' bv') := by
    have := (((((h2.set_ 0 (.int .i64 f'.n)).set_ 1 bv').set_ 2 (.int .i64 f'.lsn)).set_ 3 (.bool f'.dirty)).set_ 4 (.int .i64 f'.since)).set_ 5 (.bool f'.used)
    simpa [frmCells, frmSet] using this
  have hf : FrmAt (frmSet w bi f' bv') a.pb a.sv a.ov bi f' := ⟨h1, bv', hB, own_fr hO hF (fun b hb e => by subst e; exact (own_ty hO hb).ne h2.ty (by decide)), hsv⟩
  have hFp : Fr (pT a) w (frmSet w bi f' bv') := hF.mono fun _ _ e => by rw [e, ← hbi]; exact .inr (.inr (.inl (bk_mem hil)))
  refine ⟨h.onPool0 hFp (h.pool.setFrm i hi (by rw [hbi]; exact hF) f' (by rw [hbi]; exact hf)), hFp⟩

set_option maxRecDepth 100000 in
set_option maxHeartbeats 2000000 in
theorem croom_old (a : Ad) (P : Pl) (L : Lg) (D : Dk) (w : World) (n i hd : Nat) (fs : List Frm) (f : Frm) (h : PSt w a P L D) (ho : Ok P L D) (hn : P.frames.length = n) (hn0 : 0 < n) (hn1 : n ≤ 64) (hh : P.hand < n) (hfull : Full P) (hlt : P.most ≤ n) (hc : P.count ≤ 4096)
    (hv : vict P.pins (2 * n) P.frames P.hand = (some i, fs, hd)) (hf : fs[i]? = some f) :
    Calls Tryz.prog 90 #[.pointer (some ⟨a.gp, 0, none⟩)] w fun e w' => e = .returned (.tuple #[.pointer (some ⟨a.bk.getD i 0, 0, none⟩), .int .i64 0]) ∧ PSt w' a (evP P fs hd i f) (evL L f) (evD D L f P.base) ∧ Fr (aT a) w w' := by
  have hsame : SameF fs P.frames := by have := vict_same P.pins (2 * n) P.frames P.hand P.frames (SameF.refl _); rw [hv] at this; exact this
  have hfl : fs.length = n := hsame.1.trans hn
  have hil : i < fs.length := (List.getElem?_eq_some_iff.1 hf).1
  obtain ⟨hf0, hf1, hf2⟩ := hsame.full hfull f (List.mem_of_getElem? hf)
  have hvi := fun W (hW : PSt W a P L D) => cvictim_any a P L D n W hW hn hn0 hn1 hh (fun f hf => by obtain ⟨h1, h2, _⟩ := hfull f hf; unfold wf64; omega)
  rw [hv] at hvi
  obtain ⟨fA, fcap, hfv, hfc, hfm, -⟩ := own_form h.pool.row
  have c5 := h.pool.blk.cell 5
  have c4 := h.pool.blk.cell 4
  simp [plCells] at c5 c4
  rw [hn] at hfv
  rw [hfv] at c5
  obtain ⟨mo, hmo⟩ : ∃ mo, P.most = mo := ⟨_, rfl⟩
  rw [hmo] at c4 hlt
  have dlt : decide (n < mo) = false := by simp; omega
  have dlt' : decide ((n : Int) < (mo : Int)) = false := by simp; omega
  obtain ⟨bi, hbi⟩ : ∃ bi, a.bk.getD i 0 = bi := ⟨_, rfl⟩
  obtain ⟨fn, hfn⟩ : ∃ fn, f.n = fn := ⟨_, rfl⟩
  have hwfn : wf64 fn := by rw [← hfn]; unfold wf64; omega
  have H : Aside (PSt w a P L D ∧ Ok P L D ∧ fs[i]? = some f ∧ i < fs.length ∧ f.n = fn ∧ a.bk.getD i 0 = bi ∧ wf64 fn ∧ fs.length = n ∧ (0 ≤ f.n ∧ f.n < P.count ∧ f.bytes.length = 512)) := ⟨h, ho, hf, hil, hfn, hbi, hwfn, hfl, hf0, hf1, hf2⟩
  have HV := hid hvi
  rw [hbi]
  clear h ho hn hfv hmo hvi hv hfull hf hil hfn hbi hwfn hfl hf0 hf1 hf2 hsame
  go_enter Tryz.func90, Tryz.ntmps90
  go_wp2_with fail
  go_region_held3 (fun w' => w'.cell? ⟨a.gp, 5, none⟩ = some (.slice fA n fcap) ∧ w'.cell? ⟨a.gp, 4, none⟩ = some (.int .i64 (mo : Int))) (exact ⟨c5, c4⟩) (fail)
  go_wp2_with fail
  refine (HV.out w.drew (H.out.1.below (bl_drew (Below.refl _ _)))).mono ?_
  rintro e w2 ⟨rfl, h2, hF2⟩
  have H2 : Aside (PSt w2 a { P with frames := fs, hand := hd } L D ∧ Fr (pT a) w w2) := ⟨h2, (Fr.drew (Fr.refl (pT a) w)).trans hF2 (fun _ _ h => h)⟩
  clear h2 hF2
  dsimp only
  rw [H.out.2.2.2.2.2.1]
  have hFa2 : FrmAt w2 a.pb a.sv a.ov bi f := H2.out.1.pool.frame (P := { P with frames := fs, hand := hd }) H.out.2.2.1 H.out.2.2.2.2.2.1
  obtain ⟨_, _, _, _, hBk2⟩ := hFa2.cells
  have k3 := hBk2.cell 3
  simp [frmCells] at k3
  obtain ⟨fd, hfd⟩ : ∃ fd, f.dirty = fd := ⟨_, rfl⟩
  rw [hfd] at k3
  have HFD := hid hfd
  clear hBk2 hFa2 hfd c4 c5
  cases fd with
  | true =>
    go_wp2_with fail
    refine (cwrite_at a { P with frames := fs, hand := hd } L D i bi f w2 H2.out.1 ⟨H.out.2.1.lw, H.out.2.1.ld, H.out.2.1.dw, H.out.2.1.dp, H.out.2.1.doff, H.out.2.1.lf, H.out.2.1.pd, H.out.2.1.pb, H.out.2.1.st⟩ H.out.2.2.1 H.out.2.2.2.2.2.1 H.out.2.2.2.2.2.2.2.2.1 H.out.2.2.2.2.2.2.2.2.2.1 (by rw [H.out.2.2.2.2.2.2.2.2.2.2]; omega)).mono ?_
    rintro e w3 ⟨rfl, h3, hF3⟩
    have H3 : Aside (PSt w3 a (wrP { P with frames := fs, hand := hd } i f) (wrL L f) (wrD D L f P.base) ∧ Fr (aT a) w w3) := ⟨h3, fr_same (fr_aT2 H2.out.2) hF3⟩
    clear h3 hF3
    go_wp2_with fail
    obtain ⟨wX, hwX⟩ : ∃ wX, w3 = wX := ⟨_, rfl⟩
    obtain ⟨fsX, hfsX⟩ : ∃ fsX, fs.set i { f with dirty := false } = fsX := ⟨_, rfl⟩
    obtain ⟨lX, hlX⟩ : ∃ lX, true = lX := ⟨_, rfl⟩
    obtain ⟨fX, hfX⟩ : ∃ fX, ({ f with dirty := false } : Frm) = fX := ⟨_, rfl⟩
    obtain ⟨L1, hL1⟩ : ∃ L1, wrL L f = L1 := ⟨_, rfl⟩
    obtain ⟨D1, hD1⟩ : ∃ D1, wrD D L f P.base = D1 := ⟨_, rfl⟩
    have HX : Aside (PSt wX a { P with frames := fsX, hand := hd, loose := lX } L1 D1 ∧ Fr (aT a) w wX ∧ fsX[i]? = some fX ∧ i < fsX.length ∧ fX.n = fn ∧ fsX.set i frm0 = fs.set i frm0 ∧ lX = (P.loose || f.dirty) ∧ L1 = evL L f ∧ D1 = evD D L f P.base) := by
      subst hwX hfsX hlX hfX hL1 hD1
      refine ⟨H3.out.1, H3.out.2, by rw [List.getElem?_set_self H.out.2.2.2.1], by rw [List.length_set]; exact H.out.2.2.2.1, H.out.2.2.2.2.1, List.set_set .., by rw [HFD.out, Bool.or_true], ?_, ?_⟩
      · rw [evL, HFD.out]; rfl
      · rw [evD, HFD.out]; rfl
    rw [hwX]
    clear hwX hfsX hlX hfX hL1 hD1
    have c6 := HX.out.1.pool.blk.cell 6
    simp [plCells] at c6
    have hiX : i < fsX.length := HX.out.2.2.2.1
    have hFa : FrmAt wX a.pb a.sv a.ov bi fX := HX.out.1.pool.frame (P := { P with frames := fsX, hand := hd, loose := lX }) HX.out.2.2.1 H.out.2.2.2.2.2.1
    obtain ⟨_, _, _, _, hBk⟩ := hFa.cells
    have k0 := hBk.cell 0
    simp [frmCells] at k0
    rw [HX.out.2.2.2.2.1] at k0
    obtain ⟨wd, hdel0, hmd, htd⟩ := (HX.out.1.pool.atm.block (w' := wX.drew) rfl).drop (t := 102) (e := 94) Tryz.underlying3 Tryz.underlying102 (k := fn) H.out.2.2.2.2.2.2.1 0
    have hdel : ∀ ty, (Builtin.delete_ #[102, 3] ty #[.map (some a.ga), .int .i64 fn]).run Tryz.prog wX.drew = .ok (.tuple #[]) wd := fun ty => hdel0
    obtain ⟨hPd, hFd⟩ := (HX.out.1.below (bl_drew (Below.refl _ _))).emptied (i := i) (k := fn) (P := { P with frames := fsX, hand := hd, loose := lX }) hiX hmd htd (by have := HX.out.1.pool.each i hiX; exact this.1)
    have HD : Aside (PSt wd a { P with frames := fsX, hand := hd, loose := lX, atm := fun j => if j = fn then none else P.atm j } L1 D1 ∧ Fr (aT a) w wd) := ⟨hPd, fr_same HX.out.2.1 (fr_aT2 ((Fr.drew (Fr.refl (pT a) wX)).trans hFd (fun _ _ h => h)))⟩
    have hFad : FrmAt wd a.pb a.sv a.ov bi fX := HD.out.1.pool.frame (P := { P with frames := fsX, hand := hd, loose := lX, atm := fun j => if j = fn then none else P.atm j }) HX.out.2.2.1 H.out.2.2.2.2.2.1
    obtain ⟨hpd, bvd, hBd, -, -⟩ := hFad
    have z0 := hBd.cell 0
    have z1 := hBd.cell 1
    have z2 := hBd.cell 2
    have z3 := hBd.cell 3
    have z4 := hBd.cell 4
    have z5 := hBd.cell 5
    simp [frmCells] at z0 z1 z2 z3 z4 z5
    have y0 := hBd.frozen 0
    have y1 := hBd.frozen 1
    have y2 := hBd.frozen 2
    have y3 := hBd.frozen 3
    have y4 := hBd.frozen 4
    have y5 := hBd.frozen 5
    have HB := hid hBd
    clear hdel0 hmd htd hPd hFd hFa hBk hBd
    have c6d : wX.drew.cell? ⟨a.gp, 6, none⟩ = some (.map (some a.ga)) := c6
    have k0d : wX.drew.cell? ⟨bi, 0, none⟩ = some (.int .i64 fn) := k0
    go_wp2_with fail
    go_region_law (fail)
    all_goals go_wp2_with fail
    all_goals go_ret2
    all_goals
      obtain ⟨hq, hFq⟩ := HD.out.1.frmAll (P := { P with frames := fsX, hand := hd, loose := lX, atm := fun j => if j = fn then none else P.atm j }) hiX H.out.2.2.2.2.2.1 frm0 (.slice none 0 0) (World.ownsRow_nil _ _ _ _) (fun b hb => by cases hb)
      refine ⟨rfl, ?_, fr_same HD.out.2 (fr_aT2 hFq)⟩
      have e : evP P fs hd i f = { P with frames := fsX.set i frm0, hand := hd, loose := lX, atm := fun j => if j = fn then none else P.atm j } := by
        rw [evP, HX.out.2.2.2.2.2.1, HX.out.2.2.2.2.2.2.1, H.out.2.2.2.2.1]
      rw [e, ← HX.out.2.2.2.2.2.2.2.1, ← HX.out.2.2.2.2.2.2.2.2]
      exact hq
  | false =>
    go_wp2_with fail
    obtain ⟨wX, hwX⟩ : ∃ wX, w2 = wX := ⟨_, rfl⟩
    obtain ⟨fsX, hfsX⟩ : ∃ fsX, fs = fsX := ⟨_, rfl⟩
    obtain ⟨lX, hlX⟩ : ∃ lX, P.loose = lX := ⟨_, rfl⟩
    obtain ⟨fX, hfX⟩ : ∃ fX, f = fX := ⟨_, rfl⟩
    obtain ⟨L1, hL1⟩ : ∃ L1, L = L1 := ⟨_, rfl⟩
    obtain ⟨D1, hD1⟩ : ∃ D1, D = D1 := ⟨_, rfl⟩
    have HX : Aside (PSt wX a { P with frames := fsX, hand := hd, loose := lX } L1 D1 ∧ Fr (aT a) w wX ∧ fsX[i]? = some fX ∧ i < fsX.length ∧ fX.n = fn ∧ fsX.set i frm0 = fs.set i frm0 ∧ lX = (P.loose || f.dirty) ∧ L1 = evL L f ∧ D1 = evD D L f P.base) := by
      subst hwX hfsX hlX hfX hL1 hD1
      refine ⟨H2.out.1, fr_aT2 H2.out.2, H.out.2.2.1, H.out.2.2.2.1, H.out.2.2.2.2.1, rfl, by rw [HFD.out, Bool.or_false], ?_, ?_⟩
      · rw [evL, HFD.out]; rfl
      · rw [evD, HFD.out]; rfl
    rw [hwX]
    clear hwX hfsX hlX hfX hL1 hD1
    have c6 := HX.out.1.pool.blk.cell 6
    simp [plCells] at c6
    have hiX : i < fsX.length := HX.out.2.2.2.1
    have hFa : FrmAt wX a.pb a.sv a.ov bi fX := HX.out.1.pool.frame (P := { P with frames := fsX, hand := hd, loose := lX }) HX.out.2.2.1 H.out.2.2.2.2.2.1
    obtain ⟨_, _, _, _, hBk⟩ := hFa.cells
    have k0 := hBk.cell 0
    simp [frmCells] at k0
    rw [HX.out.2.2.2.2.1] at k0
    obtain ⟨wd, hdel0, hmd, htd⟩ := (HX.out.1.pool.atm.block (w' := wX.drew) rfl).drop (t := 102) (e := 94) Tryz.underlying3 Tryz.underlying102 (k := fn) H.out.2.2.2.2.2.2.1 0
    have hdel : ∀ ty, (Builtin.delete_ #[102, 3] ty #[.map (some a.ga), .int .i64 fn]).run Tryz.prog wX.drew = .ok (.tuple #[]) wd := fun ty => hdel0
    obtain ⟨hPd, hFd⟩ := (HX.out.1.below (bl_drew (Below.refl _ _))).emptied (i := i) (k := fn) (P := { P with frames := fsX, hand := hd, loose := lX }) hiX hmd htd (by have := HX.out.1.pool.each i hiX; exact this.1)
    have HD : Aside (PSt wd a { P with frames := fsX, hand := hd, loose := lX, atm := fun j => if j = fn then none else P.atm j } L1 D1 ∧ Fr (aT a) w wd) := ⟨hPd, fr_same HX.out.2.1 (fr_aT2 ((Fr.drew (Fr.refl (pT a) wX)).trans hFd (fun _ _ h => h)))⟩
    have hFad : FrmAt wd a.pb a.sv a.ov bi fX := HD.out.1.pool.frame (P := { P with frames := fsX, hand := hd, loose := lX, atm := fun j => if j = fn then none else P.atm j }) HX.out.2.2.1 H.out.2.2.2.2.2.1
    obtain ⟨hpd, bvd, hBd, -, -⟩ := hFad
    have z0 := hBd.cell 0
    have z1 := hBd.cell 1
    have z2 := hBd.cell 2
    have z3 := hBd.cell 3
    have z4 := hBd.cell 4
    have z5 := hBd.cell 5
    simp [frmCells] at z0 z1 z2 z3 z4 z5
    have y0 := hBd.frozen 0
    have y1 := hBd.frozen 1
    have y2 := hBd.frozen 2
    have y3 := hBd.frozen 3
    have y4 := hBd.frozen 4
    have y5 := hBd.frozen 5
    have HB := hid hBd
    clear hdel0 hmd htd hPd hFd hFa hBk hBd
    have c6d : wX.drew.cell? ⟨a.gp, 6, none⟩ = some (.map (some a.ga)) := c6
    have k0d : wX.drew.cell? ⟨bi, 0, none⟩ = some (.int .i64 fn) := k0
    go_wp2_with fail
    go_region_law (fail)
    all_goals go_wp2_with fail
    all_goals go_ret2
    all_goals
      obtain ⟨hq, hFq⟩ := HD.out.1.frmAll (P := { P with frames := fsX, hand := hd, loose := lX, atm := fun j => if j = fn then none else P.atm j }) hiX H.out.2.2.2.2.2.1 frm0 (.slice none 0 0) (World.ownsRow_nil _ _ _ _) (fun b hb => by cases hb)
      refine ⟨rfl, ?_, fr_same HD.out.2 (fr_aT2 hFq)⟩
      have e : evP P fs hd i f = { P with frames := fsX.set i frm0, hand := hd, loose := lX, atm := fun j => if j = fn then none else P.atm j } := by
        rw [evP, HX.out.2.2.2.2.2.1, HX.out.2.2.2.2.2.2.1, H.out.2.2.2.2.1]
      rw [e, ← HX.out.2.2.2.2.2.2.2.1, ← HX.out.2.2.2.2.2.2.2.2]
      exact hq
end Go.Proofs.YthfidlhefkjpdaaGreatDoor
