/- cache.room where a frame leaves, under any plan.
   cache.fetch where the page is in a frame, or the call is refused. -/
import Derived.Test.YthfidlhefkjpdaaGreatDoorTax
import Derived.Test.YthfidlhefkjpdaaGreatDoorTba
namespace Go.Proofs.YthfidlhefkjpdaaGreatDoor
open Go.RowKit Go.Maps

theorem cwrite_two_at (a : Ad) (P : Pl) (L : Lg) (D : Dk) (pl : List (Int × Int)) (i bi : Nat) (f : Frm) (w : World) (h : PSt w a P L (D.under pl)) (hpl : pl.length ≤ 70368744175616) (ho : Ok P L D) (hf : P.frames[i]? = some f) (hbi : a.bk.getD i 0 = bi) (hn0 : 0 ≤ f.n) (hn1 : f.n < P.count) (hb : f.bytes.length ≤ 512) :
    Calls Tryz.prog 52 #[.pointer (some ⟨a.gp, 0, none⟩), .pointer (some ⟨bi, 0, none⟩)] w fun e w' => Fr (aT a) w w' ∧
      ((e = .returned (.int .i64 0) ∧ PSt w' a (wrP P i f) (wrL L f) ((wrD D L f P.base).under pl) ∧ Calm pl D.steps (wrD D L f P.base).steps) ∨
       (∃ er L' D', e = .returned (.int .i64 er) ∧ (er == 0) = false ∧ PSt w' a { P with dead := true } L' D' ∧ Lost pl L L' D D' f (P.base + f.n.toNat) (wrD D L f P.base).steps ∧ 0 < er)) := by
  obtain ⟨hi, rfl⟩ := List.getElem?_eq_some_iff.1 hf
  subst hbi
  exact cwrite_two a P L D pl i w h hpl ho hi hn0 hn1 hb

set_option maxRecDepth 100000 in
set_option maxHeartbeats 2000000 in
theorem croom_two (a : Ad) (P : Pl) (L : Lg) (D : Dk) (pl : List (Int × Int)) (w : World) (n i hd : Nat) (fs : List Frm) (f : Frm) (h : PSt w a P L (D.under pl)) (hpl : pl.length ≤ 70368744175616) (ho : Ok P L D) (hn : P.frames.length = n) (hn0 : 0 < n) (hn1 : n ≤ 64) (hh : P.hand < n) (hfull : Full P) (hlt : P.most ≤ n) (hc : P.count ≤ 4096)
    (hv : vict P.pins (2 * n) P.frames P.hand = (some i, fs, hd)) (hf : fs[i]? = some f) :
    Calls Tryz.prog 90 #[.pointer (some ⟨a.gp, 0, none⟩)] w fun e w' => Fr (aT a) w w' ∧
      ((e = .returned (.tuple #[.pointer (some ⟨a.bk.getD i 0, 0, none⟩), .int .i64 0]) ∧ PSt w' a (evP P fs hd i f) (evL L f) ((evD D L f P.base).under pl) ∧ Calm pl D.steps (evD D L f P.base).steps) ∨
       (∃ er L' D', e = .returned (.tuple #[.pointer none, .int .i64 er]) ∧ (er == 0) = false ∧ PSt w' a { P with frames := fs, hand := hd, dead := true } L' D' ∧ Lost pl L L' D D' f (P.base + f.n.toNat) (evD D L f P.base).steps ∧ f.dirty = true)) := by
  have hsame : SameF fs P.frames := by have := vict_same P.pins (2 * n) P.frames P.hand P.frames (SameF.refl _); rw [hv] at this; exact this
  have hfl : fs.length = n := hsame.1.trans hn
  have hil : i < fs.length := (List.getElem?_eq_some_iff.1 hf).1
  obtain ⟨hf0, hf1, hf2⟩ := hsame.full hfull f (List.mem_of_getElem? hf)
  have hvi := fun W (hW : PSt W a P L (D.under pl)) => cvictim_any a P L (D.under pl) n W hW hn hn0 hn1 hh (fun f hf => by obtain ⟨h1, h2, _⟩ := hfull f hf; unfold wf64; omega)
  rw [hv] at hvi
  obtain ⟨fA, fcap, hfv, hfc, hfm, -⟩ := own_form h.pool.row
  have c5 := h.pool.blk.cell 5
  have c4 := h.pool.blk.cell 4
  simp [plCells] at c5 c4
  rw [hn] at hfv
  rw [hfv] at c5
  obtain ⟨mo, hmo⟩ : ∃ mo, P.most = mo := ⟨_, rfl⟩
  rw [hmo] at c4 hlt
  have dlt : decide (n < mo) = false := by simp; omega
  have dlt' : decide ((n : Int) < (mo : Int)) = false := by simp; omega
  obtain ⟨bi, hbi⟩ : ∃ bi, a.bk.getD i 0 = bi := ⟨_, rfl⟩
  obtain ⟨fn, hfn⟩ : ∃ fn, f.n = fn := ⟨_, rfl⟩
  have hwfn : wf64 fn := by rw [← hfn]; unfold wf64; omega
  have H : Aside (PSt w a P L (D.under pl) ∧ Ok P L D ∧ fs[i]? = some f ∧ i < fs.length ∧ f.n = fn ∧ a.bk.getD i 0 = bi ∧ wf64 fn ∧ fs.length = n ∧ (0 ≤ f.n ∧ f.n < P.count ∧ f.bytes.length = 512)) := ⟨h, ho, hf, hil, hfn, hbi, hwfn, hfl, hf0, hf1, hf2⟩
  have HV := hid hvi
  have HPL := hid hpl
  clear hpl
  rw [hbi]
  clear h ho hn hfv hmo hvi hv hfull hf hil hfn hbi hwfn hfl hf0 hf1 hf2 hsame
  go_enter Tryz.func90, Tryz.ntmps90
  go_wp2_with fail
  go_region_held3 (fun w' => w'.cell? ⟨a.gp, 5, none⟩ = some (.slice fA n fcap) ∧ w'.cell? ⟨a.gp, 4, none⟩ = some (.int .i64 (mo : Int))) (exact ⟨c5, c4⟩) (fail)
  go_wp2_with fail
  refine (HV.out w.drew (H.out.1.below (bl_drew (Below.refl _ _)))).mono ?_
  rintro e w2 ⟨rfl, h2, hF2⟩
  have H2 : Aside (PSt w2 a { P with frames := fs, hand := hd } L (D.under pl) ∧ Fr (pT a) w w2) := ⟨h2, (Fr.drew (Fr.refl (pT a) w)).trans hF2 (fun _ _ h => h)⟩
  clear h2 hF2
  dsimp only
  rw [H.out.2.2.2.2.2.1]
  have hFa2 : FrmAt w2 a.pb a.sv a.ov bi f := H2.out.1.pool.frame (P := { P with frames := fs, hand := hd }) H.out.2.2.1 H.out.2.2.2.2.2.1
  obtain ⟨_, _, _, _, hBk2⟩ := hFa2.cells
  have k3 := hBk2.cell 3
  simp [frmCells] at k3
  obtain ⟨fd, hfd⟩ : ∃ fd, f.dirty = fd := ⟨_, rfl⟩
  rw [hfd] at k3
  have HFD := hid hfd
  clear hBk2 hFa2 hfd c4 c5
  cases fd with
  | true =>
    go_wp2_with fail
    refine (cwrite_two_at a { P with frames := fs, hand := hd } L D pl i bi f w2 H2.out.1 HPL.out ⟨H.out.2.1.lw, H.out.2.1.ld, H.out.2.1.dw, H.out.2.1.dp, H.out.2.1.doff, H.out.2.1.lf, H.out.2.1.pd, H.out.2.1.pb, H.out.2.1.st⟩ H.out.2.2.1 H.out.2.2.2.2.2.1 H.out.2.2.2.2.2.2.2.2.1 H.out.2.2.2.2.2.2.2.2.2.1 (by rw [H.out.2.2.2.2.2.2.2.2.2.2]; omega)).mono ?_
    rintro e w3 ⟨hF3, hcase⟩
    have HF3 : Aside (Fr (aT a) w w3) := ⟨fr_same (fr_aT2 H2.out.2) hF3⟩
    clear hF3
    rcases hcase with ⟨rfl, h3, hcalm⟩ | ⟨er, L', D', rfl, her, h3, hlost, -⟩
    case' inr =>
      have H3 : Aside (PSt w3 a { P with frames := fs, hand := hd, dead := true } L' D' ∧ Lost pl L L' D D' f (P.base + f.n.toNat) (evD D L f P.base).steps) := ⟨h3, by rw [evD, HFD.out]; exact hlost⟩
      clear h3 hlost
      go_wp2_with fail
      go_ret2
      exact ⟨HF3.out, .inr ⟨er, L', D', rfl, her, H3.out.1, H3.out.2, HFD.out⟩⟩
    have H3 : Aside (PSt w3 a (wrP { P with frames := fs, hand := hd } i f) (wrL L f) ((wrD D L f P.base).under pl) ∧ Fr (aT a) w w3 ∧ Calm pl D.steps (wrD D L f P.base).steps) := ⟨h3, HF3.out, hcalm⟩
    clear h3 hcalm HF3
    go_wp2_with fail
    obtain ⟨wX, hwX⟩ : ∃ wX, w3 = wX := ⟨_, rfl⟩
    obtain ⟨fsX, hfsX⟩ : ∃ fsX, fs.set i { f with dirty := false } = fsX := ⟨_, rfl⟩
    obtain ⟨lX, hlX⟩ : ∃ lX, true = lX := ⟨_, rfl⟩
    obtain ⟨fX, hfX⟩ : ∃ fX, ({ f with dirty := false } : Frm) = fX := ⟨_, rfl⟩
    obtain ⟨L1, hL1⟩ : ∃ L1, wrL L f = L1 := ⟨_, rfl⟩
    obtain ⟨D1, hD1⟩ : ∃ D1, (wrD D L f P.base).under pl = D1 := ⟨_, rfl⟩
    have HX : Aside (PSt wX a { P with frames := fsX, hand := hd, loose := lX } L1 D1 ∧ Fr (aT a) w wX ∧ fsX[i]? = some fX ∧ i < fsX.length ∧ fX.n = fn ∧ fsX.set i frm0 = fs.set i frm0 ∧ lX = (P.loose || f.dirty) ∧ L1 = evL L f ∧ D1 = (evD D L f P.base).under pl ∧ Calm pl D.steps (evD D L f P.base).steps) := by
      subst hwX hfsX hlX hfX hL1 hD1
      refine ⟨H3.out.1, H3.out.2.1, by rw [List.getElem?_set_self H.out.2.2.2.1], by rw [List.length_set]; exact H.out.2.2.2.1, H.out.2.2.2.2.1, List.set_set .., by rw [HFD.out, Bool.or_true], ?_, ?_, ?_⟩
      · rw [evL, HFD.out]; rfl
      · rw [evD, HFD.out]; rfl
      · rw [evD, HFD.out]; exact H3.out.2.2
    rw [hwX]
    clear hwX hfsX hlX hfX hL1 hD1
    have c6 := HX.out.1.pool.blk.cell 6
    simp [plCells] at c6
    have hiX : i < fsX.length := HX.out.2.2.2.1
    have hFa : FrmAt wX a.pb a.sv a.ov bi fX := HX.out.1.pool.frame (P := { P with frames := fsX, hand := hd, loose := lX }) HX.out.2.2.1 H.out.2.2.2.2.2.1
    obtain ⟨_, _, _, _, hBk⟩ := hFa.cells
    have k0 := hBk.cell 0
    simp [frmCells] at k0
    rw [HX.out.2.2.2.2.1] at k0
    obtain ⟨wd, hdel0, hmd, htd⟩ := (HX.out.1.pool.atm.block (w' := wX.drew) rfl).drop (t := 102) (e := 94) Tryz.underlying3 Tryz.underlying102 (k := fn) H.out.2.2.2.2.2.2.1 0
    have hdel : ∀ ty, (Builtin.delete_ #[102, 3] ty #[.map (some a.ga), .int .i64 fn]).run Tryz.prog wX.drew = .ok (.tuple #[]) wd := fun ty => hdel0
    obtain ⟨hPd, hFd⟩ := (HX.out.1.below (bl_drew (Below.refl _ _))).emptied (i := i) (k := fn) (P := { P with frames := fsX, hand := hd, loose := lX }) hiX hmd htd (by have := HX.out.1.pool.each i hiX; exact this.1)
    have HD : Aside (PSt wd a { P with frames := fsX, hand := hd, loose := lX, atm := fun j => if j = fn then none else P.atm j } L1 D1 ∧ Fr (aT a) w wd) := ⟨hPd, fr_same HX.out.2.1 (fr_aT2 ((Fr.drew (Fr.refl (pT a) wX)).trans hFd (fun _ _ h => h)))⟩
    have hFad : FrmAt wd a.pb a.sv a.ov bi fX := HD.out.1.pool.frame (P := { P with frames := fsX, hand := hd, loose := lX, atm := fun j => if j = fn then none else P.atm j }) HX.out.2.2.1 H.out.2.2.2.2.2.1
    obtain ⟨hpd, bvd, hBd, -, -⟩ := hFad
    have z0 := hBd.cell 0
    have z1 := hBd.cell 1
    have z2 := hBd.cell 2
    have z3 := hBd.cell 3
    have z4 := hBd.cell 4
    have z5 := hBd.cell 5
    simp [frmCells] at z0 z1 z2 z3 z4 z5
    have y0 := hBd.frozen 0
    have y1 := hBd.frozen 1
    have y2 := hBd.frozen 2
    have y3 := hBd.frozen 3
    have y4 := hBd.frozen 4
    have y5 := hBd.frozen 5
    have HB := hid hBd
    clear hdel0 hmd htd hPd hFd hFa hBk hBd
    have c6d : wX.drew.cell? ⟨a.gp, 6, none⟩ = some (.map (some a.ga)) := c6
    have k0d : wX.drew.cell? ⟨bi, 0, none⟩ = some (.int .i64 fn) := k0
    go_wp2_with fail
    go_region_law (fail)
    all_goals go_wp2_with fail
    all_goals go_ret2
    all_goals
      obtain ⟨hq, hFq⟩ := HD.out.1.frmAll (P := { P with frames := fsX, hand := hd, loose := lX, atm := fun j => if j = fn then none else P.atm j }) hiX H.out.2.2.2.2.2.1 frm0 (.slice none 0 0) (World.ownsRow_nil _ _ _ _) (fun b hb => by cases hb)
      refine ⟨fr_same HD.out.2 (fr_aT2 hFq), .inl ⟨rfl, ?_, HX.out.2.2.2.2.2.2.2.2.2⟩⟩
      have e : evP P fs hd i f = { P with frames := fsX.set i frm0, hand := hd, loose := lX, atm := fun j => if j = fn then none else P.atm j } := by
        rw [evP, HX.out.2.2.2.2.2.1, HX.out.2.2.2.2.2.2.1, H.out.2.2.2.2.1]
      rw [e, ← HX.out.2.2.2.2.2.2.2.1, ← HX.out.2.2.2.2.2.2.2.2.1]
      exact hq
  | false =>
    go_wp2_with fail
    obtain ⟨wX, hwX⟩ : ∃ wX, w2 = wX := ⟨_, rfl⟩
    obtain ⟨fsX, hfsX⟩ : ∃ fsX, fs = fsX := ⟨_, rfl⟩
    obtain ⟨lX, hlX⟩ : ∃ lX, P.loose = lX := ⟨_, rfl⟩
    obtain ⟨fX, hfX⟩ : ∃ fX, f = fX := ⟨_, rfl⟩
    obtain ⟨L1, hL1⟩ : ∃ L1, L = L1 := ⟨_, rfl⟩
    obtain ⟨D1, hD1⟩ : ∃ D1, D.under pl = D1 := ⟨_, rfl⟩
    have HX : Aside (PSt wX a { P with frames := fsX, hand := hd, loose := lX } L1 D1 ∧ Fr (aT a) w wX ∧ fsX[i]? = some fX ∧ i < fsX.length ∧ fX.n = fn ∧ fsX.set i frm0 = fs.set i frm0 ∧ lX = (P.loose || f.dirty) ∧ L1 = evL L f ∧ D1 = (evD D L f P.base).under pl ∧ Calm pl D.steps (evD D L f P.base).steps) := by
      subst hwX hfsX hlX hfX hL1 hD1
      refine ⟨H2.out.1, fr_aT2 H2.out.2, H.out.2.2.1, H.out.2.2.2.1, H.out.2.2.2.2.1, rfl, by rw [HFD.out, Bool.or_false], ?_, ?_, ?_⟩
      · rw [evL, HFD.out]; rfl
      · rw [evD, HFD.out]; rfl
      · rw [evD, HFD.out]; exact Calm.refl _ _
    rw [hwX]
    clear hwX hfsX hlX hfX hL1 hD1
    have c6 := HX.out.1.pool.blk.cell 6
    simp [plCells] at c6
    have hiX : i < fsX.length := HX.out.2.2.2.1
    have hFa : FrmAt wX a.pb a.sv a.ov bi fX := HX.out.1.pool.frame (P := { P with frames := fsX, hand := hd, loose := lX }) HX.out.2.2.1 H.out.2.2.2.2.2.1
    obtain ⟨_, _, _, _, hBk⟩ := hFa.cells
    have k0 := hBk.cell 0
    simp [frmCells] at k0
    rw [HX.out.2.2.2.2.1] at k0
    obtain ⟨wd, hdel0, hmd, htd⟩ := (HX.out.1.pool.atm.block (w' := wX.drew) rfl).drop (t := 102) (e := 94) Tryz.underlying3 Tryz.underlying102 (k := fn) H.out.2.2.2.2.2.2.1 0
    have hdel : ∀ ty, (Builtin.delete_ #[102, 3] ty #[.map (some a.ga), .int .i64 fn]).run Tryz.prog wX.drew = .ok (.tuple #[]) wd := fun ty => hdel0
    obtain ⟨hPd, hFd⟩ := (HX.out.1.below (bl_drew (Below.refl _ _))).emptied (i := i) (k := fn) (P := { P with frames := fsX, hand := hd, loose := lX }) hiX hmd htd (by have := HX.out.1.pool.each i hiX; exact this.1)
    have HD : Aside (PSt wd a { P with frames := fsX, hand := hd, loose := lX, atm := fun j => if j = fn then none else P.atm j } L1 D1 ∧ Fr (aT a) w wd) := ⟨hPd, fr_same HX.out.2.1 (fr_aT2 ((Fr.drew (Fr.refl (pT a) wX)).trans hFd (fun _ _ h => h)))⟩
    have hFad : FrmAt wd a.pb a.sv a.ov bi fX := HD.out.1.pool.frame (P := { P with frames := fsX, hand := hd, loose := lX, atm := fun j => if j = fn then none else P.atm j }) HX.out.2.2.1 H.out.2.2.2.2.2.1
    obtain ⟨hpd, bvd, hBd, -, -⟩ := hFad
    have z0 := hBd.cell 0
    have z1 := hBd.cell 1
    have z2 := hBd.cell 2
    have z3 := hBd.cell 3
    have z4 := hBd.cell 4
    have z5 := hBd.cell 5
    simp [frmCells] at z0 z1 z2 z3 z4 z5
    have y0 := hBd.frozen 0
    have y1 := hBd.frozen 1
    have y2 := hBd.frozen 2
    have y3 := hBd.frozen 3
    have y4 := hBd.frozen 4
    have y5 := hBd.frozen 5
    have HB := hid hBd
    clear hdel0 hmd htd hPd hFd hFa hBk hBd
    have c6d : wX.drew.cell? ⟨a.gp, 6, none⟩ = some (.map (some a.ga)) := c6
    have k0d : wX.drew.cell? ⟨bi, 0, none⟩ = some (.int .i64 fn) := k0
    go_wp2_with fail
    go_region_law (fail)
    all_goals go_wp2_with fail
    all_goals go_ret2
    all_goals
      obtain ⟨hq, hFq⟩ := HD.out.1.frmAll (P := { P with frames := fsX, hand := hd, loose := lX, atm := fun j => if j = fn then none else P.atm j }) hiX H.out.2.2.2.2.2.1 frm0 (.slice none 0 0) (World.ownsRow_nil _ _ _ _) (fun b hb => by cases hb)
      refine ⟨fr_same HD.out.2 (fr_aT2 hFq), .inl ⟨rfl, ?_, HX.out.2.2.2.2.2.2.2.2.2⟩⟩
      have e : evP P fs hd i f = { P with frames := fsX.set i frm0, hand := hd, loose := lX, atm := fun j => if j = fn then none else P.atm j } := by
        rw [evP, HX.out.2.2.2.2.2.1, HX.out.2.2.2.2.2.2.1, H.out.2.2.2.2.1]
      rw [e, ← HX.out.2.2.2.2.2.2.2.1, ← HX.out.2.2.2.2.2.2.2.2.1]
      exact hq
end Go.Proofs.YthfidlhefkjpdaaGreatDoor

namespace Go.Proofs.YthfidlhefkjpdaaGreatDoor
open Go.RowKit Go.Maps

/-- The addresses go on: what was there, or new blocks. -/
structure AdN (w : World) (a a' : Ad) (k : Nat) : Prop where
  base : a'.base = a.base
  gl : a'.gl = a.gl
  gd : a'.gd = a.gd
  gs : a'.gs = a.gs
  gm : a'.gm = a.gm
  pb : a'.pb = a.pb
  gp : a'.gp = a.gp
  ga : a'.ga = a.ga
  gn : a'.gn = a.gn
  sv : Nx w a.sv a'.sv
  rv : Nx w a.rv a'.rv
  fv : Nx w a.fv a'.fv
  bk : ∀ b ∈ a'.bk, b ∈ a.bk ∨ w.heap.size ≤ b
  ma : a'.ma ≤ a.ma + k
  mn : a'.mn ≤ a.mn + k
  ov : a'.ov = a.ov
theorem AdN.refl (w : World) (a : Ad) (k : Nat) : AdN w a a k := ⟨rfl, rfl, rfl, rfl, rfl, rfl, rfl, rfl, rfl, Nx.refl _ _, Nx.refl _ _, Nx.refl _ _, fun _ h => .inl h, Nat.le_add_right _ _, Nat.le_add_right _ _, rfl⟩
theorem AdN.trans {w w1 : World} {a b c : Ad} {k l : Nat} (h : AdN w a b k) (j : AdN w1 b c l) (hz : w.heap.size ≤ w1.heap.size) : AdN w a c (k + l) :=
  ⟨j.base.trans h.base, j.gl.trans h.gl, j.gd.trans h.gd, j.gs.trans h.gs, j.gm.trans h.gm, j.pb.trans h.pb, j.gp.trans h.gp, j.ga.trans h.ga, j.gn.trans h.gn, h.sv.trans j.sv hz, h.rv.trans j.rv hz, h.fv.trans j.fv hz, fun x hx => by
    rcases j.bk x hx with q | q
    · exact h.bk x q
    · exact .inr (by omega), by have := h.ma; have := j.ma; omega, by have := h.mn; have := j.mn; omega, j.ov.trans h.ov⟩
theorem AdN.mono {w : World} {a b : Ad} {k l : Nat} (h : AdN w a b k) (hk : k ≤ l) : AdN w a b l :=
  ⟨h.base, h.gl, h.gd, h.gs, h.gm, h.pb, h.gp, h.ga, h.gn, h.sv, h.rv, h.fv, h.bk, by have := h.ma; omega, by have := h.mn; omega, h.ov⟩
theorem AdN.foot {w : World} {a b : Ad} {k : Nat} (h : AdN w a b k) : ∀ x, x < w.heap.size → aT b x → aT a x := by
  intro x hx hb
  rcases hb with hb | hb
  · left
    unfold aL at hb ⊢
    rw [h.gl, h.gd, h.gs, h.gm] at hb
    exact ldT_next h.sv h.rv x hx hb
  · right
    rcases hb with e | e | e | e | e
    · exact .inl (e.trans h.gp)
    · rcases h.fv x e with q | q
      · exact .inr (.inl q)
      · omega
    · rcases h.bk x e with q | q
      · exact .inr (.inr (.inl q))
      · omega
    · exact .inr (.inr (.inr (.inl (e.trans h.ga))))
    · exact .inr (.inr (.inr (.inr (e.trans h.gn))))
theorem AdN.fr {w w1 w2 : World} {a b : Ad} {k : Nat} (h : AdN w a b k) (hf : Fr (aT a) w w1) (hg : Fr (aT b) w1 w2) : Fr (aT a) w w2 := hf.trans hg h.foot

/-- What a pool is between two calls. -/
structure PWf (P : Pl) : Prop where
  m1 : 1 ≤ P.most
  m2 : P.most ≤ 64
  len : P.frames.length ≤ P.most
  hand : P.hand < max P.frames.length 1
  full : Full P
  count : P.count ≤ 4096
  atm : ∀ (k : Int) (i : Nat), P.atm k = some i ↔ ∃ f : Frm, P.frames[i]? = some f ∧ f.n = k
  inj : ∀ (i j : Nat) (f g : Frm), P.frames[i]? = some f → P.frames[j]? = some g → f.n = g.n → i = j

theorem PWf.lt {P : Pl} (h : PWf P) : ∀ k i, P.atm k = some i → i < P.frames.length := fun k i e => by
  obtain ⟨f, h1, _⟩ := (h.atm k i).1 e
  exact (List.getElem?_eq_some_iff.1 h1).1

set_option maxRecDepth 100000 in
theorem fetch_dead (a : Ad) (P : Pl) (L : Lg) (D : Dk) (n : Int) (w : World) (h : PSt w a P L D) (hd : P.dead = true) :
    Calls Tryz.prog 49 #[.pointer (some ⟨a.gp, 0, none⟩), .int .i64 n] w fun e w' => e = .returned (.tuple #[.pointer none, .int .i64 91]) ∧ w = w' := by
  have c10 := h.pool.blk.cell 10
  simp [plCells] at c10
  rw [hd] at c10
  clear h hd
  go_enter Tryz.func49, Tryz.ntmps49
  go_wp2_with fail
  go_ret2
  exact ⟨rfl, rfl⟩

set_option maxRecDepth 100000 in
theorem fetch_out (a : Ad) (P : Pl) (L : Lg) (D : Dk) (n : Int) (w : World) (h : PSt w a P L D) (hd : P.dead = false) (hn : n < 0 ∨ (P.count : Int) ≤ n) :
    Calls Tryz.prog 49 #[.pointer (some ⟨a.gp, 0, none⟩), .int .i64 n] w fun e w' => e = .returned (.tuple #[.pointer none, .int .i64 1]) ∧ w = w' := by
  have c10 := h.pool.blk.cell 10
  have c3 := h.pool.blk.cell 3
  simp [plCells] at c10 c3
  rw [hd] at c10
  obtain ⟨c, hc⟩ : ∃ c, P.count = c := ⟨_, rfl⟩
  rw [hc] at c3 hn
  clear h hd hc
  by_cases h0 : n < 0
  · have d0 : decide (n < 0) = true := by simpa using h0
    clear hn h0
    go_enter Tryz.func49, Tryz.ntmps49
    go_wp2_with fail
    go_ret2
    exact ⟨rfl, rfl⟩
  · have d0 : decide (n < 0) = false := by simpa using h0
    have d1 : decide ((c : Int) ≤ n) = true := by simp; omega
    clear hn h0
    go_enter Tryz.func49, Tryz.ntmps49
    go_wp2_with fail
    go_ret2
    exact ⟨rfl, rfl⟩

theorem at_look {w : World} {a : Ad} {P : Pl} (h : PoolAt w a P) (k : Int) (hk : wf64 k) (W : World) (hW : W.heap[a.ga]? = w.heap[a.ga]?) :
    (Instr.lookup 102 (.map (some a.ga)) (.int .i64 k) false).run Tryz.prog W = .ok ((atV a.bk P.atm k).getD (.pointer none)) W :=
  (h.atm.block hW).look (t := 102) (e := 94) Tryz.underlying3 Tryz.underlying102 (z := .pointer none) (by kernel_rfl) hk

def hitP (P : Pl) (i : Nat) (f : Frm) : Pl := { P with frames := P.frames.set i { f with used := true } }

set_option maxRecDepth 100000 in
theorem fetch_hit (a : Ad) (P : Pl) (L : Lg) (D : Dk) (n : Int) (i : Nat) (f : Frm) (w : World) (h : PSt w a P L D) (hw : PWf P) (hd : P.dead = false) (hn0 : 0 ≤ n) (hn1 : n < P.count) (hi : P.atm n = some i) (hf : P.frames[i]? = some f) :
    Calls Tryz.prog 49 #[.pointer (some ⟨a.gp, 0, none⟩), .int .i64 n] w fun e w' => e = .returned (.tuple #[.pointer (some ⟨a.bk.getD i 0, 0, none⟩), .int .i64 0]) ∧ PSt w' a (hitP P i f) L D ∧ Fr (pT a) w w' := by
  have c10 := h.pool.blk.cell 10
  have c3 := h.pool.blk.cell 3
  have c6 := h.pool.blk.cell 6
  simp [plCells] at c10 c3 c6
  rw [hd] at c10
  have hlook := at_look h.pool n (by have := hw.count; unfold wf64; omega) w rfl
  have hv : (atV a.bk P.atm n).getD (.pointer none) = .pointer (some ⟨a.bk.getD i 0, 0, none⟩) := by
    unfold atV
    rw [hi]
    rfl
  rw [hv] at hlook
  obtain ⟨c, hc⟩ : ∃ c, P.count = c := ⟨_, rfl⟩
  rw [hc] at c3 hn1
  obtain ⟨bi, hbi⟩ : ∃ bi, a.bk.getD i 0 = bi := ⟨_, rfl⟩
  rw [hbi] at hlook ⊢
  have hFa := h.pool.frame hf hbi
  obtain ⟨_, _, _, _, hBk⟩ := hFa.cells
  have k5 := hBk.cell 5
  have y5 := hBk.frozen 5
  simp [frmCells] at k5
  have d0 : decide (n < 0) = false := by simpa using hn0
  have d1 : decide ((c : Int) ≤ n) = false := by simp; omega
  obtain ⟨hil, hfe⟩ := List.getElem?_eq_some_iff.1 hf
  have hfin := h.frmCell i hil { f with used := true } 5 (.bool true) (by rw [hfe]) (fun bv => by rw [hfe]; simp [frmCells])
  rw [hbi] at hfin
  have HF := hid hfin
  clear h hw hd hi hf hc hbi hFa hBk hv hfin hfe hn0 hn1
  go_enter Tryz.func49, Tryz.ntmps49
  go_wp2_with fail
  go_ret2
  exact ⟨rfl, HF.out⟩
end Go.Proofs.YthfidlhefkjpdaaGreatDoor
