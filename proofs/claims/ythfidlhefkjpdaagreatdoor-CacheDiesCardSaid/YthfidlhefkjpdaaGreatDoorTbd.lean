/- cache.fetch where a frame leaves, or none may leave.
   cache.fetch in one; cache.Put. -/
import Derived.Test.YthfidlhefkjpdaaGreatDoorTbc
namespace Go.Proofs.YthfidlhefkjpdaaGreatDoor
open Go.RowKit Go.Maps

theorem evD_next {P : Pl} {L : Lg} {D : Dk} {f : Frm} {N : Nat} (ho : Ok P L D) (hf0 : 0 ≤ f.n) (hf1 : f.n < P.count) (hf2 : f.bytes.length = 512) (hlog : L.first + L.count ≤ P.base) (hN : N < P.count) (hne : f.n ≠ (N : Int)) :
    (evD D L f P.base).wf ∧ (evD D L f P.base).plan = [] ∧ (evD D L f P.base).off = false ∧ (evD D L f P.base).sec.length = D.sec.length ∧ (evD D L f P.base).has (P.base + N) = D.has (P.base + N) := by
  have hpb := ho.pb
  have hst := ho.st
  have hcn := ho.lw.count
  unfold evD
  split
  · have key : ∀ D1, DkNext D D1 L.first (L.first + L.count) (L.count + 1) → (D1.write (P.base + f.n.toNat) f.bytes).wf ∧ (D1.write (P.base + f.n.toNat) f.bytes).plan = [] ∧ (D1.write (P.base + f.n.toNat) f.bytes).off = false ∧ (D1.write (P.base + f.n.toNat) f.bytes).sec.length = D.sec.length ∧ (D1.write (P.base + f.n.toNat) f.bytes).has (P.base + N) = D.has (P.base + N) := by
      intro D1 h1
      refine ⟨Dk.write_wf h1.wf (by rw [h1.len]; omega) (by omega) (by have := h1.steps; omega), h1.plan, h1.off, h1.len, ?_⟩
      rw [Dk.write_has, if_neg (by omega)]
      exact h1.has _ (by omega) (.inr (by omega))
    unfold wrD
    split
    · exact key _ (lflush_next ho.dw ho.dp ho.doff ho.lw ho.lf (by omega))
    · exact key _ ⟨rfl, ho.dp, ho.doff, ho.dw, by omega, by omega, fun _ _ _ => rfl⟩
  · exact ⟨ho.dw, ho.dp, ho.doff, rfl, rfl⟩

set_option maxRecDepth 100000 in
set_option maxHeartbeats 2000000 in
theorem fetch_old (a : Ad) (P : Pl) (L : Lg) (D : Dk) (N : Nat) (p : Pg) (i hd : Nat) (fs : List Frm) (f : Frm) (w : World) (h : PSt w a P L D) (ho : Ok P L D) (hw : PWf P) (hn1 : N < P.count) (hi : P.atm N = none) (hlt : P.most ≤ P.frames.length) (hv0 : vict P.pins (2 * P.frames.length) P.frames P.hand = (some i, fs, hd)) (hf0 : fs[i]? = some f) (hlog : L.first + L.count ≤ P.base)
    (hp : pageOf (D.has (P.base + N)) = some p) (hpw : p.wf) (hma : a.ma ≤ 1099511627776) :
    Calls Tryz.prog 49 #[.pointer (some ⟨a.gp, 0, none⟩), .int .i64 (N : Int)] w fun e w' => ∃ a', e = .returned (.tuple #[.pointer (some ⟨a'.bk.getD i 0, 0, none⟩), .int .i64 0]) ∧
      PSt w' a' (inP (evP P fs hd i f) i N p) (evL L f) (evD D L f P.base) ∧ Fr (aT a) w w' ∧ AdN w a a' 1 := by
  obtain ⟨n, hn⟩ : ∃ n : Int, (N : Int) = n := ⟨_, rfl⟩
  have hfr := frees_spec P.frames 0 (fun f hf => (hw.full f hf).1)
  have c10 := h.pool.blk.cell 10
  have c3 := h.pool.blk.cell 3
  have c6 := h.pool.blk.cell 6
  simp [plCells] at c10 c3 c6
  rw [ho.pd] at c10
  have hnw : wf64 n := by have := hw.count; unfold wf64; omega
  have hi' := hi
  rw [hn] at hi ⊢
  have hlook := at_look h.pool n hnw w rfl
  have hv : (atV a.bk P.atm n).getD (.pointer none) = .pointer none := by
    unfold atV
    rw [hi]
    rfl
  rw [hv] at hlook
  obtain ⟨c, hc⟩ : ∃ c, P.count = c := ⟨_, rfl⟩
  rw [hc] at c3
  have d0 : decide (n < 0) = false := by simp; omega
  have d1 : decide ((c : Int) ≤ n) = false := by simp; omega
  obtain ⟨G, hG⟩ : ∃ G, P.base + N = G := ⟨_, rfl⟩
  have hGl : G < D.sec.length := by have := ho.pb; omega
  have hDn := ho.dw.n
  have hGw : IntKind.i64.wrap ((P.base : Int) + n) = (G : Int) := by rw [← hn, wrap_nat (by omega) (by omega)]; omega
  rw [hG] at hp
  have H : Aside (PSt w a P L D ∧ Ok P L D ∧ PWf P ∧ pageOf (D.has G) = some p ∧ p.wf ∧ wf64 n ∧ a.ma ≤ 1099511627776) := ⟨h, ho, hw, hp, hpw, hnw, hma⟩
  have hcf := cfree_any a P L D w h (by have := hw.len; have := hw.m2; omega)
  rw [hfr] at hcf
  have hn0 : 0 < P.frames.length := by have := hw.m1; omega
  have hcr := croom_old a P L D w P.frames.length i hd fs f h ho rfl hn0 (by have := hw.len; have := hw.m2; omega) (by have := hw.hand; omega) hw.full hlt hw.count hv0 hf0
  have hsame : SameF fs P.frames := by have := vict_same P.pins (2 * P.frames.length) P.frames P.hand P.frames (SameF.refl _); rw [hv0] at this; exact this
  have hiL : i < fs.length := (List.getElem?_eq_some_iff.1 hf0).1
  obtain ⟨hq0, hq1, hq2⟩ := hsame.full hw.full f (List.mem_of_getElem? hf0)
  have hqn : f.n ≠ (N : Int) := by
    intro e
    obtain ⟨g, g1, g2⟩ := hsame.2 i f hf0
    have : P.atm (N : Int) = some i := (hw.atm _ _).2 ⟨g, g1, by rw [← e, g2]⟩
    rw [hi'] at this
    cases this
  have hev := evD_next ho hq0 hq1 hq2 hlog hn1 hqn
  have HE2 := hid hev
  clear h ho hw hn1 hlt hp hpw hma hv hc hn hfr hnw hv0 hf0 hsame hq0 hq1 hq2 hqn hev hlog hi'
  go_enter Tryz.func49, Tryz.ntmps49
  go_wp2_with fail
  refine hcf.mono ?_
  rintro e w' ⟨rfl, rfl⟩
  dsimp only
  go_wp2_with fail
  refine hcr.mono ?_
  rintro e wX ⟨rfl, hX, hFX⟩
  obtain ⟨bi, hbi⟩ : ∃ bi, a.bk.getD i 0 = bi := ⟨_, rfl⟩
  rw [hbi]
  clear hcr hcf c3 c6 c10 hlook
  go_wp2_with fail
  obtain ⟨aX, haX⟩ : ∃ aX, a = aX := ⟨_, rfl⟩
  obtain ⟨PX, hPX⟩ : ∃ PX, evP P fs hd i f = PX := ⟨_, rfl⟩
  obtain ⟨L1, hL1⟩ : ∃ L1, evL L f = L1 := ⟨_, rfl⟩
  obtain ⟨D1, hD1⟩ : ∃ D1, evD D L f P.base = D1 := ⟨_, rfl⟩
  rw [hPX, hL1, hD1] at hX
  have HY : Aside (evP P fs hd i f = PX ∧ i = i ∧ evL L f = L1 ∧ evD D L f P.base = D1) := ⟨hPX, rfl, hL1, hD1⟩
  have HX : Aside (PSt wX aX PX L1 D1 ∧ Fr (aT a) w wX ∧ AdN w a aX 0 ∧ i < PX.frames.length ∧ aX.bk.getD i 0 = bi ∧ PX.base = P.base ∧ (D1.wf ∧ D1.off = false ∧ G < D1.sec.length ∧ D1.has G = D.has G)) := by
    rw [← haX]
    refine ⟨hX, hFX, AdN.refl _ _ _, ?_, hbi, ?_, ?_⟩
    · rw [← hPX]; show i < (fs.set i frm0).length; rw [List.length_set]; exact hiL
    · rw [← hPX]; rfl
    · obtain ⟨h1, h2, h3, h4, h5⟩ := HE2.out
      rw [← hD1, ← hG]
      refine ⟨h1, h3, by rw [h4, hG]; exact hGl, h5⟩
  clear hX hFX hbi haX hPX hL1 hD1 hi hG
  have c0 := HX.out.1.pool.blk.cell 0
  have c2 := HX.out.1.pool.blk.cell 2
  simp [plCells] at c0 c2
  rw [HX.out.2.2.2.2.2.1] at c2
  rw [HX.out.2.2.1.gp] at c0 c2
  rw [HX.out.2.2.1.gd] at c0
  have hgpX : a.gp < wX.heap.size := by rw [← HX.out.2.2.1.gp]; exact HX.out.1.pool.blk.lt
  go_wp2_with fail
  go_region_held3 (fun w' => w'.cell? ⟨a.gp, 0, none⟩ = some (.pointer (some ⟨a.gd, 0, none⟩)) ∧ w'.cell? ⟨a.gp, 2, none⟩ = some (.int .i64 (P.base : Int)))
    (first | exact ⟨c0, c2⟩ | exact ⟨(R3.out.2.cell (p := ⟨a.gp, 0, none⟩) hgpX).trans c0, (R3.out.2.cell (p := ⟨a.gp, 2, none⟩) hgpX).trans c2⟩)
    ((go_at_call 30
      (with_reducible refine Calls.mono (read_any a.gd aX.gs aX.gm D1 G _ ?_ HX.out.2.2.2.2.2.2.1 HX.out.2.2.2.2.2.2.2.1 HX.out.2.2.2.2.2.2.2.2.1) ?_)
      · rw [← HX.out.2.2.1.gd]; exact HX.out.1.ld.disk.below (by repeat (first | exact Below.refl _ _ | refine bl_drew ?_))
      rintro e w3 ⟨g3, rfl, hg3, hg3l, hb3⟩
      have R3 : Aside (w3.heap[g3]? = some (.cells (cellsB (D1.has G)) 113 (0, 0)) ∧ Below wX.heap.size wX w3) := ⟨hg3, bl_undrew hb3⟩
      clear hg3 hg3l hb3))
  have hlen : (D1.has G).length = 512 := Dk.has_len HX.out.2.2.2.2.2.2.1 HX.out.2.2.2.2.2.2.2.2.1
  have hRd : RdB w3 (some ⟨g3, 0, none⟩) 512 (D1.has G) := by
    have := rd_of_cells R3.out.1
    rwa [hlen] at this
  have HRd := hid hRd
  clear hRd hlen c0 c2
  go_wp2_with fail
  refine (cparse_ok (some ⟨g3, 0, none⟩) 512 (D1.has G) p w3 HRd.out (by omega) (by omega) (by rw [HX.out.2.2.2.2.2.2.2.2.2]; exact H.out.2.2.2.1)).mono ?_
  rintro e w4 ⟨g4, rfl, hP4, hb4⟩
  have R4 : Aside (PageAt w4 w3.heap.size g4 p ∧ Below wX.heap.size wX w4) := ⟨hP4, R3.out.2.trans (hb4.mono R3.out.2.size)⟩
  clear hP4 hb4
  go_wp2_with fail
  refine (bytes_any w3.heap.size g4 p w4 R4.out.1 H.out.2.2.2.2.1).mono ?_
  rintro e w5 ⟨g5, cap5, rfl, hown5, hb5⟩
  have R5 : Aside (w5.ownsRow w4.heap.size 5 1 (.slice (some ⟨g5, 0, none⟩) 512 cap5) 512 ((bytesP p).map u8) ∧ Below wX.heap.size wX w5 ∧ PageAt w5 w3.heap.size g4 p) := ⟨hown5, R4.out.2.trans (hb5.mono R4.out.2.size), R4.out.1.below hb5⟩
  clear hown5 hb5
  go_wp2_with fail
  refine (lsn_any w3.heap.size g4 p w5 R5.out.2.2).mono ?_
  rintro e w' ⟨rfl, rfl⟩
  have hX5 := HX.out.1.below R5.out.2.1
  obtain ⟨fX, hfX⟩ : ∃ fX, PX.frames[i]? = some fX := ⟨_, List.getElem?_eq_getElem HX.out.2.2.2.1⟩
  obtain ⟨hpd, bvd, hBd, -, -⟩ := hX5.pool.frame hfX HX.out.2.2.2.2.1
  have z0 := hBd.cell 0
  have z1 := hBd.cell 1
  have z2 := hBd.cell 2
  have z3 := hBd.cell 3
  have z4 := hBd.cell 4
  have z5 := hBd.cell 5
  simp [frmCells] at z0 z1 z2 z3 z4 z5
  have y0 := hBd.frozen 0
  have y1 := hBd.frozen 1
  have y2 := hBd.frozen 2
  have y3 := hBd.frozen 3
  have y4 := hBd.frozen 4
  have y5 := hBd.frozen 5
  have hpbX : aX.pb ≤ w4.heap.size := by
    have h1 := HX.out.1.pool.lp
    have h2 := HX.out.1.pool.blk.lt
    have h3 := R4.out.2.size
    omega
  have hown : w5.ownsRow aX.pb 5 1 (.slice (some ⟨g5, 0, none⟩) 512 cap5) (newF n p).bytes.length ((newF n p).bytes.map u8) := by
    have := own_mono R5.out.1 hpbX
    rw [show (newF n p).bytes.length = 512 from bytesP_length H.out.2.2.2.2.1]
    exact this
  have hsvX : ∀ b, (Value.slice (some ⟨g5, 0, none⟩) 512 cap5).ownBlock = some b → aX.sv.ownBlock ≠ some b ∧ aX.ov.ownBlock ≠ some b := by
    intro b hb
    have h1 := (R5.out.1.lt b hb).1
    have h3 := R4.out.2.size
    refine ⟨fun e => ?_, fun e => ?_⟩
    · have h2 := (HX.out.1.ld.log.2.2.1.lt b e).2
      omega
    · have h2 := HX.out.1.pool.ol b e
      omega
  obtain ⟨hS6, hF6⟩ := hX5.frmAll HX.out.2.2.2.1 HX.out.2.2.2.2.1 (newF n p) (.slice (some ⟨g5, 0, none⟩) 512 cap5) hown hsvX
  obtain ⟨w6, hw6⟩ : ∃ w6, frmSet w5 bi (newF n p) (.slice (some ⟨g5, 0, none⟩) 512 cap5) = w6 := ⟨_, rfl⟩
  rw [hw6] at hS6 hF6
  have R6 : Aside (PSt w6 aX { PX with frames := PX.frames.set i (newF n p) } L1 D1 ∧ Fr (pT aX) wX w6) := ⟨hS6, (Fr.of_below R5.out.2.1 _).trans hF6 (fun _ _ h => h)⟩
  have c6 := hS6.pool.blk.cell 6
  simp [plCells] at c6
  rw [HX.out.2.2.1.gp, HX.out.2.2.1.ga] at c6
  have hm6 := hS6.pool.atm
  rw [HX.out.2.2.1.ga] at hm6
  have HM := hid hm6
  have hw6e : (((((w5.setCell ⟨bi, 0, none⟩ (.int .i64 n)).setCell ⟨bi, 1, none⟩ (.slice (some ⟨g5, 0, none⟩) 512 cap5)).setCell ⟨bi, 2, none⟩ (.int .i64 p.lsn)).setCell ⟨bi, 3, none⟩ (.bool false)).setCell ⟨bi, 4, none⟩ (.int .i64 0)).setCell ⟨bi, 5, none⟩ (.bool true) = w6 := hw6
  have hnw : wf64 n := H.out.2.2.2.2.2.1
  have hmaX : aX.ma < maxLen := by have := HX.out.2.2.1.ma; have := H.out.2.2.2.2.2.2; unfold maxLen; omega
  clear hX5 hpd hBd hown hsvX hS6 hF6 hm6 hw6
  go_wp2_with (
    (refine wpList_upd _ rfl (.tmp 88) (.tmp 89) (.tmp 90) 102 rfl 3 94 Tryz.underlying3 Tryz.underlying102 a.ga aX.ma (atV aX.bk PX.atm) rfl HM.out hmaX n rfl hnw (.pointer (some ⟨bi, 0, none⟩)) rfl ?_)
    intro w7 hm7 ht7
    have R7 : Aside (MapAt Tryz.prog 3 w7 a.ga (aX.ma + 1) (upd (atV aX.bk PX.atm) n (.pointer (some ⟨bi, 0, none⟩))) ∧ w6.mapTurned w7 a.ga) := ⟨hm7, ht7⟩
    clear hm7 ht7)
  go_ret2
  have hm7 := R7.out.1
  have ht7 := R7.out.2
  have ega := HX.out.2.2.1.ga
  rw [← ega] at hm7 ht7
  rw [← HX.out.2.2.2.2.1] at hm7
  obtain ⟨hS7, hF7⟩ := R6.out.1.entered hm7 ht7
  have hFe : Fr (aT a) w w7 := HX.out.2.2.1.fr HX.out.2.1 (fr_same (fr_aT2 R6.out.2) (fr_aT2 hF7))
  have hAe : AdN w a { aX with ma := aX.ma + 1 } 1 := by
    obtain ⟨q1, q2, q3, q4, q5, q6, q7, q8, q9, q10, q11, q12, q13, q14, q15, q16⟩ := HX.out.2.2.1
    exact ⟨q1, q2, q3, q4, q5, q6, q7, q8, q9, q10, q11, q12, q13, by show aX.ma + 1 ≤ _; omega, by show aX.mn ≤ _; omega, q16⟩
  refine ⟨{ aX with ma := aX.ma + 1 }, ?_, ?_, hFe, hAe⟩
  · show Ending.returned (.tuple #[.pointer (some ⟨bi, 0, none⟩), .int .i64 0]) = Ending.returned (.tuple #[.pointer (some ⟨aX.bk.getD i 0, 0, none⟩), .int .i64 0])
    rw [HX.out.2.2.2.2.1]
  · rw [HY.out.1, HY.out.2.2.1, HY.out.2.2.2]
    exact hS7



set_option maxRecDepth 100000 in
theorem fetch_pinned (a : Ad) (P : Pl) (L : Lg) (D : Dk) (N : Nat) (hd : Nat) (fs : List Frm) (w : World) (h : PSt w a P L D) (hdd : P.dead = false) (hw : PWf P) (hn1 : N < P.count) (hi : P.atm N = none) (hlt : P.most ≤ P.frames.length)
    (hv0 : vict P.pins (2 * P.frames.length) P.frames P.hand = (none, fs, hd)) :
    Calls Tryz.prog 49 #[.pointer (some ⟨a.gp, 0, none⟩), .int .i64 (N : Int)] w fun e w' => e = .returned (.tuple #[.pointer none, .int .i64 100]) ∧
      PSt w' a { P with frames := fs, hand := hd } L D ∧ Fr (pT a) w w' := by
  obtain ⟨n, hn⟩ : ∃ n : Int, (N : Int) = n := ⟨_, rfl⟩
  have hfr := frees_spec P.frames 0 (fun f hf => (hw.full f hf).1)
  have c10 := h.pool.blk.cell 10
  have c3 := h.pool.blk.cell 3
  have c6 := h.pool.blk.cell 6
  simp [plCells] at c10 c3 c6
  rw [hdd] at c10
  have hnw : wf64 n := by have := hw.count; unfold wf64; omega
  rw [hn] at hi ⊢
  have hlook := at_look h.pool n hnw w rfl
  have hv : (atV a.bk P.atm n).getD (.pointer none) = .pointer none := by
    unfold atV
    rw [hi]
    rfl
  rw [hv] at hlook
  obtain ⟨c, hc⟩ : ∃ c, P.count = c := ⟨_, rfl⟩
  rw [hc] at c3
  have d0 : decide (n < 0) = false := by simp; omega
  have d1 : decide ((c : Int) ≤ n) = false := by simp; omega
  have hcf := cfree_any a P L D w h (by have := hw.len; have := hw.m2; omega)
  rw [hfr] at hcf
  have hn0 : 0 < P.frames.length := by have := hw.m1; omega
  have hcr := croom_pinned a P L D w P.frames.length hd fs h rfl hn0 (by have := hw.len; have := hw.m2; omega) (by have := hw.hand; omega) hw.full hlt hw.count hv0
  clear h hw hn1 hlt hv hc hn hfr hnw hv0 hdd hi hn0
  go_enter Tryz.func49, Tryz.ntmps49
  go_wp2_with fail
  refine hcf.mono ?_
  rintro e w' ⟨rfl, rfl⟩
  dsimp only
  go_wp2_with fail
  refine hcr.mono ?_
  rintro e wX ⟨rfl, hX, hFX⟩
  clear hcr hcf c3 c6 c10 hlook
  go_wp2_with fail
  go_ret2
  exact ⟨rfl, hX, hFX⟩
end Go.Proofs.YthfidlhefkjpdaaGreatDoor

namespace Go.Proofs.YthfidlhefkjpdaaGreatDoor
open Go.RowKit Go.Maps

/-- What fetch leaves, and which frame it tells; none: all are pinned. -/
def fetchR (P : Pl) (L : Lg) (D : Dk) (N : Nat) (p : Pg) : Option (Nat × Pl × Lg × Dk) :=
  match P.atm N with
  | some i => match P.frames[i]? with
    | some f => some (i, hitP P i f, L, D)
    | none => none
  | none =>
    if P.frames.length < P.most then some (P.frames.length, inP { P with frames := P.frames ++ [frm0] } P.frames.length N p, L, D)
    else match vict P.pins (2 * P.frames.length) P.frames P.hand with
      | (some i, fs, hd) => match fs[i]? with
        | some f => some (i, inP (evP P fs hd i f) i N p, evL L f, evD D L f P.base)
        | none => none
      | (none, _, _) => none

theorem fetch_some (a : Ad) (P : Pl) (L : Lg) (D : Dk) (N : Nat) (p : Pg) (i : Nat) (P' : Pl) (L' : Lg) (D' : Dk) (w : World) (h : PSt w a P L D) (ho : Ok P L D) (hw : PWf P) (hn1 : N < P.count)
    (hp : pageOf (D.has (P.base + N)) = some p) (hpw : p.wf) (hma : a.ma ≤ 1099511627776) (hlog : L.first + L.count ≤ P.base) (hr : fetchR P L D N p = some (i, P', L', D')) :
    Calls Tryz.prog 49 #[.pointer (some ⟨a.gp, 0, none⟩), .int .i64 (N : Int)] w fun e w' => ∃ a', e = .returned (.tuple #[.pointer (some ⟨a'.bk.getD i 0, 0, none⟩), .int .i64 0]) ∧
      PSt w' a' P' L' D' ∧ Fr (aT a) w w' ∧ AdN w a a' 1 := by
  unfold fetchR at hr
  cases hat : P.atm N with
  | some j =>
    rw [hat] at hr
    obtain ⟨f, hf, _⟩ := (hw.atm _ _).1 hat
    simp only [hf, Option.some.injEq, Prod.mk.injEq] at hr
    obtain ⟨rfl, rfl, rfl, rfl⟩ := hr
    refine (fetch_hit a P L D N j f w h hw ho.pd (by omega) (by omega) hat hf).mono ?_
    rintro e w' ⟨rfl, h1, h2⟩
    exact ⟨a, rfl, h1, fr_aT2 h2, AdN.refl _ _ _⟩
  | none =>
    rw [hat] at hr
    simp only at hr
    by_cases hlt : P.frames.length < P.most
    · rw [if_pos hlt] at hr
      simp only [Option.some.injEq, Prod.mk.injEq] at hr
      obtain ⟨rfl, rfl, rfl, rfl⟩ := hr
      exact fetch_new a P L D N p w h ho hw hn1 hat hlt hp hpw hma
    · rw [if_neg hlt] at hr
      split at hr
      · rename_i j fs hd hv
        split at hr
        · rename_i f hf
          simp only [Option.some.injEq, Prod.mk.injEq] at hr
          obtain ⟨rfl, rfl, rfl, rfl⟩ := hr
          exact fetch_old a P L D N p j hd fs f w h ho hw hn1 hat (by omega) hv hf hlog hp hpw hma
        · cases hr
      · cases hr

def putF (f : Frm) (q : Pg) : Frm := { f with bytes := bytesP q, lsn := q.lsn, dirty := true, since := if f.dirty = true then f.since else q.lsn }
def putP (P : Pl) (i : Nat) (f : Frm) (q : Pg) : Pl := { P with frames := P.frames.set i (putF f q) }

/-- A frame's bytes are set anew. -/
theorem PSt.frmBytes {w : World} {a : Ad} {P : Pl} {L : Lg} {D : Dk} {i bi : Nat} {f : Frm} (h : PSt w a P L D) (hf : P.frames[i]? = some f) (hbi : a.bk.getD i 0 = bi) (bs : List UInt8) (bv' : Value)
    (hO : w.ownsRow a.pb 5 1 bv' bs.length (bs.map u8)) (hsv : ∀ b, bv'.ownBlock = some b → a.sv.ownBlock ≠ some b ∧ a.ov.ownBlock ≠ some b) :
    PSt (w.setCell ⟨bi, 1, none⟩ bv') a { P with frames := P.frames.set i { f with bytes := bs } } L D ∧ Fr (pT a) w (w.setCell ⟨bi, 1, none⟩ bv') := by
  obtain ⟨hi, hfe⟩ := List.getElem?_eq_some_iff.1 hf
  have hil : i < a.bk.length := by rw [h.pool.blen]; exact hi
  have hF : Fr (· = bi) w (w.setCell ⟨bi, 1, none⟩ bv') := (Fr.refl (· = bi) w).set (p := ⟨bi, 1, none⟩) (.inl rfl) bv'
  obtain ⟨h1, bv, h2, h3, h4⟩ := h.pool.frame hf hbi
  have hB : Blk (w.setCell ⟨bi, 1, none⟩ bv') bi 96 (frmCells { f with bytes := bs } bv') := by
    have := h2.set_ 1 bv'
    simpa [frmCells] using this
  have hf' : FrmAt (w.setCell ⟨bi, 1, none⟩ bv') a.pb a.sv a.ov bi { f with bytes := bs } := ⟨h1, bv', hB, own_fr hO hF (fun b hb e => by subst e; exact (own_ty hO hb).ne h2.ty (by decide)), hsv⟩
  have hFp : Fr (pT a) w (w.setCell ⟨bi, 1, none⟩ bv') := hF.mono fun _ _ e => by rw [e, ← hbi]; exact .inr (.inr (.inl (bk_mem hil)))
  exact ⟨h.onPool0 hFp (h.pool.setFrm i hi (by rw [hbi]; exact hF) _ (by rw [hbi]; exact hf')), hFp⟩

/-- A cell of a frame is set, its bytes stay. -/
theorem PSt.frmSome {w : World} {a : Ad} {P : Pl} {L : Lg} {D : Dk} {i bi : Nat} {f : Frm} (h : PSt w a P L D) (hf : P.frames[i]? = some f) (hbi : a.bk.getD i 0 = bi) (f' : Frm) (j : Nat) (v : Value) (hb : f'.bytes = f.bytes)
    (hc : ∀ bv, (frmCells f bv).setIfInBounds j v = frmCells f' bv) : PSt (w.setCell ⟨bi, j, none⟩ v) a { P with frames := P.frames.set i f' } L D ∧ Fr (pT a) w (w.setCell ⟨bi, j, none⟩ v) := by
  obtain ⟨hi, rfl⟩ := List.getElem?_eq_some_iff.1 hf
  subst hbi
  exact h.frmCell i hi f' j v hb hc

/-- The frame behind the three stores that set its bytes, its LSN and its flag. -/
theorem put_end {w w1 w4 w5 : World} {a a' : Ad} {P : Pl} {L : Lg} {D : Dk} {i bi : Nat} {f : Frm} {q : Pg} {v : Value} (h4 : PSt w4 a' P L D) (h5 : PSt w5 a' P L D) (hf : P.frames[i]? = some f) (hbi : a'.bk.getD i 0 = bi)
    (hO : w5.ownsRow w4.heap.size 5 1 v 512 ((bytesP q).map u8)) (hqw : q.wf) (hF : Fr (aT a) w w1) (hA : AdN w a a' 1) (hF5 : Fr (aT a') w1 w5) :
    PSt (((w5.setCell ⟨bi, 1, none⟩ v).setCell ⟨bi, 2, none⟩ (.int .i64 q.lsn)).setCell ⟨bi, 3, none⟩ (.bool true)) a' { P with frames := P.frames.set i { f with bytes := bytesP q, lsn := q.lsn, dirty := true } } L D ∧
      Fr (aT a) w (((w5.setCell ⟨bi, 1, none⟩ v).setCell ⟨bi, 2, none⟩ (.int .i64 q.lsn)).setCell ⟨bi, 3, none⟩ (.bool true)) := by
  have hil := (List.getElem?_eq_some_iff.1 hf).1
  have hpb : a'.pb ≤ w4.heap.size := by
    have h1 := h4.pool.lp
    have h2 := h4.pool.blk.lt
    omega
  have hsv : ∀ b, v.ownBlock = some b → a'.sv.ownBlock ≠ some b ∧ a'.ov.ownBlock ≠ some b := by
    intro b hb
    have h1 := (hO.lt b hb).1
    refine ⟨fun e => ?_, fun e => ?_⟩
    · have h2 := (h4.ld.log.2.2.1.lt b e).2
      omega
    · have h2 := h4.pool.ol b e
      omega
  obtain ⟨k1, f1⟩ := h5.frmBytes hf hbi (bytesP q) v (by rw [bytesP_length hqw]; exact own_mono hO hpb) hsv
  obtain ⟨k2, f2⟩ := k1.frmSome (i := i) (f := { f with bytes := bytesP q }) (by simp [List.getElem?_set, hil]) hbi { f with bytes := bytesP q, lsn := q.lsn } 2 (.int .i64 q.lsn) rfl (fun bv => by simp [frmCells])
  obtain ⟨k3, f3⟩ := k2.frmSome (i := i) (f := { f with bytes := bytesP q, lsn := q.lsn }) (by simp [List.getElem?_set, hil]) hbi { f with bytes := bytesP q, lsn := q.lsn, dirty := true } 3 (.bool true) rfl (fun bv => by simp [frmCells])
  simp only [List.set_set] at k3
  exact ⟨k3, hA.fr hF (fr_same hF5 (fr_aT2 (fr_same f1 (fr_same f2 f3))))⟩

set_option maxRecDepth 100000 in
set_option maxHeartbeats 2000000 in
theorem cput_any (a : Ad) (P : Pl) (L : Lg) (D : Dk) (N : Nat) (p : Pg) (i : Nat) (P' : Pl) (L' : Lg) (D' : Dk) (f : Frm) (q : Pg) (base g x : Nat) (w : World) (h : PSt w a P L D) (ho : Ok P L D) (hw : PWf P) (hn1 : N < P.count)
    (hp : pageOf (D.has (P.base + N)) = some p) (hpw : p.wf) (hma : a.ma ≤ 1099511627776) (hlog : L.first + L.count ≤ P.base) (hr : fetchR P L D N p = some (i, P', L', D')) (hf : P'.frames[i]? = some f)
    (hq : PageAt w base g q) (hqw : q.wf) (hfar : ∀ b, aT a b → b < base) (hx : x ≤ 9223372036854775807) :
    Calls Tryz.prog 12 #[.pointer (some ⟨a.gp, 0, none⟩), .int .i64 (N : Int), .pointer (some ⟨g, 0, none⟩), .int .i64 (x : Int)] w fun e w' => e = .returned (.int .i64 0) ∧
      ∃ a', PSt w' a' (putP P' i f { q with lsn := (x : Int) }) L' D' ∧ Fr (aT a) w w' ∧ AdN w a a' 1 := by
  have hfe := fetch_some a P L D N p i P' L' D' w h ho hw hn1 hp hpw hma hlog hr
  have hq'w : Pg.wf { q with lsn := (x : Int) } := ⟨by show (0 : Int) ≤ x; omega, by show (x : Int) ≤ _; omega, hqw.extra, hqw.slots, hqw.item, hqw.used⟩
  obtain ⟨q', hq'⟩ : ∃ q', ({ q with lsn := (x : Int) } : Pg) = q' := ⟨_, rfl⟩
  rw [hq'] at hq'w ⊢
  have hmaxx : ({ q with lsn := max (x : Int) 0 } : Pg) = q' := by rw [← hq', Int.max_eq_left (by omega)]
  have H : Aside (PageAt w base g q ∧ q.wf ∧ (∀ b, aT a b → b < base) ∧ P'.frames[i]? = some f ∧ q'.wf ∧ ({ q with lsn := max (x : Int) 0 } : Pg) = q' ∧ x ≤ 9223372036854775807) := ⟨hq, hqw, hfar, hf, hq'w, hmaxx, hx⟩
  clear h ho hw hn1 hp hpw hma hlog hr hq hqw hfar hq'w hq' hmaxx hf hx
  go_enter Tryz.func12, Tryz.ntmps12
  go_wp2_with fail
  refine hfe.mono ?_
  rintro e w1 ⟨a', rfl, h1, hF1, hA1⟩
  obtain ⟨bi, hbi⟩ : ∃ bi, a'.bk.getD i 0 = bi := ⟨_, rfl⟩
  rw [hbi]
  have H1 : Aside (PSt w1 a' P' L' D' ∧ Fr (aT a) w w1 ∧ AdN w a a' 1 ∧ a'.bk.getD i 0 = bi ∧ PageAt w1 base g q) := ⟨h1, hF1, hA1, hbi, H.out.1.far hF1 H.out.2.2.1⟩
  clear h1 hF1 hA1 hbi hfe
  go_wp2_with fail
  refine (bytes_any base g q w1 H1.out.2.2.2.2 H.out.2.1).mono ?_
  rintro e w2 ⟨g2, cap2, rfl, hown2, hb2⟩
  obtain ⟨A2', c2', e2', hcap2, hcm2, -⟩ := own_form hown2
  injection e2' with e2a e2b e2c
  subst e2c
  have H2 : Aside (RdB w2 (some ⟨g2, 0, none⟩) 512 (bytesP q) ∧ Below w1.heap.size w1 w2 ∧ 512 ≤ cap2 ∧ cap2 ≤ 9223372036854775807) := ⟨RdB.of_own hown2, hb2, hcap2, hcm2⟩
  clear hown2 hb2 e2a e2b hcap2 hcm2
  go_wp2_with fail
  refine (parse_ok (some ⟨g2, 0, none⟩) cap2 (bytesP q) q w2 H2.out.1 H2.out.2.2.1 H2.out.2.2.2 (parse_back H.out.2.1)).mono ?_
  rintro e w3 ⟨g3, rfl, hP3, hb3⟩
  have H3 : Aside (PageAt w3 w2.heap.size g3 q ∧ Below w1.heap.size w1 w3) := ⟨hP3, H2.out.2.1.trans (hb3.mono H2.out.2.1.size)⟩
  clear hP3 hb3
  go_wp2_with fail
  refine (setLSN_any w2.heap.size g3 q x w3 H3.out.1 (by have := H.out.2.2.2.2.2.2; omega)).mono ?_
  rintro e w4 ⟨rfl, hP4, hg4⟩
  rw [H.out.2.2.2.2.2.1] at hP4
  have hb4 : Below w1.heap.size w1 w4 := H3.out.2.trans (below_of_only hg4 (by have := hP4.1; have := H2.out.2.1.size; omega) H3.out.2.size)
  have H4 : Aside (PageAt w4 w2.heap.size g3 q' ∧ Below w1.heap.size w1 w4 ∧ PSt w4 a' P' L' D') := ⟨hP4, hb4, H1.out.1.below hb4⟩
  clear hP4 hg4 hb4
  obtain ⟨hpb4, bv4, hB4, -, -⟩ := H4.out.2.2.pool.frame H.out.2.2.2.1 H1.out.2.2.2.1
  have z3 := hB4.cell 3
  have z4 := hB4.cell 4
  have y4 := hB4.frozen 4
  simp [frmCells] at z3 z4
  obtain ⟨fd, hfd⟩ : ∃ fd, f.dirty = fd := ⟨_, rfl⟩
  rw [hfd] at z3
  have HFD := hid hfd
  clear hB4 hfd
  cases fd with
  | true =>
    go_wp2_with fail
    refine (bytes_any w2.heap.size g3 q' w4 H4.out.1 H.out.2.2.2.2.1).mono ?_
    rintro e w5 ⟨g5, cap5, rfl, hown5, hb5⟩
    have H5 : Aside (w5.ownsRow w4.heap.size 5 1 (.slice (some ⟨g5, 0, none⟩) 512 cap5) 512 ((bytesP q').map u8) ∧ Below w1.heap.size w1 w5 ∧ PSt w5 a' P' L' D' ∧ PageAt w5 w2.heap.size g3 q') := ⟨hown5, H4.out.2.1.trans (hb5.mono H4.out.2.1.size), H4.out.2.2.below hb5, H4.out.1.below hb5⟩
    clear hown5 hb5 z3 z4 y4
    go_wp2_with fail
    refine (lsn_any w2.heap.size g3 q' w5 H5.out.2.2.2).mono ?_
    rintro e w' ⟨rfl, rfl⟩
    obtain ⟨hpb5, bv5, hB5, -, -⟩ := H5.out.2.2.1.pool.frame H.out.2.2.2.1 H1.out.2.2.2.1
    have z1 := hB5.cell 1
    have z2 := hB5.cell 2
    have z3 := hB5.cell 3
    simp [frmCells] at z1 z2 z3
    have y1 := hB5.frozen 1
    have y2 := hB5.frozen 2
    have y3 := hB5.frozen 3
    clear hB5
    go_wp2_with fail
    go_ret
    obtain ⟨e1, e2⟩ := put_end H4.out.2.2 H5.out.2.2.1 H.out.2.2.2.1 H1.out.2.2.2.1 H5.out.1 H.out.2.2.2.2.1 H1.out.2.1 H1.out.2.2.1 (Fr.of_below H5.out.2.1 _)
    refine ⟨rfl, a', ?_, e2, H1.out.2.2.1⟩
    unfold putP putF
    rw [if_pos HFD.out]
    exact e1
  | false =>
    go_wp2_with fail
    refine (lsn_any w2.heap.size g3 q' w4 H4.out.1).mono ?_
    rintro e w' ⟨rfl, rfl⟩
    go_wp2_with fail
    obtain ⟨k4, f4⟩ := H4.out.2.2.frmSome H.out.2.2.2.1 H1.out.2.2.2.1 { f with since := q'.lsn } 4 (.int .i64 q'.lsn) rfl (fun bv => by simp [frmCells])
    have hbil : bi < w1.heap.size := by
      obtain ⟨_, _, hB1, _⟩ := H1.out.1.pool.frame H.out.2.2.2.1 H1.out.2.2.2.1
      exact hB1.lt
    have hP4 : PageAt (w4.setCell ⟨bi, 4, none⟩ (.int .i64 q'.lsn)) w2.heap.size g3 q' :=
      H4.out.1.far ((Fr.refl (· = bi) w4).set (p := ⟨bi, 4, none⟩) (.inl rfl) _) (fun b e => by have := H2.out.2.1.size; omega)
    obtain ⟨w4b, hw4⟩ : ∃ w4b, w4.setCell ⟨bi, 4, none⟩ (.int .i64 q'.lsn) = w4b := ⟨_, rfl⟩
    rw [hw4] at k4 f4 hP4 ⊢
    obtain ⟨P2, hP2⟩ : ∃ P2 : Pl, ({ P' with frames := P'.frames.set i { f with since := q'.lsn } } : Pl) = P2 := ⟨_, rfl⟩
    rw [hP2] at k4
    have hil := (List.getElem?_eq_some_iff.1 H.out.2.2.2.1).1
    have hf2 : P2.frames[i]? = some { f with since := q'.lsn } := by rw [← hP2]; simp [List.getElem?_set, hil]
    have H4b : Aside (PageAt w4b w2.heap.size g3 q' ∧ Fr (aT a') w1 w4b ∧ PSt w4b a' P2 L' D' ∧ P2.frames[i]? = some { f with since := q'.lsn }) := ⟨hP4, (Fr.of_below H4.out.2.1 _).trans (fr_aT2 f4) (fun _ _ h => h), k4, hf2⟩
    have HP2 := hid hP2
    clear hP4 f4 k4 hf2 hP2 hw4 z3 z4 y4 hbil hil
    refine (bytes_any w2.heap.size g3 q' w4b H4b.out.1 H.out.2.2.2.2.1).mono ?_
    rintro e w5 ⟨g5, cap5, rfl, hown5, hb5⟩
    have H5 : Aside (w5.ownsRow w4b.heap.size 5 1 (.slice (some ⟨g5, 0, none⟩) 512 cap5) 512 ((bytesP q').map u8) ∧ Fr (aT a') w1 w5 ∧ PSt w5 a' P2 L' D' ∧ PageAt w5 w2.heap.size g3 q') := ⟨hown5, H4b.out.2.1.trans (Fr.of_below hb5 (aT a')) (fun _ _ h => h), H4b.out.2.2.1.below hb5, H4b.out.1.below hb5⟩
    clear hown5 hb5
    go_wp2_with fail
    refine (lsn_any w2.heap.size g3 q' w5 H5.out.2.2.2).mono ?_
    rintro e w' ⟨rfl, rfl⟩
    obtain ⟨hpb5, bv5, hB5, -, -⟩ := H5.out.2.2.1.pool.frame H4b.out.2.2.2 H1.out.2.2.2.1
    have z1 := hB5.cell 1
    have z2 := hB5.cell 2
    have z3 := hB5.cell 3
    simp [frmCells] at z1 z2 z3
    have y1 := hB5.frozen 1
    have y2 := hB5.frozen 2
    have y3 := hB5.frozen 3
    clear hB5
    go_wp2_with fail
    go_ret
    obtain ⟨e1, e2⟩ := put_end H4b.out.2.2.1 H5.out.2.2.1 H4b.out.2.2.2 H1.out.2.2.2.1 H5.out.1 H.out.2.2.2.2.1 H1.out.2.1 H1.out.2.2.1 H5.out.2.1
    refine ⟨rfl, a', ?_, e2, H1.out.2.2.1⟩
    rw [← HP2.out] at e1
    simp only [List.set_set] at e1
    unfold putP putF
    rw [if_neg (by rw [HFD.out]; simp)]
    exact e1
end Go.Proofs.YthfidlhefkjpdaaGreatDoor
