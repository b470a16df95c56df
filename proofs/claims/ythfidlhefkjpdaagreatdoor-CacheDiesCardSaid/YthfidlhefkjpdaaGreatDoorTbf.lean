/- cache.fetch under any plan. -/
import Derived.Test.YthfidlhefkjpdaaGreatDoorTbb
import Derived.Test.YthfidlhefkjpdaaGreatDoorTbd
namespace Go.Proofs.YthfidlhefkjpdaaGreatDoor
open Go.RowKit Go.Maps

/-- As Ok, whatever is planned. -/
structure OkU (P : Pl) (L : Lg) (D : Dk) : Prop where
  lw : L.wf
  ld : L.dead = false
  dw : D.wf
  doff : D.off = false
  pd : P.dead = false
  pb : P.base + P.count ≤ D.sec.length
theorem Ok.under {P : Pl} {L : Lg} {D : Dk} (h : Ok P L D) (pl : List (Int × Int)) : OkU P L (D.under pl) :=
  ⟨h.lw, h.ld, ⟨h.dw.n, h.dw.len, h.dw.plen, h.dw.pin, h.dw.s0, h.dw.s1⟩, h.doff, h.pd, h.pb⟩

theorem croom_calm (a : Ad) (P : Pl) (L : Lg) (D : Dk) (pl : List (Int × Int)) (w : World) (n i hd : Nat) (fs : List Frm) (f : Frm) (h : PSt w a P L (D.under pl)) (hpl : pl.length ≤ 70368744175616) (ho : Ok P L D) (hn : P.frames.length = n) (hn0 : 0 < n) (hn1 : n ≤ 64) (hh : P.hand < n) (hfull : Full P) (hlt : P.most ≤ n) (hc : P.count ≤ 4096)
    (hv : vict P.pins (2 * n) P.frames P.hand = (some i, fs, hd)) (hf : fs[i]? = some f) (hcalm : Calm pl D.steps (evD D L f P.base).steps) :
    Calls Tryz.prog 90 #[.pointer (some ⟨a.gp, 0, none⟩)] w fun e w' => e = .returned (.tuple #[.pointer (some ⟨a.bk.getD i 0, 0, none⟩), .int .i64 0]) ∧ PSt w' a (evP P fs hd i f) (evL L f) ((evD D L f P.base).under pl) ∧ Fr (aT a) w w' := by
  refine (croom_two a P L D pl w n i hd fs f h hpl ho hn hn0 hn1 hh hfull hlt hc hv hf).mono ?_
  rintro e w' ⟨hF, ⟨rfl, h1, -⟩ | ⟨er, L', D', -, -, -, hl, -⟩⟩
  · exact ⟨rfl, h1, hF⟩
  · exact absurd hcalm hl.not_calm
theorem croom_gone (a : Ad) (P : Pl) (L : Lg) (D : Dk) (pl : List (Int × Int)) (w : World) (n i hd : Nat) (fs : List Frm) (f : Frm) (h : PSt w a P L (D.under pl)) (hpl : pl.length ≤ 70368744175616) (ho : Ok P L D) (hn : P.frames.length = n) (hn0 : 0 < n) (hn1 : n ≤ 64) (hh : P.hand < n) (hfull : Full P) (hlt : P.most ≤ n) (hc : P.count ≤ 4096)
    (hv : vict P.pins (2 * n) P.frames P.hand = (some i, fs, hd)) (hf : fs[i]? = some f) (hcalm : ¬ Calm pl D.steps (evD D L f P.base).steps) :
    Calls Tryz.prog 90 #[.pointer (some ⟨a.gp, 0, none⟩)] w fun e w' => ∃ er, (er == 0) = false ∧ e = .returned (.tuple #[.pointer none, .int .i64 er]) ∧ Fr (aT a) w w' ∧ ∃ L' D', PSt w' a { P with frames := fs, hand := hd, dead := true } L' D' ∧ Lost pl L L' D D' f (P.base + f.n.toNat) (evD D L f P.base).steps ∧ f.dirty = true := by
  refine (croom_two a P L D pl w n i hd fs f h hpl ho hn hn0 hn1 hh hfull hlt hc hv hf).mono ?_
  rintro e w' ⟨hF, ⟨-, -, hk⟩ | ⟨er, L', D', rfl, her, h1, hl, hd⟩⟩
  · exact absurd hk hcalm
  · exact ⟨er, her, rfl, hF, L', D', h1, hl, hd⟩

set_option maxRecDepth 100000 in
set_option maxHeartbeats 2000000 in
theorem fetch_newU (a : Ad) (P : Pl) (L : Lg) (D : Dk) (N : Nat) (p : Pg) (w : World) (h : PSt w a P L D) (ho : OkU P L D) (hw : PWf P) (hn1 : N < P.count) (hi : P.atm N = none) (hlt : P.frames.length < P.most)
    (hp : pageOf (D.has (P.base + N)) = some p) (hpw : p.wf) (hma : a.ma ≤ 1099511627776) :
    Calls Tryz.prog 49 #[.pointer (some ⟨a.gp, 0, none⟩), .int .i64 (N : Int)] w fun e w' => ∃ a', e = .returned (.tuple #[.pointer (some ⟨a'.bk.getD P.frames.length 0, 0, none⟩), .int .i64 0]) ∧
      PSt w' a' (inP { P with frames := P.frames ++ [frm0] } P.frames.length N p) L D ∧ Fr (aT a) w w' ∧ AdN w a a' 1 := by
  obtain ⟨n, hn⟩ : ∃ n : Int, (N : Int) = n := ⟨_, rfl⟩
  have hfr := frees_spec P.frames 0 (fun f hf => (hw.full f hf).1)
  have c10 := h.pool.blk.cell 10
  have c3 := h.pool.blk.cell 3
  have c6 := h.pool.blk.cell 6
  simp [plCells] at c10 c3 c6
  rw [ho.pd] at c10
  have hnw : wf64 n := by have := hw.count; unfold wf64; omega
  rw [hn] at hi ⊢
  have hlook := at_look h.pool n hnw w rfl
  have hv : (atV a.bk P.atm n).getD (.pointer none) = .pointer none := by
    unfold atV
    rw [hi]
    rfl
  rw [hv] at hlook
  obtain ⟨c, hc⟩ : ∃ c, P.count = c := ⟨_, rfl⟩
  rw [hc] at c3
  have d0 : decide (n < 0) = false := by simp; omega
  have d1 : decide ((c : Int) ≤ n) = false := by simp; omega
  obtain ⟨G, hG⟩ : ∃ G, P.base + N = G := ⟨_, rfl⟩
  have hGl : G < D.sec.length := by have := ho.pb; omega
  have hDn := ho.dw.n
  have hGw : IntKind.i64.wrap ((P.base : Int) + n) = (G : Int) := by rw [← hn, wrap_nat (by omega) (by omega)]; omega
  rw [hG] at hp
  have H : Aside (PSt w a P L D ∧ OkU P L D ∧ PWf P ∧ pageOf (D.has G) = some p ∧ p.wf ∧ wf64 n ∧ a.ma ≤ 1099511627776) := ⟨h, ho, hw, hp, hpw, hnw, hma⟩
  have hcf := cfree_any a P L D w h (by have := hw.len; have := hw.m2; omega)
  rw [hfr] at hcf
  have hcr := croom_new a P L D w h (fun k i e => hw.lt k i e) hlt hw.m2
  clear h ho hw hn1 hlt hp hpw hma hv hc hn hG hfr hnw
  go_enter Tryz.func49, Tryz.ntmps49
  go_wp2_with fail
  refine hcf.mono ?_
  rintro e w' ⟨rfl, rfl⟩
  dsimp only
  go_wp2_with fail
  refine hcr.mono ?_
  rintro e wX ⟨bi, fv', hbi, rfl, hX, hFX, hNX⟩
  clear hcr hcf c3 c6 c10 hlook
  go_wp2_with fail
  obtain ⟨aX, haX⟩ : ∃ aX, ({ a with fv := fv', bk := a.bk ++ [bi] } : Ad) = aX := ⟨_, rfl⟩
  obtain ⟨PX, hPX⟩ : ∃ PX, ({ P with frames := P.frames ++ [frm0] } : Pl) = PX := ⟨_, rfl⟩
  obtain ⟨i, hiX⟩ : ∃ i, P.frames.length = i := ⟨_, rfl⟩
  obtain ⟨L1, hL1⟩ : ∃ L1, L = L1 := ⟨_, rfl⟩
  obtain ⟨D1, hD1⟩ : ∃ D1, D = D1 := ⟨_, rfl⟩
  rw [haX, hPX, hL1, hD1] at hX
  have HY : Aside (({ P with frames := P.frames ++ [frm0] } : Pl) = PX ∧ P.frames.length = i ∧ L = L1 ∧ D = D1) := ⟨hPX, hiX, hL1, hD1⟩
  have HX : Aside (PSt wX aX PX L1 D1 ∧ Fr (aT a) w wX ∧ AdN w a aX 0 ∧ i < PX.frames.length ∧ aX.bk.getD i 0 = bi ∧ PX.base = P.base ∧ (D1.wf ∧ D1.off = false ∧ G < D1.sec.length ∧ D1.has G = D.has G)) := by
    refine ⟨hX, fr_aT2 hFX, ?_, ?_, ?_, ?_, ?_⟩
    · rw [← haX]
      exact ⟨rfl, rfl, rfl, rfl, rfl, rfl, rfl, rfl, rfl, Nx.refl _ _, Nx.refl _ _, hNX, fun b hb => by
        rcases List.mem_append.1 hb with q | q
        · exact .inl q
        · simp only [List.mem_singleton] at q
          subst q
          exact .inr hbi, Nat.le_refl _, Nat.le_refl _, rfl⟩
    · rw [← hPX, ← hiX]; simp
    · rw [← haX, ← hiX, ← H.out.1.pool.blen]; simp [List.getD_eq_getElem?_getD]
    · rw [← hPX]
    · rw [← hD1]; exact ⟨H.out.2.1.dw, H.out.2.1.doff, hGl, rfl⟩
  clear hX hFX hNX hbi haX hPX hiX hL1 hD1 hi

  have c0 := HX.out.1.pool.blk.cell 0
  have c2 := HX.out.1.pool.blk.cell 2
  simp [plCells] at c0 c2
  rw [HX.out.2.2.2.2.2.1] at c2
  rw [HX.out.2.2.1.gp] at c0 c2
  rw [HX.out.2.2.1.gd] at c0
  have hgpX : a.gp < wX.heap.size := by rw [← HX.out.2.2.1.gp]; exact HX.out.1.pool.blk.lt
  go_wp2_with fail
  go_region_held3 (fun w' => w'.cell? ⟨a.gp, 0, none⟩ = some (.pointer (some ⟨a.gd, 0, none⟩)) ∧ w'.cell? ⟨a.gp, 2, none⟩ = some (.int .i64 (P.base : Int)))
    (first | exact ⟨c0, c2⟩ | exact ⟨(R3.out.2.cell (p := ⟨a.gp, 0, none⟩) hgpX).trans c0, (R3.out.2.cell (p := ⟨a.gp, 2, none⟩) hgpX).trans c2⟩)
    ((go_at_call 30
      (with_reducible refine Calls.mono (read_any a.gd aX.gs aX.gm D1 G _ ?_ HX.out.2.2.2.2.2.2.1 HX.out.2.2.2.2.2.2.2.1 HX.out.2.2.2.2.2.2.2.2.1) ?_)
      · rw [← HX.out.2.2.1.gd]; exact HX.out.1.ld.disk.below (by repeat (first | exact Below.refl _ _ | refine bl_drew ?_))
      rintro e w3 ⟨g3, rfl, hg3, hg3l, hb3⟩
      have R3 : Aside (w3.heap[g3]? = some (.cells (cellsB (D1.has G)) 113 (0, 0)) ∧ Below wX.heap.size wX w3) := ⟨hg3, bl_undrew hb3⟩
      clear hg3 hg3l hb3))
  have hlen : (D1.has G).length = 512 := Dk.has_len HX.out.2.2.2.2.2.2.1 HX.out.2.2.2.2.2.2.2.2.1
  have hRd : RdB w3 (some ⟨g3, 0, none⟩) 512 (D1.has G) := by
    have := rd_of_cells R3.out.1
    rwa [hlen] at this
  have HRd := hid hRd
  clear hRd hlen c0 c2
  go_wp2_with fail
  refine (cparse_ok (some ⟨g3, 0, none⟩) 512 (D1.has G) p w3 HRd.out (by omega) (by omega) (by rw [HX.out.2.2.2.2.2.2.2.2.2]; exact H.out.2.2.2.1)).mono ?_
  rintro e w4 ⟨g4, rfl, hP4, hb4⟩
  have R4 : Aside (PageAt w4 w3.heap.size g4 p ∧ Below wX.heap.size wX w4) := ⟨hP4, R3.out.2.trans (hb4.mono R3.out.2.size)⟩
  clear hP4 hb4
  go_wp2_with fail
  refine (bytes_any w3.heap.size g4 p w4 R4.out.1 H.out.2.2.2.2.1).mono ?_
  rintro e w5 ⟨g5, cap5, rfl, hown5, hb5⟩
  have R5 : Aside (w5.ownsRow w4.heap.size 5 1 (.slice (some ⟨g5, 0, none⟩) 512 cap5) 512 ((bytesP p).map u8) ∧ Below wX.heap.size wX w5 ∧ PageAt w5 w3.heap.size g4 p) := ⟨hown5, R4.out.2.trans (hb5.mono R4.out.2.size), R4.out.1.below hb5⟩
  clear hown5 hb5
  go_wp2_with fail
  refine (lsn_any w3.heap.size g4 p w5 R5.out.2.2).mono ?_
  rintro e w' ⟨rfl, rfl⟩
  have hX5 := HX.out.1.below R5.out.2.1
  obtain ⟨fX, hfX⟩ : ∃ fX, PX.frames[i]? = some fX := ⟨_, List.getElem?_eq_getElem HX.out.2.2.2.1⟩
  obtain ⟨hpd, bvd, hBd, -, -⟩ := hX5.pool.frame hfX HX.out.2.2.2.2.1
  have z0 := hBd.cell 0
  have z1 := hBd.cell 1
  have z2 := hBd.cell 2
  have z3 := hBd.cell 3
  have z4 := hBd.cell 4
  have z5 := hBd.cell 5
  simp [frmCells] at z0 z1 z2 z3 z4 z5
  have y0 := hBd.frozen 0
  have y1 := hBd.frozen 1
  have y2 := hBd.frozen 2
  have y3 := hBd.frozen 3
  have y4 := hBd.frozen 4
  have y5 := hBd.frozen 5
  have hpbX : aX.pb ≤ w4.heap.size := by
    have h1 := HX.out.1.pool.lp
    have h2 := HX.out.1.pool.blk.lt
    have h3 := R4.out.2.size
    omega
  have hown : w5.ownsRow aX.pb 5 1 (.slice (some ⟨g5, 0, none⟩) 512 cap5) (newF n p).bytes.length ((newF n p).bytes.map u8) := by
    have := own_mono R5.out.1 hpbX
    rw [show (newF n p).bytes.length = 512 from bytesP_length H.out.2.2.2.2.1]
    exact this
  have hsvX : ∀ b, (Value.slice (some ⟨g5, 0, none⟩) 512 cap5).ownBlock = some b → aX.sv.ownBlock ≠ some b ∧ aX.ov.ownBlock ≠ some b := by
    intro b hb
    have h1 := (R5.out.1.lt b hb).1
    have h3 := R4.out.2.size
    refine ⟨fun e => ?_, fun e => ?_⟩
    · have h2 := (HX.out.1.ld.log.2.2.1.lt b e).2
      omega
    · have h2 := HX.out.1.pool.ol b e
      omega
  obtain ⟨hS6, hF6⟩ := hX5.frmAll HX.out.2.2.2.1 HX.out.2.2.2.2.1 (newF n p) (.slice (some ⟨g5, 0, none⟩) 512 cap5) hown hsvX
  obtain ⟨w6, hw6⟩ : ∃ w6, frmSet w5 bi (newF n p) (.slice (some ⟨g5, 0, none⟩) 512 cap5) = w6 := ⟨_, rfl⟩
  rw [hw6] at hS6 hF6
  have R6 : Aside (PSt w6 aX { PX with frames := PX.frames.set i (newF n p) } L1 D1 ∧ Fr (pT aX) wX w6) := ⟨hS6, (Fr.of_below R5.out.2.1 _).trans hF6 (fun _ _ h => h)⟩
  have c6 := hS6.pool.blk.cell 6
  simp [plCells] at c6
  rw [HX.out.2.2.1.gp, HX.out.2.2.1.ga] at c6
  have hm6 := hS6.pool.atm
  rw [HX.out.2.2.1.ga] at hm6
  have HM := hid hm6
  have hw6e : (((((w5.setCell ⟨bi, 0, none⟩ (.int .i64 n)).setCell ⟨bi, 1, none⟩ (.slice (some ⟨g5, 0, none⟩) 512 cap5)).setCell ⟨bi, 2, none⟩ (.int .i64 p.lsn)).setCell ⟨bi, 3, none⟩ (.bool false)).setCell ⟨bi, 4, none⟩ (.int .i64 0)).setCell ⟨bi, 5, none⟩ (.bool true) = w6 := hw6
  have hnw : wf64 n := H.out.2.2.2.2.2.1
  have hmaX : aX.ma < maxLen := by have := HX.out.2.2.1.ma; have := H.out.2.2.2.2.2.2; unfold maxLen; omega
  clear hX5 hpd hBd hown hsvX hS6 hF6 hm6 hw6
  go_wp2_with (
    (refine wpList_upd _ rfl (.tmp 88) (.tmp 89) (.tmp 90) 102 rfl 3 94 Tryz.underlying3 Tryz.underlying102 a.ga aX.ma (atV aX.bk PX.atm) rfl HM.out hmaX n rfl hnw (.pointer (some ⟨bi, 0, none⟩)) rfl ?_)
    intro w7 hm7 ht7
    have R7 : Aside (MapAt Tryz.prog 3 w7 a.ga (aX.ma + 1) (upd (atV aX.bk PX.atm) n (.pointer (some ⟨bi, 0, none⟩))) ∧ w6.mapTurned w7 a.ga) := ⟨hm7, ht7⟩
    clear hm7 ht7)
  go_ret2
  have hm7 := R7.out.1
  have ht7 := R7.out.2
  have ega := HX.out.2.2.1.ga
  rw [← ega] at hm7 ht7
  rw [← HX.out.2.2.2.2.1] at hm7
  obtain ⟨hS7, hF7⟩ := R6.out.1.entered hm7 ht7
  have hFe : Fr (aT a) w w7 := HX.out.2.2.1.fr HX.out.2.1 (fr_same (fr_aT2 R6.out.2) (fr_aT2 hF7))
  have hAe : AdN w a { aX with ma := aX.ma + 1 } 1 := by
    obtain ⟨q1, q2, q3, q4, q5, q6, q7, q8, q9, q10, q11, q12, q13, q14, q15, q16⟩ := HX.out.2.2.1
    exact ⟨q1, q2, q3, q4, q5, q6, q7, q8, q9, q10, q11, q12, q13, by show aX.ma + 1 ≤ _; omega, by show aX.mn ≤ _; omega, q16⟩
  refine ⟨{ aX with ma := aX.ma + 1 }, ?_, ?_, hFe, hAe⟩
  · show Ending.returned (.tuple #[.pointer (some ⟨bi, 0, none⟩), .int .i64 0]) = Ending.returned (.tuple #[.pointer (some ⟨aX.bk.getD P.frames.length 0, 0, none⟩), .int .i64 0])
    rw [HY.out.2.1, HX.out.2.2.2.2.1]
  · rw [HY.out.2.1, HY.out.1, HY.out.2.2.1, HY.out.2.2.2]
    exact hS7

set_option maxRecDepth 100000 in
set_option maxHeartbeats 2000000 in
theorem fetch_oldU (a : Ad) (P : Pl) (L : Lg) (D : Dk) (pl : List (Int × Int)) (N : Nat) (p : Pg) (i hd : Nat) (fs : List Frm) (f : Frm) (w : World) (h : PSt w a P L (D.under pl)) (hpl : pl.length ≤ 70368744175616) (ho : Ok P L D) (hw : PWf P) (hn1 : N < P.count) (hi : P.atm N = none) (hlt : P.most ≤ P.frames.length) (hv0 : vict P.pins (2 * P.frames.length) P.frames P.hand = (some i, fs, hd)) (hf0 : fs[i]? = some f) (hlog : L.first + L.count ≤ P.base)
    (hp : pageOf (D.has (P.base + N)) = some p) (hpw : p.wf) (hma : a.ma ≤ 1099511627776) (hcalm : Calm pl D.steps (evD D L f P.base).steps) :
    Calls Tryz.prog 49 #[.pointer (some ⟨a.gp, 0, none⟩), .int .i64 (N : Int)] w fun e w' => ∃ a', e = .returned (.tuple #[.pointer (some ⟨a'.bk.getD i 0, 0, none⟩), .int .i64 0]) ∧
      PSt w' a' (inP (evP P fs hd i f) i N p) (evL L f) ((evD D L f P.base).under pl) ∧ Fr (aT a) w w' ∧ AdN w a a' 1 := by
  obtain ⟨n, hn⟩ : ∃ n : Int, (N : Int) = n := ⟨_, rfl⟩
  have hfr := frees_spec P.frames 0 (fun f hf => (hw.full f hf).1)
  have c10 := h.pool.blk.cell 10
  have c3 := h.pool.blk.cell 3
  have c6 := h.pool.blk.cell 6
  simp [plCells] at c10 c3 c6
  rw [ho.pd] at c10
  have hnw : wf64 n := by have := hw.count; unfold wf64; omega
  have hi' := hi
  rw [hn] at hi ⊢
  have hlook := at_look h.pool n hnw w rfl
  have hv : (atV a.bk P.atm n).getD (.pointer none) = .pointer none := by
    unfold atV
    rw [hi]
    rfl
  rw [hv] at hlook
  obtain ⟨c, hc⟩ : ∃ c, P.count = c := ⟨_, rfl⟩
  rw [hc] at c3
  have d0 : decide (n < 0) = false := by simp; omega
  have d1 : decide ((c : Int) ≤ n) = false := by simp; omega
  obtain ⟨G, hG⟩ : ∃ G, P.base + N = G := ⟨_, rfl⟩
  have hGl : G < D.sec.length := by have := ho.pb; omega
  have hDn := ho.dw.n
  have hGw : IntKind.i64.wrap ((P.base : Int) + n) = (G : Int) := by rw [← hn, wrap_nat (by omega) (by omega)]; omega
  rw [hG] at hp
  have H : Aside (PSt w a P L (D.under pl) ∧ Ok P L D ∧ PWf P ∧ pageOf (D.has G) = some p ∧ p.wf ∧ wf64 n ∧ a.ma ≤ 1099511627776) := ⟨h, ho, hw, hp, hpw, hnw, hma⟩
  have hcf := cfree_any a P L (D.under pl) w h (by have := hw.len; have := hw.m2; omega)
  rw [hfr] at hcf
  have hn0 : 0 < P.frames.length := by have := hw.m1; omega
  have hcr := croom_calm a P L D pl w P.frames.length i hd fs f h hpl ho rfl hn0 (by have := hw.len; have := hw.m2; omega) (by have := hw.hand; omega) hw.full hlt hw.count hv0 hf0 hcalm
  have hsame : SameF fs P.frames := by have := vict_same P.pins (2 * P.frames.length) P.frames P.hand P.frames (SameF.refl _); rw [hv0] at this; exact this
  have hiL : i < fs.length := (List.getElem?_eq_some_iff.1 hf0).1
  obtain ⟨hq0, hq1, hq2⟩ := hsame.full hw.full f (List.mem_of_getElem? hf0)
  have hqn : f.n ≠ (N : Int) := by
    intro e
    obtain ⟨g, g1, g2⟩ := hsame.2 i f hf0
    have : P.atm (N : Int) = some i := (hw.atm _ _).2 ⟨g, g1, by rw [← e, g2]⟩
    rw [hi'] at this
    cases this
  have hev := evD_next ho hq0 hq1 hq2 hlog hn1 hqn
  have HE2 := hid hev
  clear h hpl hcalm ho hw hn1 hlt hp hpw hma hv hc hn hfr hnw hv0 hf0 hsame hq0 hq1 hq2 hqn hev hlog hi'
  go_enter Tryz.func49, Tryz.ntmps49
  go_wp2_with fail
  refine hcf.mono ?_
  rintro e w' ⟨rfl, rfl⟩
  dsimp only
  go_wp2_with fail
  refine hcr.mono ?_
  rintro e wX ⟨rfl, hX, hFX⟩
  obtain ⟨bi, hbi⟩ : ∃ bi, a.bk.getD i 0 = bi := ⟨_, rfl⟩
  rw [hbi]
  clear hcr hcf c3 c6 c10 hlook
  go_wp2_with fail
  obtain ⟨aX, haX⟩ : ∃ aX, a = aX := ⟨_, rfl⟩
  obtain ⟨PX, hPX⟩ : ∃ PX, evP P fs hd i f = PX := ⟨_, rfl⟩
  obtain ⟨L1, hL1⟩ : ∃ L1, evL L f = L1 := ⟨_, rfl⟩
  obtain ⟨D1, hD1⟩ : ∃ D1, (evD D L f P.base).under pl = D1 := ⟨_, rfl⟩
  rw [hPX, hL1, hD1] at hX
  have HY : Aside (evP P fs hd i f = PX ∧ i = i ∧ evL L f = L1 ∧ (evD D L f P.base).under pl = D1) := ⟨hPX, rfl, hL1, hD1⟩
  have HX : Aside (PSt wX aX PX L1 D1 ∧ Fr (aT a) w wX ∧ AdN w a aX 0 ∧ i < PX.frames.length ∧ aX.bk.getD i 0 = bi ∧ PX.base = P.base ∧ (D1.wf ∧ D1.off = false ∧ G < D1.sec.length ∧ D1.has G = D.has G)) := by
    rw [← haX]
    refine ⟨hX, hFX, AdN.refl _ _ _, ?_, hbi, ?_, ?_⟩
    · rw [← hPX]; show i < (fs.set i frm0).length; rw [List.length_set]; exact hiL
    · rw [← hPX]; rfl
    · obtain ⟨h1, h2, h3, h4, h5⟩ := HE2.out
      rw [← hD1, ← hG]
      exact ⟨⟨h1.n, h1.len, h1.plen, h1.pin, h1.s0, h1.s1⟩, h3, by show _ < (evD D L f P.base).sec.length; rw [h4, hG]; exact hGl, h5⟩
  clear hX hFX hbi haX hPX hL1 hD1 hi hG
  have c0 := HX.out.1.pool.blk.cell 0
  have c2 := HX.out.1.pool.blk.cell 2
  simp [plCells] at c0 c2
  rw [HX.out.2.2.2.2.2.1] at c2
  rw [HX.out.2.2.1.gp] at c0 c2
  rw [HX.out.2.2.1.gd] at c0
  have hgpX : a.gp < wX.heap.size := by rw [← HX.out.2.2.1.gp]; exact HX.out.1.pool.blk.lt
  go_wp2_with fail
  go_region_held3 (fun w' => w'.cell? ⟨a.gp, 0, none⟩ = some (.pointer (some ⟨a.gd, 0, none⟩)) ∧ w'.cell? ⟨a.gp, 2, none⟩ = some (.int .i64 (P.base : Int)))
    (first | exact ⟨c0, c2⟩ | exact ⟨(R3.out.2.cell (p := ⟨a.gp, 0, none⟩) hgpX).trans c0, (R3.out.2.cell (p := ⟨a.gp, 2, none⟩) hgpX).trans c2⟩)
    ((go_at_call 30
      (with_reducible refine Calls.mono (read_any a.gd aX.gs aX.gm D1 G _ ?_ HX.out.2.2.2.2.2.2.1 HX.out.2.2.2.2.2.2.2.1 HX.out.2.2.2.2.2.2.2.2.1) ?_)
      · rw [← HX.out.2.2.1.gd]; exact HX.out.1.ld.disk.below (by repeat (first | exact Below.refl _ _ | refine bl_drew ?_))
      rintro e w3 ⟨g3, rfl, hg3, hg3l, hb3⟩
      have R3 : Aside (w3.heap[g3]? = some (.cells (cellsB (D1.has G)) 113 (0, 0)) ∧ Below wX.heap.size wX w3) := ⟨hg3, bl_undrew hb3⟩
      clear hg3 hg3l hb3))
  have hlen : (D1.has G).length = 512 := Dk.has_len HX.out.2.2.2.2.2.2.1 HX.out.2.2.2.2.2.2.2.2.1
  have hRd : RdB w3 (some ⟨g3, 0, none⟩) 512 (D1.has G) := by
    have := rd_of_cells R3.out.1
    rwa [hlen] at this
  have HRd := hid hRd
  clear hRd hlen c0 c2
  go_wp2_with fail
  refine (cparse_ok (some ⟨g3, 0, none⟩) 512 (D1.has G) p w3 HRd.out (by omega) (by omega) (by rw [HX.out.2.2.2.2.2.2.2.2.2]; exact H.out.2.2.2.1)).mono ?_
  rintro e w4 ⟨g4, rfl, hP4, hb4⟩
  have R4 : Aside (PageAt w4 w3.heap.size g4 p ∧ Below wX.heap.size wX w4) := ⟨hP4, R3.out.2.trans (hb4.mono R3.out.2.size)⟩
  clear hP4 hb4
  go_wp2_with fail
  refine (bytes_any w3.heap.size g4 p w4 R4.out.1 H.out.2.2.2.2.1).mono ?_
  rintro e w5 ⟨g5, cap5, rfl, hown5, hb5⟩
  have R5 : Aside (w5.ownsRow w4.heap.size 5 1 (.slice (some ⟨g5, 0, none⟩) 512 cap5) 512 ((bytesP p).map u8) ∧ Below wX.heap.size wX w5 ∧ PageAt w5 w3.heap.size g4 p) := ⟨hown5, R4.out.2.trans (hb5.mono R4.out.2.size), R4.out.1.below hb5⟩
  clear hown5 hb5
  go_wp2_with fail
  refine (lsn_any w3.heap.size g4 p w5 R5.out.2.2).mono ?_
  rintro e w' ⟨rfl, rfl⟩
  have hX5 := HX.out.1.below R5.out.2.1
  obtain ⟨fX, hfX⟩ : ∃ fX, PX.frames[i]? = some fX := ⟨_, List.getElem?_eq_getElem HX.out.2.2.2.1⟩
  obtain ⟨hpd, bvd, hBd, -, -⟩ := hX5.pool.frame hfX HX.out.2.2.2.2.1
  have z0 := hBd.cell 0
  have z1 := hBd.cell 1
  have z2 := hBd.cell 2
  have z3 := hBd.cell 3
  have z4 := hBd.cell 4
  have z5 := hBd.cell 5
  simp [frmCells] at z0 z1 z2 z3 z4 z5
  have y0 := hBd.frozen 0
  have y1 := hBd.frozen 1
  have y2 := hBd.frozen 2
  have y3 := hBd.frozen 3
  have y4 := hBd.frozen 4
  have y5 := hBd.frozen 5
  have hpbX : aX.pb ≤ w4.heap.size := by
    have h1 := HX.out.1.pool.lp
    have h2 := HX.out.1.pool.blk.lt
    have h3 := R4.out.2.size
    omega
  have hown : w5.ownsRow aX.pb 5 1 (.slice (some ⟨g5, 0, none⟩) 512 cap5) (newF n p).bytes.length ((newF n p).bytes.map u8) := by
    have := own_mono R5.out.1 hpbX
    rw [show (newF n p).bytes.length = 512 from bytesP_length H.out.2.2.2.2.1]
    exact this
  have hsvX : ∀ b, (Value.slice (some ⟨g5, 0, none⟩) 512 cap5).ownBlock = some b → aX.sv.ownBlock ≠ some b ∧ aX.ov.ownBlock ≠ some b := by
    intro b hb
    have h1 := (R5.out.1.lt b hb).1
    have h3 := R4.out.2.size
    refine ⟨fun e => ?_, fun e => ?_⟩
    · have h2 := (HX.out.1.ld.log.2.2.1.lt b e).2
      omega
    · have h2 := HX.out.1.pool.ol b e
      omega
  obtain ⟨hS6, hF6⟩ := hX5.frmAll HX.out.2.2.2.1 HX.out.2.2.2.2.1 (newF n p) (.slice (some ⟨g5, 0, none⟩) 512 cap5) hown hsvX
  obtain ⟨w6, hw6⟩ : ∃ w6, frmSet w5 bi (newF n p) (.slice (some ⟨g5, 0, none⟩) 512 cap5) = w6 := ⟨_, rfl⟩
  rw [hw6] at hS6 hF6
  have R6 : Aside (PSt w6 aX { PX with frames := PX.frames.set i (newF n p) } L1 D1 ∧ Fr (pT aX) wX w6) := ⟨hS6, (Fr.of_below R5.out.2.1 _).trans hF6 (fun _ _ h => h)⟩
  have c6 := hS6.pool.blk.cell 6
  simp [plCells] at c6
  rw [HX.out.2.2.1.gp, HX.out.2.2.1.ga] at c6
  have hm6 := hS6.pool.atm
  rw [HX.out.2.2.1.ga] at hm6
  have HM := hid hm6
  have hw6e : (((((w5.setCell ⟨bi, 0, none⟩ (.int .i64 n)).setCell ⟨bi, 1, none⟩ (.slice (some ⟨g5, 0, none⟩) 512 cap5)).setCell ⟨bi, 2, none⟩ (.int .i64 p.lsn)).setCell ⟨bi, 3, none⟩ (.bool false)).setCell ⟨bi, 4, none⟩ (.int .i64 0)).setCell ⟨bi, 5, none⟩ (.bool true) = w6 := hw6
  have hnw : wf64 n := H.out.2.2.2.2.2.1
  have hmaX : aX.ma < maxLen := by have := HX.out.2.2.1.ma; have := H.out.2.2.2.2.2.2; unfold maxLen; omega
  clear hX5 hpd hBd hown hsvX hS6 hF6 hm6 hw6
  go_wp2_with (
    (refine wpList_upd _ rfl (.tmp 88) (.tmp 89) (.tmp 90) 102 rfl 3 94 Tryz.underlying3 Tryz.underlying102 a.ga aX.ma (atV aX.bk PX.atm) rfl HM.out hmaX n rfl hnw (.pointer (some ⟨bi, 0, none⟩)) rfl ?_)
    intro w7 hm7 ht7
    have R7 : Aside (MapAt Tryz.prog 3 w7 a.ga (aX.ma + 1) (upd (atV aX.bk PX.atm) n (.pointer (some ⟨bi, 0, none⟩))) ∧ w6.mapTurned w7 a.ga) := ⟨hm7, ht7⟩
    clear hm7 ht7)
  go_ret2
  have hm7 := R7.out.1
  have ht7 := R7.out.2
  have ega := HX.out.2.2.1.ga
  rw [← ega] at hm7 ht7
  rw [← HX.out.2.2.2.2.1] at hm7
  obtain ⟨hS7, hF7⟩ := R6.out.1.entered hm7 ht7
  have hFe : Fr (aT a) w w7 := HX.out.2.2.1.fr HX.out.2.1 (fr_same (fr_aT2 R6.out.2) (fr_aT2 hF7))
  have hAe : AdN w a { aX with ma := aX.ma + 1 } 1 := by
    obtain ⟨q1, q2, q3, q4, q5, q6, q7, q8, q9, q10, q11, q12, q13, q14, q15, q16⟩ := HX.out.2.2.1
    exact ⟨q1, q2, q3, q4, q5, q6, q7, q8, q9, q10, q11, q12, q13, by show aX.ma + 1 ≤ _; omega, by show aX.mn ≤ _; omega, q16⟩
  refine ⟨{ aX with ma := aX.ma + 1 }, ?_, ?_, hFe, hAe⟩
  · show Ending.returned (.tuple #[.pointer (some ⟨bi, 0, none⟩), .int .i64 0]) = Ending.returned (.tuple #[.pointer (some ⟨aX.bk.getD i 0, 0, none⟩), .int .i64 0])
    rw [HX.out.2.2.2.2.1]
  · rw [HY.out.1, HY.out.2.2.1, HY.out.2.2.2]
    exact hS7



set_option maxRecDepth 100000 in
theorem fetch_oldF (a : Ad) (P : Pl) (L : Lg) (D : Dk) (pl : List (Int × Int)) (N : Nat) (i hd : Nat) (fs : List Frm) (f : Frm) (w : World) (h : PSt w a P L (D.under pl)) (hpl : pl.length ≤ 70368744175616) (ho : Ok P L D) (hdd : P.dead = false) (hw : PWf P) (hn1 : N < P.count) (hi : P.atm N = none) (hlt : P.most ≤ P.frames.length)
    (hv0 : vict P.pins (2 * P.frames.length) P.frames P.hand = (some i, fs, hd)) (hf0 : fs[i]? = some f) (hcalm : ¬ Calm pl D.steps (evD D L f P.base).steps) :
    Calls Tryz.prog 49 #[.pointer (some ⟨a.gp, 0, none⟩), .int .i64 (N : Int)] w fun e w' => ∃ er, (er == 0) = false ∧ e = .returned (.tuple #[.pointer none, .int .i64 er]) ∧ Fr (aT a) w w' ∧ ∃ L' D', PSt w' a { P with frames := fs, hand := hd, dead := true } L' D' ∧ Lost pl L L' D D' f (P.base + f.n.toNat) (evD D L f P.base).steps ∧ f.dirty = true := by
  obtain ⟨n, hn⟩ : ∃ n : Int, (N : Int) = n := ⟨_, rfl⟩
  have hfr := frees_spec P.frames 0 (fun f hf => (hw.full f hf).1)
  have c10 := h.pool.blk.cell 10
  have c3 := h.pool.blk.cell 3
  have c6 := h.pool.blk.cell 6
  simp [plCells] at c10 c3 c6
  rw [hdd] at c10
  have hnw : wf64 n := by have := hw.count; unfold wf64; omega
  rw [hn] at hi ⊢
  have hlook := at_look h.pool n hnw w rfl
  have hv : (atV a.bk P.atm n).getD (.pointer none) = .pointer none := by
    unfold atV
    rw [hi]
    rfl
  rw [hv] at hlook
  obtain ⟨c, hc⟩ : ∃ c, P.count = c := ⟨_, rfl⟩
  rw [hc] at c3
  have d0 : decide (n < 0) = false := by simp; omega
  have d1 : decide ((c : Int) ≤ n) = false := by simp; omega
  have hcf := cfree_any a P L (D.under pl) w h (by have := hw.len; have := hw.m2; omega)
  rw [hfr] at hcf
  have hn0 : 0 < P.frames.length := by have := hw.m1; omega
  have hcr := croom_gone a P L D pl w P.frames.length i hd fs f h hpl ho rfl hn0 (by have := hw.len; have := hw.m2; omega) (by have := hw.hand; omega) hw.full hlt hw.count hv0 hf0 hcalm
  clear h hpl ho hf0 hcalm hw hn1 hlt hv hc hn hfr hnw hv0 hdd hi hn0
  go_enter Tryz.func49, Tryz.ntmps49
  go_wp2_with fail
  refine hcf.mono ?_
  rintro e w' ⟨rfl, rfl⟩
  dsimp only
  go_wp2_with fail
  refine hcr.mono ?_
  rintro e wX ⟨er, her, rfl, hFX, hX⟩
  have HX := hid hX
  have hne : (er != 0) = true := by simp [bne, her]
  clear hcr hcf c3 c6 c10 hlook hX
  go_wp2_with fail
  go_ret2
  exact ⟨er, her, rfl, hFX, HX.out⟩

theorem fetch_someU (a : Ad) (P : Pl) (L : Lg) (D : Dk) (pl : List (Int × Int)) (N : Nat) (p : Pg) (i : Nat) (P' : Pl) (L' : Lg) (D' : Dk) (w : World) (h : PSt w a P L (D.under pl)) (hpl : pl.length ≤ 70368744175616) (ho : Ok P L D) (hw : PWf P) (hn1 : N < P.count)
    (hp : pageOf (D.has (P.base + N)) = some p) (hpw : p.wf) (hma : a.ma ≤ 1099511627776) (hlog : L.first + L.count ≤ P.base) (hr : fetchR P L D N p = some (i, P', L', D')) (hcalm : Calm pl D.steps D'.steps) :
    Calls Tryz.prog 49 #[.pointer (some ⟨a.gp, 0, none⟩), .int .i64 (N : Int)] w fun e w' => ∃ a', e = .returned (.tuple #[.pointer (some ⟨a'.bk.getD i 0, 0, none⟩), .int .i64 0]) ∧
      PSt w' a' P' L' (D'.under pl) ∧ Fr (aT a) w w' ∧ AdN w a a' 1 := by
  unfold fetchR at hr
  cases hat : P.atm N with
  | some j =>
    rw [hat] at hr
    obtain ⟨f, hf, _⟩ := (hw.atm _ _).1 hat
    simp only [hf, Option.some.injEq, Prod.mk.injEq] at hr
    obtain ⟨rfl, rfl, rfl, rfl⟩ := hr
    refine (fetch_hit a P L (D.under pl) N j f w h hw ho.pd (by omega) (by omega) hat hf).mono ?_
    rintro e w' ⟨rfl, h1, h2⟩
    exact ⟨a, rfl, h1, fr_aT2 h2, AdN.refl _ _ _⟩
  | none =>
    rw [hat] at hr
    simp only at hr
    by_cases hlt : P.frames.length < P.most
    · rw [if_pos hlt] at hr
      simp only [Option.some.injEq, Prod.mk.injEq] at hr
      obtain ⟨rfl, rfl, rfl, rfl⟩ := hr
      exact fetch_newU a P L (D.under pl) N p w h (ho.under pl) hw hn1 hat hlt hp hpw hma
    · rw [if_neg hlt] at hr
      split at hr
      · rename_i j fs hd hv
        split at hr
        · rename_i f hf
          simp only [Option.some.injEq, Prod.mk.injEq] at hr
          obtain ⟨rfl, rfl, rfl, rfl⟩ := hr
          exact fetch_oldU a P L D pl N p j hd fs f w h hpl ho hw hn1 hat (by omega) hv hf hlog hp hpw hma hcalm
        · cases hr
      · cases hr

theorem fetch_goneU (a : Ad) (P : Pl) (L : Lg) (D : Dk) (pl : List (Int × Int)) (N : Nat) (p : Pg) (i : Nat) (P' : Pl) (L' : Lg) (D' : Dk) (w : World) (h : PSt w a P L (D.under pl)) (hpl : pl.length ≤ 70368744175616) (ho : Ok P L D) (hw : PWf P) (hn1 : N < P.count)
    (hr : fetchR P L D N p = some (i, P', L', D')) (hcalm : ¬ Calm pl D.steps D'.steps) :
    Calls Tryz.prog 49 #[.pointer (some ⟨a.gp, 0, none⟩), .int .i64 (N : Int)] w fun e w' => ∃ er, (er == 0) = false ∧ e = .returned (.tuple #[.pointer none, .int .i64 er]) ∧ Fr (aT a) w w' ∧
      ∃ (P2 : Pl) (L2 : Lg) (D2 : Dk) (f : Frm), PSt w' a P2 L2 D2 ∧ P2.dead = true ∧ (∃ (i : Nat) (f0 : Frm), P.frames[i]? = some f0 ∧ f = { f0 with used := f.used }) ∧ f.dirty = true ∧ Lost pl L L2 D D2 f (P.base + f.n.toNat) D'.steps := by
  unfold fetchR at hr
  cases hat : P.atm N with
  | some j =>
    rw [hat] at hr
    obtain ⟨f, hf, _⟩ := (hw.atm _ _).1 hat
    simp only [hf, Option.some.injEq, Prod.mk.injEq] at hr
    obtain ⟨rfl, rfl, rfl, rfl⟩ := hr
    exact absurd (Calm.refl _ _) hcalm
  | none =>
    rw [hat] at hr
    simp only at hr
    by_cases hlt : P.frames.length < P.most
    · rw [if_pos hlt] at hr
      simp only [Option.some.injEq, Prod.mk.injEq] at hr
      obtain ⟨rfl, rfl, rfl, rfl⟩ := hr
      exact absurd (Calm.refl _ _) hcalm
    · rw [if_neg hlt] at hr
      split at hr
      · rename_i j fs hd hv
        split at hr
        · rename_i f hf
          simp only [Option.some.injEq, Prod.mk.injEq] at hr
          obtain ⟨rfl, rfl, rfl, rfl⟩ := hr
          have hsame : SameF fs P.frames := by have := vict_same P.pins (2 * P.frames.length) P.frames P.hand P.frames (SameF.refl _); rw [hv] at this; exact this
          refine (fetch_oldF a P L D pl N j hd fs f w h hpl ho ho.pd hw hn1 hat (by omega) hv hf hcalm).mono ?_
          rintro e w' ⟨er, her, rfl, hF, L2, D2, h1, h2, h3⟩
          obtain ⟨g, g1, g2⟩ := hsame.2 j f hf
          exact ⟨er, her, rfl, hF, _, L2, D2, f, h1, rfl, ⟨j, g, g1, g2⟩, h3, h2⟩
        · cases hr
      · cases hr
end Go.Proofs.YthfidlhefkjpdaaGreatDoor
