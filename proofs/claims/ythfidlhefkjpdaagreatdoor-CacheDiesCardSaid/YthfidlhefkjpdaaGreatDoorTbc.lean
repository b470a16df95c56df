/- cache.fetch where the page is read from the disk. -/
import Derived.Test.YthfidlhefkjpdaaGreatDoorTbb
import Derived.Test.YthfidlhefkjpdaaGreatDoorTah
namespace Go.Proofs.YthfidlhefkjpdaaGreatDoor
open Go.RowKit Go.Maps

def newF (n : Int) (p : Pg) : Frm := ⟨n, bytesP p, p.lsn, false, 0, true⟩
def inP (P : Pl) (i : Nat) (n : Int) (p : Pg) : Pl := { P with frames := P.frames.set i (newF n p), atm := fun k => if k = n then some i else P.atm k }

/-- An entry is made in the map of frames. -/
theorem PSt.entered {w w' : World} {a : Ad} {P : Pl} {L : Lg} {D : Dk} {i : Nat} {k : Int} (h : PSt w a P L D) (hm : MapAt Tryz.prog 3 w' a.ga (a.ma + 1) (upd (atV a.bk P.atm) k (.pointer (some ⟨a.bk.getD i 0, 0, none⟩)))) (ht : w.mapTurned w' a.ga) :
    PSt w' { a with ma := a.ma + 1 } { P with atm := fun j => if j = k then some i else P.atm j } L D ∧ Fr (pT a) w w' := by
  have hF := mapTurned_fr ht
  have hFp : Fr (pT a) w w' := hF.mono fun _ _ e => .inr (.inr (.inr (.inl e)))
  have hne : ∀ b t, Ty w b t → b ≠ a.ga := fun b t hb e => by subst e; exact map_ty h.pool.atm hb
  refine ⟨h.onPool (a' := { a with ma := a.ma + 1 }) hFp ⟨h.pool.blk.fr hF (hne _ _ h.pool.blk.ty), own_fr h.pool.row hF (fun b hb => hne b _ (own_ty h.pool.row hb)), h.pool.blen, fun j hj => (h.pool.each j hj).fr hF ?_ (fun x hx _ _ => hne x _ hx), h.pool.nodup, ?_, h.pool.pin.block (hF.block _ h.pool.pin.lt (fun e => h.pool.ne e.symm)), h.pool.lp, h.pool.la, h.pool.ln, h.pool.ne, fun b hb => Nat.lt_of_lt_of_le (h.pool.ol b hb) hF.size⟩, hFp⟩
  · obtain ⟨_, _, q, _⟩ := h.pool.each j hj
    exact hne _ _ q.ty
  · have e : atV a.bk (fun j => if j = k then some i else P.atm j) = upd (atV a.bk P.atm) k (.pointer (some ⟨a.bk.getD i 0, 0, none⟩)) := by
      funext j
      unfold atV upd
      by_cases hj : j = k
      · simp [hj]
      · simp [hj]
    show MapAt _ _ _ _ _ (atV a.bk (fun j => if j = k then some i else P.atm j))
    rw [e]
    exact hm

set_option maxRecDepth 100000 in
set_option maxHeartbeats 2000000 in
theorem fetch_new (a : Ad) (P : Pl) (L : Lg) (D : Dk) (N : Nat) (p : Pg) (w : World) (h : PSt w a P L D) (ho : Ok P L D) (hw : PWf P) (hn1 : N < P.count) (hi : P.atm N = none) (hlt : P.frames.length < P.most)
    (hp : pageOf (D.has (P.base + N)) = some p) (hpw : p.wf) (hma : a.ma ≤ 1099511627776) :
    Calls Tryz.prog 49 #[.pointer (some ⟨a.gp, 0, none⟩), .int .i64 (N : Int)] w fun e w' => ∃ a', e = .returned (.tuple #[.pointer (some ⟨a'.bk.getD P.frames.length 0, 0, none⟩), .int .i64 0]) ∧
      PSt w' a' (inP { P with frames := P.frames ++ [frm0] } P.frames.length N p) L D ∧ Fr (aT a) w w' ∧ AdN w a a' 1 := by
  obtain ⟨n, hn⟩ : ∃ n : Int, (N : Int) = n := ⟨_, rfl⟩
  have hfr := frees_spec P.frames 0 (fun f hf => (hw.full f hf).1)
  have c10 := h.pool.blk.cell 10
  have c3 := h.pool.blk.cell 3
  have c6 := h.pool.blk.cell 6
  simp [plCells] at c10 c3 c6
  rw [ho.pd] at c10
  have hnw : wf64 n := by have := hw.count; unfold wf64; omega
  rw [hn] at hi ⊢
  have hlook := at_look h.pool n hnw w rfl
  have hv : (atV a.bk P.atm n).getD (.pointer none) = .pointer none := by
    unfold atV
    rw [hi]
    rfl
  rw [hv] at hlook
  obtain ⟨c, hc⟩ : ∃ c, P.count = c := ⟨_, rfl⟩
  rw [hc] at c3
  have d0 : decide (n < 0) = false := by simp; omega
  have d1 : decide ((c : Int) ≤ n) = false := by simp; omega
  obtain ⟨G, hG⟩ : ∃ G, P.base + N = G := ⟨_, rfl⟩
  have hGl : G < D.sec.length := by have := ho.pb; omega
  have hDn := ho.dw.n
  have hGw : IntKind.i64.wrap ((P.base : Int) + n) = (G : Int) := by rw [← hn, wrap_nat (by omega) (by omega)]; omega
  rw [hG] at hp
  have H : Aside (PSt w a P L D ∧ Ok P L D ∧ PWf P ∧ pageOf (D.has G) = some p ∧ p.wf ∧ wf64 n ∧ a.ma ≤ 1099511627776) := ⟨h, ho, hw, hp, hpw, hnw, hma⟩
  have hcf := cfree_any a P L D w h (by have := hw.len; have := hw.m2; omega)
  rw [hfr] at hcf
  have hcr := croom_new a P L D w h (fun k i e => hw.lt k i e) hlt hw.m2
  clear h ho hw hn1 hlt hp hpw hma hv hc hn hG hfr hnw
  go_enter Tryz.func49, Tryz.ntmps49
  go_wp2_with fail
  refine hcf.mono ?_
  rintro e w' ⟨rfl, rfl⟩
  dsimp only
  go_wp2_with fail
  refine hcr.mono ?_
  rintro e wX ⟨bi, fv', hbi, rfl, hX, hFX, hNX⟩
  clear hcr hcf c3 c6 c10 hlook
  go_wp2_with fail
  obtain ⟨aX, haX⟩ : ∃ aX, ({ a with fv := fv', bk := a.bk ++ [bi] } : Ad) = aX := ⟨_, rfl⟩
  obtain ⟨PX, hPX⟩ : ∃ PX, ({ P with frames := P.frames ++ [frm0] } : Pl) = PX := ⟨_, rfl⟩
  obtain ⟨i, hiX⟩ : ∃ i, P.frames.length = i := ⟨_, rfl⟩
  obtain ⟨L1, hL1⟩ : ∃ L1, L = L1 := ⟨_, rfl⟩
  obtain ⟨D1, hD1⟩ : ∃ D1, D = D1 := ⟨_, rfl⟩
  rw [haX, hPX, hL1, hD1] at hX
  have HY : Aside (({ P with frames := P.frames ++ [frm0] } : Pl) = PX ∧ P.frames.length = i ∧ L = L1 ∧ D = D1) := ⟨hPX, hiX, hL1, hD1⟩
  have HX : Aside (PSt wX aX PX L1 D1 ∧ Fr (aT a) w wX ∧ AdN w a aX 0 ∧ i < PX.frames.length ∧ aX.bk.getD i 0 = bi ∧ PX.base = P.base ∧ (D1.wf ∧ D1.off = false ∧ G < D1.sec.length ∧ D1.has G = D.has G)) := by
    refine ⟨hX, fr_aT2 hFX, ?_, ?_, ?_, ?_, ?_⟩
    · rw [← haX]
      exact ⟨rfl, rfl, rfl, rfl, rfl, rfl, rfl, rfl, rfl, Nx.refl _ _, Nx.refl _ _, hNX, fun b hb => by
        rcases List.mem_append.1 hb with q | q
        · exact .inl q
        · simp only [List.mem_singleton] at q
          subst q
          exact .inr hbi, Nat.le_refl _, Nat.le_refl _, rfl⟩
    · rw [← hPX, ← hiX]; simp
    · rw [← haX, ← hiX, ← H.out.1.pool.blen]; simp [List.getD_eq_getElem?_getD]
    · rw [← hPX]
    · rw [← hD1]; exact ⟨H.out.2.1.dw, H.out.2.1.doff, hGl, rfl⟩
  clear hX hFX hNX hbi haX hPX hiX hL1 hD1 hi

  have c0 := HX.out.1.pool.blk.cell 0
  have c2 := HX.out.1.pool.blk.cell 2
  simp [plCells] at c0 c2
  rw [HX.out.2.2.2.2.2.1] at c2
  rw [HX.out.2.2.1.gp] at c0 c2
  rw [HX.out.2.2.1.gd] at c0
  have hgpX : a.gp < wX.heap.size := by rw [← HX.out.2.2.1.gp]; exact HX.out.1.pool.blk.lt
  go_wp2_with fail
  go_region_held3 (fun w' => w'.cell? ⟨a.gp, 0, none⟩ = some (.pointer (some ⟨a.gd, 0, none⟩)) ∧ w'.cell? ⟨a.gp, 2, none⟩ = some (.int .i64 (P.base : Int)))
    (first | exact ⟨c0, c2⟩ | exact ⟨(R3.out.2.cell (p := ⟨a.gp, 0, none⟩) hgpX).trans c0, (R3.out.2.cell (p := ⟨a.gp, 2, none⟩) hgpX).trans c2⟩)
    ((go_at_call 30
      (with_reducible refine Calls.mono (read_any a.gd aX.gs aX.gm D1 G _ ?_ HX.out.2.2.2.2.2.2.1 HX.out.2.2.2.2.2.2.2.1 HX.out.2.2.2.2.2.2.2.2.1) ?_)
      · rw [← HX.out.2.2.1.gd]; exact HX.out.1.ld.disk.below (by repeat (first | exact Below.refl _ _ | refine bl_drew ?_))
      rintro e w3 ⟨g3, rfl, hg3, hg3l, hb3⟩
      have R3 : Aside (w3.heap[g3]? = some (.cells (cellsB (D1.has G)) 113 (0, 0)) ∧ Below wX.heap.size wX w3) := ⟨hg3, bl_undrew hb3⟩
      clear hg3 hg3l hb3))
  have hlen : (D1.has G).length = 512 := Dk.has_len HX.out.2.2.2.2.2.2.1 HX.out.2.2.2.2.2.2.2.2.1
  have hRd : RdB w3 (some ⟨g3, 0, none⟩) 512 (D1.has G) := by
    have := rd_of_cells R3.out.1
    rwa [hlen] at this
  have HRd := hid hRd
  clear hRd hlen c0 c2
  go_wp2_with fail
  refine (cparse_ok (some ⟨g3, 0, none⟩) 512 (D1.has G) p w3 HRd.out (by omega) (by omega) (by rw [HX.out.2.2.2.2.2.2.2.2.2]; exact H.out.2.2.2.1)).mono ?_
  rintro e w4 ⟨g4, rfl, hP4, hb4⟩
  have R4 : Aside (PageAt w4 w3.heap.size g4 p ∧ Below wX.heap.size wX w4) := ⟨hP4, R3.out.2.trans (hb4.mono R3.out.2.size)⟩
  clear hP4 hb4
  go_wp2_with fail
  refine (bytes_any w3.heap.size g4 p w4 R4.out.1 H.out.2.2.2.2.1).mono ?_
  rintro e w5 ⟨g5, cap5, rfl, hown5, hb5⟩
  have R5 : Aside (w5.ownsRow w4.heap.size 5 1 (.slice (some ⟨g5, 0, none⟩) 512 cap5) 512 ((bytesP p).map u8) ∧ Below wX.heap.size wX w5 ∧ PageAt w5 w3.heap.size g4 p) := ⟨hown5, R4.out.2.trans (hb5.mono R4.out.2.size), R4.out.1.below hb5⟩
  clear hown5 hb5
  go_wp2_with fail
  refine (lsn_any w3.heap.size g4 p w5 R5.out.2.2).mono ?_
  rintro e w' ⟨rfl, rfl⟩
  have hX5 := HX.out.1.below R5.out.2.1
  obtain ⟨fX, hfX⟩ : ∃ fX, PX.frames[i]? = some fX := ⟨_, List.getElem?_eq_getElem HX.out.2.2.2.1⟩
  obtain ⟨hpd, bvd, hBd, -, -⟩ := hX5.pool.frame hfX HX.out.2.2.2.2.1
  have z0 := hBd.cell 0
  have z1 := hBd.cell 1
  have z2 := hBd.cell 2
  have z3 := hBd.cell 3
  have z4 := hBd.cell 4
  have z5 := hBd.cell 5
  simp [frmCells] at z0 z1 z2 z3 z4 z5
  have y0 := hBd.frozen 0
  have y1 := hBd.frozen 1
  have y2 := hBd.frozen 2
  have y3 := hBd.frozen 3
  have y4 := hBd.frozen 4
  have y5 := hBd.frozen 5
  have hpbX : aX.pb ≤ w4.heap.size := by
    have h1 := HX.out.1.pool.lp
    have h2 := HX.out.1.pool.blk.lt
    have h3 := R4.out.2.size
    omega
  have hown : w5.ownsRow aX.pb 5 1 (.slice (some ⟨g5, 0, none⟩) 512 cap5) (newF n p).bytes.length ((newF n p).bytes.map u8) := by
    have := own_mono R5.out.1 hpbX
    rw [show (newF n p).bytes.length = 512 from bytesP_length H.out.2.2.2.2.1]
    exact this
  have hsvX : ∀ b, (Value.slice (some ⟨g5, 0, none⟩) 512 cap5).ownBlock = some b → aX.sv.ownBlock ≠ some b ∧ aX.ov.ownBlock ≠ some b := by
    intro b hb
    have h1 := (R5.out.1.lt b hb).1
    have h3 := R4.out.2.size
    refine ⟨fun e => ?_, fun e => ?_⟩
    · have h2 := (HX.out.1.ld.log.2.2.1.lt b e).2
      omega
    · have h2 := HX.out.1.pool.ol b e
      omega
  obtain ⟨hS6, hF6⟩ := hX5.frmAll HX.out.2.2.2.1 HX.out.2.2.2.2.1 (newF n p) (.slice (some ⟨g5, 0, none⟩) 512 cap5) hown hsvX
  obtain ⟨w6, hw6⟩ : ∃ w6, frmSet w5 bi (newF n p) (.slice (some ⟨g5, 0, none⟩) 512 cap5) = w6 := ⟨_, rfl⟩
  rw [hw6] at hS6 hF6
  have R6 : Aside (PSt w6 aX { PX with frames := PX.frames.set i (newF n p) } L1 D1 ∧ Fr (pT aX) wX w6) := ⟨hS6, (Fr.of_below R5.out.2.1 _).trans hF6 (fun _ _ h => h)⟩
  have c6 := hS6.pool.blk.cell 6
  simp [plCells] at c6
  rw [HX.out.2.2.1.gp, HX.out.2.2.1.ga] at c6
  have hm6 := hS6.pool.atm
  rw [HX.out.2.2.1.ga] at hm6
  have HM := hid hm6
  have hw6e : (((((w5.setCell ⟨bi, 0, none⟩ (.int .i64 n)).setCell ⟨bi, 1, none⟩ (.slice (some ⟨g5, 0, none⟩) 512 cap5)).setCell ⟨bi, 2, none⟩ (.int .i64 p.lsn)).setCell ⟨bi, 3, none⟩ (.bool false)).setCell ⟨bi, 4, none⟩ (.int .i64 0)).setCell ⟨bi, 5, none⟩ (.bool true) = w6 := hw6
  have hnw : wf64 n := H.out.2.2.2.2.2.1
  have hmaX : aX.ma < maxLen := by have := HX.out.2.2.1.ma; have := H.out.2.2.2.2.2.2; unfold maxLen; omega
  clear hX5 hpd hBd hown hsvX hS6 hF6 hm6 hw6
  go_wp2_with (
    (refine wpList_upd _ rfl (.tmp 88) (.tmp 89) (.tmp 90) 102 rfl 3 94 Tryz.underlying3 Tryz.underlying102 a.ga aX.ma (atV aX.bk PX.atm) rfl HM.out hmaX n rfl hnw (.pointer (some ⟨bi, 0, none⟩)) rfl ?_)
    intro w7 hm7 ht7
    have R7 : Aside (MapAt Tryz.prog 3 w7 a.ga (aX.ma + 1) (upd (atV aX.bk PX.atm) n (.pointer (some ⟨bi, 0, none⟩))) ∧ w6.mapTurned w7 a.ga) := ⟨hm7, ht7⟩
    clear hm7 ht7)
  go_ret2
  have hm7 := R7.out.1
  have ht7 := R7.out.2
  have ega := HX.out.2.2.1.ga
  rw [← ega] at hm7 ht7
  rw [← HX.out.2.2.2.2.1] at hm7
  obtain ⟨hS7, hF7⟩ := R6.out.1.entered hm7 ht7
  have hFe : Fr (aT a) w w7 := HX.out.2.2.1.fr HX.out.2.1 (fr_same (fr_aT2 R6.out.2) (fr_aT2 hF7))
  have hAe : AdN w a { aX with ma := aX.ma + 1 } 1 := by
    obtain ⟨q1, q2, q3, q4, q5, q6, q7, q8, q9, q10, q11, q12, q13, q14, q15, q16⟩ := HX.out.2.2.1
    exact ⟨q1, q2, q3, q4, q5, q6, q7, q8, q9, q10, q11, q12, q13, by show aX.ma + 1 ≤ _; omega, by show aX.mn ≤ _; omega, q16⟩
  refine ⟨{ aX with ma := aX.ma + 1 }, ?_, ?_, hFe, hAe⟩
  · show Ending.returned (.tuple #[.pointer (some ⟨bi, 0, none⟩), .int .i64 0]) = Ending.returned (.tuple #[.pointer (some ⟨aX.bk.getD P.frames.length 0, 0, none⟩), .int .i64 0])
    rw [HY.out.2.1, HX.out.2.2.2.2.1]
  · rw [HY.out.2.1, HY.out.1, HY.out.2.2.1, HY.out.2.2.2]
    exact hS7

end Go.Proofs.YthfidlhefkjpdaaGreatDoor
