/- Get, Put, Pin behind whatever fetch there was.
   Get, Put, Pin under any plan: well done, or the pool is dead.
   cache.Flush under any plan. -/
import Derived.Test.YthfidlhefkjpdaaGreatDoorTbf
import Derived.Test.YthfidlhefkjpdaaGreatDoorTbo
namespace Go.Proofs.YthfidlhefkjpdaaGreatDoor
open Go.RowKit Go.Maps

set_option maxRecDepth 100000 in
set_option maxHeartbeats 2000000 in
theorem cput_from (a : Ad) (N : Nat) (i : Nat) (P' : Pl) (L' : Lg) (D' : Dk) (f : Frm) (q : Pg) (base g x : Nat) (w : World) (hfe : Calls Tryz.prog 49 #[.pointer (some ⟨a.gp, 0, none⟩), .int .i64 (N : Int)] w fun e w' => ∃ a', e = .returned (.tuple #[.pointer (some ⟨a'.bk.getD i 0, 0, none⟩), .int .i64 0]) ∧ PSt w' a' P' L' D' ∧ Fr (aT a) w w' ∧ AdN w a a' 1) (hf : P'.frames[i]? = some f)
    (hq : PageAt w base g q) (hqw : q.wf) (hfar : ∀ b, aT a b → b < base) (hx : x ≤ 9223372036854775807) :
    Calls Tryz.prog 12 #[.pointer (some ⟨a.gp, 0, none⟩), .int .i64 (N : Int), .pointer (some ⟨g, 0, none⟩), .int .i64 (x : Int)] w fun e w' => e = .returned (.int .i64 0) ∧
      ∃ a', PSt w' a' (putP P' i f { q with lsn := (x : Int) }) L' D' ∧ Fr (aT a) w w' ∧ AdN w a a' 1 := by
  have hq'w : Pg.wf { q with lsn := (x : Int) } := ⟨by show (0 : Int) ≤ x; omega, by show (x : Int) ≤ _; omega, hqw.extra, hqw.slots, hqw.item, hqw.used⟩
  obtain ⟨q', hq'⟩ : ∃ q', ({ q with lsn := (x : Int) } : Pg) = q' := ⟨_, rfl⟩
  rw [hq'] at hq'w ⊢
  have hmaxx : ({ q with lsn := max (x : Int) 0 } : Pg) = q' := by rw [← hq', Int.max_eq_left (by omega)]
  have H : Aside (PageAt w base g q ∧ q.wf ∧ (∀ b, aT a b → b < base) ∧ P'.frames[i]? = some f ∧ q'.wf ∧ ({ q with lsn := max (x : Int) 0 } : Pg) = q' ∧ x ≤ 9223372036854775807) := ⟨hq, hqw, hfar, hf, hq'w, hmaxx, hx⟩
  clear hq hqw hfar hq'w hq' hmaxx hf hx
  go_enter Tryz.func12, Tryz.ntmps12
  go_wp2_with fail
  refine hfe.mono ?_
  rintro e w1 ⟨a', rfl, h1, hF1, hA1⟩
  obtain ⟨bi, hbi⟩ : ∃ bi, a'.bk.getD i 0 = bi := ⟨_, rfl⟩
  rw [hbi]
  have H1 : Aside (PSt w1 a' P' L' D' ∧ Fr (aT a) w w1 ∧ AdN w a a' 1 ∧ a'.bk.getD i 0 = bi ∧ PageAt w1 base g q) := ⟨h1, hF1, hA1, hbi, H.out.1.far hF1 H.out.2.2.1⟩
  clear h1 hF1 hA1 hbi hfe
  go_wp2_with fail
  refine (bytes_any base g q w1 H1.out.2.2.2.2 H.out.2.1).mono ?_
  rintro e w2 ⟨g2, cap2, rfl, hown2, hb2⟩
  obtain ⟨A2', c2', e2', hcap2, hcm2, -⟩ := own_form hown2
  injection e2' with e2a e2b e2c
  subst e2c
  have H2 : Aside (RdB w2 (some ⟨g2, 0, none⟩) 512 (bytesP q) ∧ Below w1.heap.size w1 w2 ∧ 512 ≤ cap2 ∧ cap2 ≤ 9223372036854775807) := ⟨RdB.of_own hown2, hb2, hcap2, hcm2⟩
  clear hown2 hb2 e2a e2b hcap2 hcm2
  go_wp2_with fail
  refine (parse_ok (some ⟨g2, 0, none⟩) cap2 (bytesP q) q w2 H2.out.1 H2.out.2.2.1 H2.out.2.2.2 (parse_back H.out.2.1)).mono ?_
  rintro e w3 ⟨g3, rfl, hP3, hb3⟩
  have H3 : Aside (PageAt w3 w2.heap.size g3 q ∧ Below w1.heap.size w1 w3) := ⟨hP3, H2.out.2.1.trans (hb3.mono H2.out.2.1.size)⟩
  clear hP3 hb3
  go_wp2_with fail
  refine (setLSN_any w2.heap.size g3 q x w3 H3.out.1 (by have := H.out.2.2.2.2.2.2; omega)).mono ?_
  rintro e w4 ⟨rfl, hP4, hg4⟩
  rw [H.out.2.2.2.2.2.1] at hP4
  have hb4 : Below w1.heap.size w1 w4 := H3.out.2.trans (below_of_only hg4 (by have := hP4.1; have := H2.out.2.1.size; omega) H3.out.2.size)
  have H4 : Aside (PageAt w4 w2.heap.size g3 q' ∧ Below w1.heap.size w1 w4 ∧ PSt w4 a' P' L' D') := ⟨hP4, hb4, H1.out.1.below hb4⟩
  clear hP4 hg4 hb4
  obtain ⟨hpb4, bv4, hB4, -, -⟩ := H4.out.2.2.pool.frame H.out.2.2.2.1 H1.out.2.2.2.1
  have z3 := hB4.cell 3
  have z4 := hB4.cell 4
  have y4 := hB4.frozen 4
  simp [frmCells] at z3 z4
  obtain ⟨fd, hfd⟩ : ∃ fd, f.dirty = fd := ⟨_, rfl⟩
  rw [hfd] at z3
  have HFD := hid hfd
  clear hB4 hfd
  cases fd with
  | true =>
    go_wp2_with fail
    refine (bytes_any w2.heap.size g3 q' w4 H4.out.1 H.out.2.2.2.2.1).mono ?_
    rintro e w5 ⟨g5, cap5, rfl, hown5, hb5⟩
    have H5 : Aside (w5.ownsRow w4.heap.size 5 1 (.slice (some ⟨g5, 0, none⟩) 512 cap5) 512 ((bytesP q').map u8) ∧ Below w1.heap.size w1 w5 ∧ PSt w5 a' P' L' D' ∧ PageAt w5 w2.heap.size g3 q') := ⟨hown5, H4.out.2.1.trans (hb5.mono H4.out.2.1.size), H4.out.2.2.below hb5, H4.out.1.below hb5⟩
    clear hown5 hb5 z3 z4 y4
    go_wp2_with fail
    refine (lsn_any w2.heap.size g3 q' w5 H5.out.2.2.2).mono ?_
    rintro e w' ⟨rfl, rfl⟩
    obtain ⟨hpb5, bv5, hB5, -, -⟩ := H5.out.2.2.1.pool.frame H.out.2.2.2.1 H1.out.2.2.2.1
    have z1 := hB5.cell 1
    have z2 := hB5.cell 2
    have z3 := hB5.cell 3
    simp [frmCells] at z1 z2 z3
    have y1 := hB5.frozen 1
    have y2 := hB5.frozen 2
    have y3 := hB5.frozen 3
    clear hB5
    go_wp2_with fail
    go_ret
    obtain ⟨e1, e2⟩ := put_end H4.out.2.2 H5.out.2.2.1 H.out.2.2.2.1 H1.out.2.2.2.1 H5.out.1 H.out.2.2.2.2.1 H1.out.2.1 H1.out.2.2.1 (Fr.of_below H5.out.2.1 _)
    refine ⟨rfl, a', ?_, e2, H1.out.2.2.1⟩
    unfold putP putF
    rw [if_pos HFD.out]
    exact e1
  | false =>
    go_wp2_with fail
    refine (lsn_any w2.heap.size g3 q' w4 H4.out.1).mono ?_
    rintro e w' ⟨rfl, rfl⟩
    go_wp2_with fail
    obtain ⟨k4, f4⟩ := H4.out.2.2.frmSome H.out.2.2.2.1 H1.out.2.2.2.1 { f with since := q'.lsn } 4 (.int .i64 q'.lsn) rfl (fun bv => by simp [frmCells])
    have hbil : bi < w1.heap.size := by
      obtain ⟨_, _, hB1, _⟩ := H1.out.1.pool.frame H.out.2.2.2.1 H1.out.2.2.2.1
      exact hB1.lt
    have hP4 : PageAt (w4.setCell ⟨bi, 4, none⟩ (.int .i64 q'.lsn)) w2.heap.size g3 q' :=
      H4.out.1.far ((Fr.refl (· = bi) w4).set (p := ⟨bi, 4, none⟩) (.inl rfl) _) (fun b e => by have := H2.out.2.1.size; omega)
    obtain ⟨w4b, hw4⟩ : ∃ w4b, w4.setCell ⟨bi, 4, none⟩ (.int .i64 q'.lsn) = w4b := ⟨_, rfl⟩
    rw [hw4] at k4 f4 hP4 ⊢
    obtain ⟨P2, hP2⟩ : ∃ P2 : Pl, ({ P' with frames := P'.frames.set i { f with since := q'.lsn } } : Pl) = P2 := ⟨_, rfl⟩
    rw [hP2] at k4
    have hil := (List.getElem?_eq_some_iff.1 H.out.2.2.2.1).1
    have hf2 : P2.frames[i]? = some { f with since := q'.lsn } := by rw [← hP2]; simp [List.getElem?_set, hil]
    have H4b : Aside (PageAt w4b w2.heap.size g3 q' ∧ Fr (aT a') w1 w4b ∧ PSt w4b a' P2 L' D' ∧ P2.frames[i]? = some { f with since := q'.lsn }) := ⟨hP4, (Fr.of_below H4.out.2.1 _).trans (fr_aT2 f4) (fun _ _ h => h), k4, hf2⟩
    have HP2 := hid hP2
    clear hP4 f4 k4 hf2 hP2 hw4 z3 z4 y4 hbil hil
    refine (bytes_any w2.heap.size g3 q' w4b H4b.out.1 H.out.2.2.2.2.1).mono ?_
    rintro e w5 ⟨g5, cap5, rfl, hown5, hb5⟩
    have H5 : Aside (w5.ownsRow w4b.heap.size 5 1 (.slice (some ⟨g5, 0, none⟩) 512 cap5) 512 ((bytesP q').map u8) ∧ Fr (aT a') w1 w5 ∧ PSt w5 a' P2 L' D' ∧ PageAt w5 w2.heap.size g3 q') := ⟨hown5, H4b.out.2.1.trans (Fr.of_below hb5 (aT a')) (fun _ _ h => h), H4b.out.2.2.1.below hb5, H4b.out.1.below hb5⟩
    clear hown5 hb5
    go_wp2_with fail
    refine (lsn_any w2.heap.size g3 q' w5 H5.out.2.2.2).mono ?_
    rintro e w' ⟨rfl, rfl⟩
    obtain ⟨hpb5, bv5, hB5, -, -⟩ := H5.out.2.2.1.pool.frame H4b.out.2.2.2 H1.out.2.2.2.1
    have z1 := hB5.cell 1
    have z2 := hB5.cell 2
    have z3 := hB5.cell 3
    simp [frmCells] at z1 z2 z3
    have y1 := hB5.frozen 1
    have y2 := hB5.frozen 2
    have y3 := hB5.frozen 3
    clear hB5
    go_wp2_with fail
    go_ret
    obtain ⟨e1, e2⟩ := put_end H4b.out.2.2.1 H5.out.2.2.1 H4b.out.2.2.2 H1.out.2.2.2.1 H5.out.1 H.out.2.2.2.2.1 H1.out.2.1 H1.out.2.2.1 H5.out.2.1
    refine ⟨rfl, a', ?_, e2, H1.out.2.2.1⟩
    rw [← HP2.out] at e1
    simp only [List.set_set] at e1
    unfold putP putF
    rw [if_neg (by rw [HFD.out]; simp)]
    exact e1
set_option maxRecDepth 100000 in
theorem cget_from (a : Ad) (N : Nat) (i : Nat) (P' : Pl) (L' : Lg) (D' : Dk) (f : Frm) (q : Pg) (w : World) (hfe : Calls Tryz.prog 49 #[.pointer (some ⟨a.gp, 0, none⟩), .int .i64 (N : Int)] w fun e w' => ∃ a', e = .returned (.tuple #[.pointer (some ⟨a'.bk.getD i 0, 0, none⟩), .int .i64 0]) ∧ PSt w' a' P' L' D' ∧ Fr (aT a) w w' ∧ AdN w a a' 1) (hf : P'.frames[i]? = some f) (hq : f.bytes = bytesP q) (hqw : q.wf) :
    Calls Tryz.prog 25 #[.pointer (some ⟨a.gp, 0, none⟩), .int .i64 (N : Int)] w fun e w' => ∃ a' g, e = .returned (.tuple #[.pointer (some ⟨g, 0, none⟩), .int .i64 0]) ∧
      PSt w' a' P' L' D' ∧ (∃ base, PageAt w' base g q ∧ w.heap.size ≤ base ∧ ∀ b, aT a' b → b < base) ∧ Fr (aT a) w w' ∧ AdN w a a' 1 := by
  have H : Aside (P'.frames[i]? = some f ∧ f.bytes = bytesP q ∧ q.wf) := ⟨hf, hq, hqw⟩
  clear hf hq hqw
  go_enter Tryz.func25, Tryz.ntmps25
  go_wp2_with fail
  refine hfe.mono ?_
  rintro e w1 ⟨a', rfl, h1, hF1, hA1⟩
  obtain ⟨bi, hbi⟩ : ∃ bi, a'.bk.getD i 0 = bi := ⟨_, rfl⟩
  rw [hbi]
  obtain ⟨A, cap, ⟨hcap, hcm⟩, hRd, hBk⟩ := (h1.pool.frame H.out.1 hbi).cells
  have hbl : f.bytes.length = 512 := by rw [H.out.2.1]; exact bytesP_length H.out.2.2
  have k1 := hBk.cell 1
  simp [frmCells] at k1
  rw [hbl] at hRd k1 hcap
  rw [H.out.2.1] at hRd
  have H1 : Aside (PSt w1 a' P' L' D' ∧ Fr (aT a) w w1 ∧ AdN w a a' 1 ∧ RdB w1 A 512 (bytesP q) ∧ 512 ≤ cap ∧ cap ≤ maxLen) := ⟨h1, hF1, hA1, hRd, hcap, hcm⟩
  clear h1 hF1 hA1 hbi hfe hRd hBk hbl hcap hcm
  go_wp2_with fail
  refine (parse_ok A cap (bytesP q) q w1 H1.out.2.2.2.1 H1.out.2.2.2.2.1 (by have := H1.out.2.2.2.2.2; unfold maxLen at this; omega) (parse_back H.out.2.2)).mono ?_
  rintro e w2 ⟨g, rfl, hP2, hb2⟩
  have H2 : Aside (PageAt w2 w1.heap.size g q ∧ Below w1.heap.size w1 w2) := ⟨hP2, hb2⟩
  clear hP2 hb2
  go_wp2_with fail
  go_ret2
  exact ⟨a', g, rfl, H1.out.1.below H2.out.2, ⟨w1.heap.size, H2.out.1, H1.out.2.1.size, fun b hb => H1.out.1.lt hb⟩, H1.out.2.1.trans (Fr.of_below H2.out.2 (aT a)) (fun _ _ h => h), H1.out.2.2.1⟩

set_option maxRecDepth 100000 in
theorem cpin_from (a : Ad) (N : Nat) (i : Nat) (P' : Pl) (L' : Lg) (D' : Dk) (w : World) (hgn : a.gn < w.heap.size) (hN : N < 4611686018427387904) (hmn : a.mn ≤ 1099511627776) (hfe : Calls Tryz.prog 49 #[.pointer (some ⟨a.gp, 0, none⟩), .int .i64 (N : Int)] w fun e w' => ∃ a', e = .returned (.tuple #[.pointer (some ⟨a'.bk.getD i 0, 0, none⟩), .int .i64 0]) ∧ PSt w' a' P' L' D' ∧ Fr (aT a) w w' ∧ AdN w a a' 1) (hpn : 0 ≤ (P'.pins N).getD 0 ∧ (P'.pins N).getD 0 ≤ 4398046511104) :
    Calls Tryz.prog 33 #[.pointer (some ⟨a.gp, 0, none⟩), .int .i64 (N : Int)] w fun e w' => e = .returned (.int .i64 0) ∧
      ∃ a', PSt w' a' { P' with pins := fun k => if k = (N : Int) then some ((P'.pins N).getD 0 + 1) else P'.pins k } L' D' ∧ Fr (aT a) w w' ∧ AdN w a a' 2 := by
  have hnw : wf64 (N : Int) := by unfold wf64; omega
  obtain ⟨n, hn⟩ : ∃ n : Int, (N : Int) = n := ⟨_, rfl⟩
  rw [hn] at hfe hnw hpn ⊢
  have H : Aside (a.mn ≤ 1099511627776 ∧ a.gn < w.heap.size) := ⟨hmn, hgn⟩
  obtain ⟨px, hpx⟩ : ∃ px, (P'.pins n).getD 0 = px := ⟨_, rfl⟩
  rw [hpx] at hpn ⊢
  obtain ⟨hp0, hp1⟩ := hpn
  have HPX := hid hpx
  clear hmn hpx hn hgn
  go_enter Tryz.func33, Tryz.ntmps33
  go_wp2_with fail
  refine hfe.mono ?_
  rintro e w1 ⟨a', rfl, h1, hF1, hA1⟩
  have c7 := h1.pool.blk.cell 7
  simp [plCells] at c7
  rw [hA1.gp] at c7
  have hlook := pin_look h1.pool.pin n hnw w1 rfl
  rw [HPX.out] at hlook
  have HM := hid h1.pool.pin
  have hmn' : a'.mn < maxLen := by have := hA1.mn; have := H.out.1; unfold maxLen; omega
  have hpw1 : IntKind.i64.wrap (px + 1) = px + 1 := wrap_nat (by omega) (by omega)
  have H1 : Aside (PSt w1 a' P' L' D' ∧ Fr (aT a) w w1 ∧ AdN w a a' 1) := ⟨h1, hF1, hA1⟩
  clear h1 hF1 hA1 hfe
  go_wp2_with (
    (refine wpList_upd _ rfl (.tmp 19) (.tmp 20) (.tmp 22) 103 rfl 3 3 Tryz.underlying3 Tryz.underlying103 a'.gn a'.mn (pinV P'.pins) rfl HM.out hmn' n rfl hnw (.int .i64 (px + 1)) rfl ?_)
    intro w2 hm2 ht2
    have R2 : Aside (MapAt Tryz.prog 3 w2 a'.gn (a'.mn + 1) (upd (pinV P'.pins) n (.int .i64 (px + 1))) ∧ w1.mapTurned w2 a'.gn) := ⟨hm2, ht2⟩
    clear hm2 ht2)
  go_ret
  have hm2 := R2.out.1
  rw [pinV_upd] at hm2
  obtain ⟨h2, hF2⟩ := H1.out.1.pinned hm2 R2.out.2
  refine ⟨rfl, _, h2, H1.out.2.2.fr H1.out.2.1 (fr_aT2 hF2), ?_⟩
  obtain ⟨q1, q2, q3, q4, q5, q6, q7, q8, q9, q10, q11, q12, q13, q14, q15, q16⟩ := H1.out.2.2
  exact ⟨q1, q2, q3, q4, q5, q6, q7, q8, q9, q10, q11, q12, q13, by show a'.ma ≤ _; omega, by show a'.mn + 1 ≤ _; omega, q16⟩
set_option maxRecDepth 100000 in
theorem cget_errX (gp : Nat) (n : Int) (w : World) (Q : World → Prop) (hc : Calls Tryz.prog 49 #[.pointer (some ⟨gp, 0, none⟩), .int .i64 n] w fun e w' => ∃ e0 : Int, ((e0 : Int) == 0) = false ∧ e = .returned (.tuple #[.pointer none, .int .i64 e0]) ∧ Q w') :
    Calls Tryz.prog 25 #[.pointer (some ⟨gp, 0, none⟩), .int .i64 n] w fun e w' => ∃ e0 : Int, ((e0 : Int) == 0) = false ∧ e = .returned (.tuple #[.pointer none, .int .i64 e0]) ∧ Q w' := by
  go_enter Tryz.func25, Tryz.ntmps25
  go_wp2_with fail
  refine hc.mono ?_
  rintro e w1 ⟨e0, he, rfl, h1⟩
  have hne : (e0 != 0) = true := by simp [bne, he]
  have H1 := hid h1
  clear h1 hc
  go_wp2_with fail
  go_ret2
  exact ⟨e0, he, rfl, H1.out⟩

set_option maxRecDepth 100000 in
theorem cpin_errX (gp : Nat) (n : Int) (w : World) (Q : World → Prop) (hc : Calls Tryz.prog 49 #[.pointer (some ⟨gp, 0, none⟩), .int .i64 n] w fun e w' => ∃ e0 : Int, ((e0 : Int) == 0) = false ∧ e = .returned (.tuple #[.pointer none, .int .i64 e0]) ∧ Q w') :
    Calls Tryz.prog 33 #[.pointer (some ⟨gp, 0, none⟩), .int .i64 n] w fun e w' => ∃ e0 : Int, ((e0 : Int) == 0) = false ∧ e = .returned (.int .i64 e0) ∧ Q w' := by
  go_enter Tryz.func33, Tryz.ntmps33
  go_wp2_with fail
  refine hc.mono ?_
  rintro e w1 ⟨e0, he, rfl, h1⟩
  have hne : (e0 != 0) = true := by simp [bne, he]
  have H1 := hid h1
  clear h1 hc
  go_wp2_with fail
  go_ret
  exact ⟨e0, he, rfl, H1.out⟩

set_option maxRecDepth 100000 in
theorem cput_errX (gp : Nat) (n : Int) (vp vx : Value) (w : World) (Q : World → Prop) (hc : Calls Tryz.prog 49 #[.pointer (some ⟨gp, 0, none⟩), .int .i64 n] w fun e w' => ∃ e0 : Int, ((e0 : Int) == 0) = false ∧ e = .returned (.tuple #[.pointer none, .int .i64 e0]) ∧ Q w') :
    Calls Tryz.prog 12 #[.pointer (some ⟨gp, 0, none⟩), .int .i64 n, vp, vx] w fun e w' => ∃ e0 : Int, ((e0 : Int) == 0) = false ∧ e = .returned (.int .i64 e0) ∧ Q w' := by
  go_enter Tryz.func12, Tryz.ntmps12
  go_wp2_with fail
  refine hc.mono ?_
  rintro e w1 ⟨e0, he, rfl, h1⟩
  have hne : (e0 != 0) = true := by simp [bne, he]
  have H1 := hid h1
  clear h1 hc
  go_wp2_with fail
  go_ret
  exact ⟨e0, he, rfl, H1.out⟩

end Go.Proofs.YthfidlhefkjpdaaGreatDoor

namespace Go.Proofs.YthfidlhefkjpdaaGreatDoor
open Go.RowKit Go.Maps

/-- What a refused step leaves of disk, log and pool. -/
structure Gone (pl : List (Int × Int)) (P : Pl) (L : Lg) (D : Dk) (P' : Pl) (L' : Lg) (D' : Dk) : Prop where
  dead : P'.dead = true
  le : D'.steps ≤ D.steps + 300000
  ge : D.steps < D'.steps
  hit : kindOf pl D'.steps ≠ 0
  calm : Calm pl D.steps (D'.steps - 1)
  lw : L'.wf
  run : L'.run = L.run
  len : D'.sec.length = D.sec.length
  wf : D'.wf
  pg : ∀ N, N < P.count → ∃ p : Pg, p.wf ∧ pageOf (D'.has (P.base + N)) = some p
  wal : ∀ was, Wal P L D was → ∀ N, N < P.count → D'.has (P.base + N) = was N ∨ ∃ p : Pg, p.wf ∧ pageOf (D'.has (P.base + N)) = some p ∧ p.lsn < L'.lsn L'.safe

theorem gone_of_lost {pl : List (Int × Int)} {P P' : Pl} {L L' : Lg} {D D' : Dk} {f f0 : Frm} {i : Nat} {top : Int} (h : Inv P L D) (hf0 : P.frames[i]? = some f0) (hf : f = { f0 with used := f.used }) (hd : f.dirty = true) (hdead : P'.dead = true)
    (hl : Lost pl L L' D D' f (P.base + f.n.toNat) top) (htop : top ≤ D.steps + 300000) : Gone pl P L D P' L' D' := by
  obtain ⟨q, q1, q2, q3, -⟩ := h.fr i f0 hf0
  have hb : f.bytes = bytesP q := by rw [hf]; exact q2
  have hls : f.lsn = q.lsn := by rw [hf]; exact q3
  have hd0 : f0.dirty = true := by rw [hf] at hd; exact hd
  have hfull : fullS f.bytes = bytesP q := by rw [hb]; exact fullS_full (bytesP_length q1)
  have hpb := h.ok.pb
  have hlg := h.log
  refine ⟨hdead, by have := hl.le; omega, hl.ge, hl.hit, hl.calm, hl.lw, hl.run, hl.len, hl.wf, fun N hN => ?_, fun was hW N hN => ?_⟩
  · obtain ⟨p, p1, p2⟩ := h.pg N hN
    rcases hl.has (P.base + N) (by omega) (by omega) with e | ⟨-, e, -⟩
    · exact ⟨p, p1, by rw [e]; exact p2⟩
    · exact ⟨q, q1, by rw [e, hfull]; exact pageOf_bytes q1⟩
  · rcases hl.has (P.base + N) (by omega) (by omega) with e | ⟨-, e, eL⟩
    · rcases hW.disk N hN with k | ⟨p, p1, p2, p3⟩
      · exact .inl (e.trans k)
      · refine .inr ⟨p, p1, by rw [e]; exact p2, ?_⟩
        rw [lsn_run hl.run]
        exact Int.lt_of_lt_of_le p3 (lsn_mono L hl.safe)
    · refine .inr ⟨q, q1, by rw [e, hfull]; exact pageOf_bytes q1, ?_⟩
      rw [eL, ← hls]
      have := hW.dirty i f0 hf0 hd0
      exact wrL_covers (by rw [hls, ← q3]; exact this)

/-- What a call under a plan keeps, where no step was refused. -/
structure Kw (pl : List (Int × Int)) (P P' : Pl) (L L' : Lg) (D D' : Dk) : Prop where
  inv : Inv P' L' D'
  base : P'.base = P.base
  count : P'.count = P.count
  cnt : L'.count = L.count
  run : L'.run = L.run
  stream : L'.stream = L.stream
  nrec : L'.nrec = L.nrec
  old : L'.old = L.old
  steps : D'.steps ≤ D.steps + 300000
  sec : D'.sec.length = D.sec.length
  calm : Calm pl D.steps D'.steps
  wal : ∀ was, Wal P L D was → Wal P' L' D' was
theorem Kw.of_stay {pl : List (Int × Int)} {P P' : Pl} {L L' : Lg} {D D' : Dk} (h : Inv P L D) (hi : Inv P' L' D') (hs : Stay P P' L L' D D') (hc : Calm pl D.steps D'.steps) (hW : ∀ was, Wal P L D was → Wal P' L' D' was) : Kw pl P P' L L' D D' :=
  ⟨hi, hs.base, hs.count, hs.cnt, hs.run, hs.stream, hs.nrec, hs.old, by have := hs.steps; have := h.ok.lw.count; omega, hs.sec, hc, hW⟩
theorem Kw.refl {pl : List (Int × Int)} {P : Pl} {L : Lg} {D : Dk} (h : Inv P L D) : Kw pl P P L L D D := ⟨h, rfl, rfl, rfl, rfl, rfl, rfl, rfl, by omega, rfl, Calm.refl _ _, fun _ h => h⟩
theorem Wal.pins {P : Pl} {L : Lg} {D : Dk} {was : Nat → List UInt8} (h : Wal P L D was) (x : Int → Option Int) : Wal { P with pins := x } L D was := ⟨h.disk, h.dirty⟩
theorem Kw.pinned {pl : List (Int × Int)} {P P' : Pl} {L L' : Lg} {D D' : Dk} (h : Kw pl P P' L L' D D') (x : Int → Option Int) : Kw pl P { P' with pins := x } L L' D D' :=
  ⟨h.inv.pinned x, h.base, h.count, h.cnt, h.run, h.stream, h.nrec, h.old, h.steps, h.sec, h.calm, fun was hW => (h.wal was hW).pins x⟩

/-- The one or the other: D is the disk without its plan. -/
def Out (pl : List (Int × Int)) (P : Pl) (L : Lg) (D : Dk) (m : Nat) (P' : Pl) (L' : Lg) (D' : Dk) : Prop :=
  (∃ E, D' = E.under pl ∧ Kw pl P P' L L' D E ∧ PinsOk P' m) ∨ Gone pl P L D P' L' D'

theorem fetch_failsU (a : Ad) (P : Pl) (L : Lg) (D E : Dk) (N : Nat) (p : Pg) (w : World) (h : PSt w a P L E) (hi : Inv P L D) (hN : N < P.count) (hr : fetchR P L D N p = none) :
    ∃ P', Calls Tryz.prog 49 #[.pointer (some ⟨a.gp, 0, none⟩), .int .i64 (N : Int)] w (fun e w' => e = .returned (.tuple #[.pointer none, .int .i64 100]) ∧ (PSt w' a P' L E ∧ Fr (aT a) w w')) ∧ Inv P' L D ∧ Same P P' L L D D ∧ (∀ was, Wal P L D was → Wal P' L D was) := by
  have hw := hi.wf
  unfold fetchR at hr
  cases hat : P.atm N with
  | some j =>
    obtain ⟨f, hf, hfn⟩ := (hw.atm _ _).1 hat
    rw [hat] at hr
    simp only [hf] at hr
    cases hr
  | none =>
    rw [hat] at hr
    simp only at hr
    by_cases hlt : P.frames.length < P.most
    · rw [if_pos hlt] at hr; cases hr
    · rw [if_neg hlt] at hr
      have hn0 : 0 < P.frames.length := by have := hw.m1; omega
      have hv1 := vict_same P.pins (2 * P.frames.length) P.frames P.hand P.frames (SameF.refl _)
      have hvh := vict_hand P.pins (2 * P.frames.length) P.frames P.hand (by have := hw.hand; omega)
      have hl := vict_lt P.pins (2 * P.frames.length) P.frames P.hand
      obtain ⟨v1, hd⟩ : ∃ v, vict P.pins (2 * P.frames.length) P.frames P.hand = v := ⟨_, rfl⟩
      obtain ⟨o, fs, hh⟩ := v1
      rw [hd] at hr hv1 hvh hl
      simp only at hr hv1 hvh hl
      cases o with
      | some i =>
        simp only at hr
        rw [List.getElem?_eq_getElem (show i < fs.length by rw [hv1.1]; exact hl i rfl)] at hr
        cases hr
      | none =>
        have hc := clock_inv (fs := fs) (hd := hh) hi hv1 (by have := hv1.1; omega)
        have hdW : ∀ was, Wal P L D was → Wal { P with frames := fs, hand := hh } L D was := fun was hW => ⟨hW.disk, fun j g hg hdg => by
          obtain ⟨g0, q1, q2⟩ := hv1.2 j g hg
          have := hW.dirty j g0 q1 (by rw [q2] at hdg; exact hdg)
          rw [q2]
          exact this⟩
        refine ⟨_, (fetch_pinned a P L E N hh fs w h hi.ok.pd hw hN hat (by omega) hd).mono ?_, hc.1, hc.2, hdW⟩
        rintro e w' ⟨rfl, h1, h2⟩
        exact ⟨rfl, h1, fr_aT2 h2⟩


theorem PinsOk.same {P P' : Pl} {m : Nat} (h : PinsOk P m) (hp : P'.pins = P.pins) (hc : P'.count = P.count) : PinsOk P' m := fun k hk => by
  rw [hp] at hk ⊢
  rw [hc]
  exact h k hk

/-- fetch: out of range, refused for pins, refused by the disk, or well done. -/
theorem fetch_ways (a : Ad) (P : Pl) (L : Lg) (D : Dk) (pl : List (Int × Int)) (n : Int) (m : Nat) (w : World) (h : PSt w a P L (D.under pl)) (hpl : pl.length ≤ 70368744175616) (hi : Inv P L D) (hp : PinsOk P m) (hma : a.ma ≤ 1099511627776) (hst : D.steps + 20000 ≤ 1152921504606846976) :
    (Calls Tryz.prog 49 #[.pointer (some ⟨a.gp, 0, none⟩), .int .i64 n] w fun e w' => ∃ er : Int, (er == 0) = false ∧ e = .returned (.tuple #[.pointer none, .int .i64 er]) ∧ (Fr (aT a) w w' ∧ ∃ P' L' D', PSt w' a P' L' D' ∧ Out pl P L D m P' L' D')) ∨
    (∃ (N i : Nat) (P' : Pl) (L' : Lg) (D' : Dk), n = (N : Int) ∧ N < P.count ∧ Got P P' L L' D D' i N ∧ Calm pl D.steps D'.steps ∧
      Calls Tryz.prog 49 #[.pointer (some ⟨a.gp, 0, none⟩), .int .i64 (N : Int)] w fun e w' => ∃ a', e = .returned (.tuple #[.pointer (some ⟨a'.bk.getD i 0, 0, none⟩), .int .i64 0]) ∧ PSt w' a' P' L' (D'.under pl) ∧ Fr (aT a) w w' ∧ AdN w a a' 1) := by
  by_cases hn : n < 0 ∨ (P.count : Int) ≤ n
  · refine .inl ((fetch_out a P L (D.under pl) n w h hi.ok.pd hn).mono ?_)
    rintro e w' ⟨rfl, rfl⟩
    exact ⟨1, by decide, rfl, Fr.refl _ _, P, L, _, h, .inl ⟨D, rfl, Kw.refl hi, hp⟩⟩
  · obtain ⟨N, rfl⟩ : ∃ N : Nat, (N : Int) = n := ⟨n.toNat, by omega⟩
    have hN : N < P.count := by omega
    obtain ⟨p, hpw, hpp⟩ := hi.pg N hN
    cases hr : fetchR P L D N p with
    | none =>
      obtain ⟨P', h1, h2, h3, h4⟩ := fetch_failsU a P L D (D.under pl) N p w h hi hN hr
      refine .inl (h1.mono ?_)
      rintro e w' ⟨rfl, k1, k2⟩
      exact ⟨100, by decide, rfl, k2, P', L, _, k1, .inl ⟨D, rfl, Kw.of_stay hi h2 h3.stay (Calm.refl _ _) h4, hp.same h3.pins h3.stay.count⟩⟩
    | some r =>
      obtain ⟨i, P1, L1, D1⟩ := r
      have G := fetch_law hi hN hpw hpp hst hr
      by_cases hc : Calm pl D.steps D1.steps
      · exact .inr ⟨N, i, P1, L1, D1, rfl, hN, G, hc, fetch_someU a P L D pl N p i P1 L1 D1 w h hpl hi.ok hi.wf hN hpp hpw hma hi.log hr hc⟩
      · refine .inl ((fetch_goneU a P L D pl N p i P1 L1 D1 w h hpl hi.ok hi.wf hN hr hc).mono ?_)
        rintro e w' ⟨er, her, rfl, hF, P2, L2, D2, f, k1, k2, ⟨j, f0, k3, k4⟩, k5, k6⟩
        have hs := G.same.stay.steps
        have hcn := hi.ok.lw.count
        exact ⟨er, her, rfl, hF, P2, L2, D2, k1, .inr (gone_of_lost hi k3 k4 k5 k2 k6 (by omega))⟩

/-- Get under any plan. -/
theorem cget_out (a : Ad) (P : Pl) (L : Lg) (D : Dk) (pl : List (Int × Int)) (n : Int) (m : Nat) (w : World) (h : PSt w a P L (D.under pl)) (hpl : pl.length ≤ 70368744175616) (hi : Inv P L D) (hp : PinsOk P m) (hma : a.ma ≤ 1099511627776) (hst : D.steps + 20000 ≤ 1152921504606846976) :
    Calls Tryz.prog 25 #[.pointer (some ⟨a.gp, 0, none⟩), .int .i64 n] w fun e w' => (∃ pv er, e = .returned (.tuple #[pv, .int .i64 er]) ∧ ((er = 0 ∧ ∃ g, pv = .pointer (some ⟨g, 0, none⟩)) ∨ ((er == 0) = false ∧ pv = .pointer none))) ∧
      Fr (aT a) w w' ∧ ∃ a' P' L' D', AdN w a a' 1 ∧ PSt w' a' P' L' D' ∧ Out pl P L D m P' L' D' := by
  rcases fetch_ways a P L D pl n m w h hpl hi hp hma hst with hc | ⟨N, i, P1, L1, D1, rfl, hN, G, hcalm, hc⟩
  · refine (cget_errX a.gp n w _ hc).mono ?_
    rintro e w' ⟨er, her, rfl, hF, P', L', D', k1, k2⟩
    exact ⟨⟨_, er, rfl, .inr ⟨her, rfl⟩⟩, hF, a, P', L', D', AdN.refl _ _ _, k1, k2⟩
  · obtain ⟨f, q0, hf, hfn, q1, q2, q3, q4⟩ := G.fr
    refine (cget_from a N i P1 L1 (D1.under pl) f q0 w hc hf q2 q1).mono ?_
    rintro e w' ⟨a', g, rfl, k1, -, k2, k3⟩
    exact ⟨⟨_, 0, rfl, .inl ⟨rfl, g, rfl⟩⟩, k2, a', P1, L1, _, k3, k1, .inl ⟨D1, rfl, Kw.of_stay hi G.inv G.same.stay hcalm G.wal, hp.same G.same.pins G.same.stay.count⟩⟩

/-- Put under any plan. -/
theorem cput_out (a : Ad) (P : Pl) (L : Lg) (D : Dk) (pl : List (Int × Int)) (n : Int) (m base g x : Nat) (q : Pg) (w : World) (h : PSt w a P L (D.under pl)) (hpl : pl.length ≤ 70368744175616) (hi : Inv P L D) (hp : PinsOk P m) (hma : a.ma ≤ 1099511627776) (hst : D.steps + 20000 ≤ 1152921504606846976)
    (hq : PageAt w base g q) (hqw : q.wf) (hfar : ∀ b, aT a b → b < base) (hx : x ≤ 9223372036854775807) (hxl : (x : Int) < L.lsn L.stream.length) :
    Calls Tryz.prog 12 #[.pointer (some ⟨a.gp, 0, none⟩), .int .i64 n, .pointer (some ⟨g, 0, none⟩), .int .i64 (x : Int)] w fun e w' => (∃ er, e = .returned (.int .i64 er)) ∧
      Fr (aT a) w w' ∧ ∃ a' P' L' D', AdN w a a' 1 ∧ PSt w' a' P' L' D' ∧ Out pl P L D m P' L' D' := by
  rcases fetch_ways a P L D pl n m w h hpl hi hp hma hst with hc | ⟨N, i, P1, L1, D1, rfl, hN, G, hcalm, hc⟩
  · refine (cput_errX a.gp n _ _ w _ hc).mono ?_
    rintro e w' ⟨er, her, rfl, hF, P', L', D', k1, k2⟩
    exact ⟨⟨er, rfl⟩, hF, a, P', L', D', AdN.refl _ _ _, k1, k2⟩
  · obtain ⟨f, q0, hf, hfn, -⟩ := G.fr
    refine (cput_from a N i P1 L1 (D1.under pl) f q base g x w hc hf hq hqw hfar hx).mono ?_
    rintro e w' ⟨rfl, a', k1, k2, k3⟩
    have hq' : Pg.wf { q with lsn := (x : Int) } := ⟨by show (0 : Int) ≤ x; omega, by show (x : Int) ≤ _; omega, hqw.extra, hqw.slots, hqw.item, hqw.used⟩
    obtain ⟨z1, z2, z3⟩ := put_law G.inv hf hfn hq'
    have hs := G.same.stay
    refine ⟨⟨0, rfl⟩, k2, a', _, L1, _, k3, k1, .inl ⟨D1, rfl, ⟨z1, hs.base, hs.count, hs.cnt, hs.run, hs.stream, hs.nrec, hs.old, by have := hs.steps; have := hi.ok.lw.count; omega, hs.sec, hcalm, fun was hW => ?_⟩, hp.same G.same.pins hs.count⟩⟩
    exact put_wal (by rw [hs.stream, lsn_run hs.run]; exact hxl) (G.wal was hW)

/-- Pin under any plan. -/
theorem cpin_out (a : Ad) (P : Pl) (L : Lg) (D : Dk) (pl : List (Int × Int)) (n : Int) (m : Nat) (w : World) (h : PSt w a P L (D.under pl)) (hpl : pl.length ≤ 70368744175616) (hi : Inv P L D) (hp : PinsOk P m) (hm : m ≤ 4398046511104) (hma : a.ma ≤ 1099511627776) (hmn : a.mn ≤ 1099511627776) (hst : D.steps + 20000 ≤ 1152921504606846976) :
    Calls Tryz.prog 33 #[.pointer (some ⟨a.gp, 0, none⟩), .int .i64 n] w fun e w' => (∃ er, e = .returned (.int .i64 er)) ∧
      Fr (aT a) w w' ∧ ∃ a' P' L' D', AdN w a a' 2 ∧ PSt w' a' P' L' D' ∧ Out pl P L D (m + 1) P' L' D' := by
  rcases fetch_ways a P L D pl n m w h hpl hi hp hma hst with hc | ⟨N, i, P1, L1, D1, rfl, hN, G, hcalm, hc⟩
  · refine (cpin_errX a.gp n w _ hc).mono ?_
    rintro e w' ⟨er, her, rfl, hF, P', L', D', k1, k2⟩
    refine ⟨⟨er, rfl⟩, hF, a, P', L', D', AdN.refl _ _ _, k1, ?_⟩
    rcases k2 with ⟨E, e1, e2, e3⟩ | k2
    · exact .inl ⟨E, e1, e2, fun k hk => by obtain ⟨b1, b2, b3, b4⟩ := e3 k hk; exact ⟨b1, b2, b3, by omega⟩⟩
    · exact .inr k2
  · have hpp := G.same.pins
    have hrng := hp.range (N : Int)
    refine (cpin_from a N i P1 L1 (D1.under pl) w h.pool.pin.lt (by have := hi.wf.count; omega) hmn hc (by rw [hpp]; omega)).mono ?_
    rintro e w' ⟨rfl, a', k1, k2, k3⟩
    rw [hpp] at k1
    refine ⟨⟨0, rfl⟩, k2, a', _, L1, _, k3, k1, .inl ⟨D1, rfl, (Kw.of_stay hi G.inv G.same.stay hcalm G.wal).pinned _, fun k hk => ?_⟩⟩
    show 0 ≤ k ∧ k < (P1.count : Int) ∧ 1 ≤ (if k = (N : Int) then some ((P.pins N).getD 0 + 1) else P.pins k).getD 0 ∧ (if k = (N : Int) then some ((P.pins N).getD 0 + 1) else P.pins k).getD 0 ≤ ((m + 1 : Nat) : Int)
    rw [G.same.stay.count]
    by_cases hkN : k = (N : Int)
    · rw [if_pos hkN]
      simp only [Option.getD_some]
      omega
    · replace hk : (if k = (N : Int) then some ((P.pins N).getD 0 + 1) else P.pins k).isSome = true := hk
      rw [if_neg hkN] at hk ⊢
      obtain ⟨b1, b2, b3, b4⟩ := hp k hk
      exact ⟨b1, b2, b3, by omega⟩
end Go.Proofs.YthfidlhefkjpdaaGreatDoor

namespace Go.Proofs.YthfidlhefkjpdaaGreatDoor
open Go.RowKit Go.Maps

/-- A refused step behind calls that went well. -/
theorem Gone.back {pl : List (Int × Int)} {P P1 P' : Pl} {L L1 L' : Lg} {D D1 D' : Dk} (h : Gone pl P1 L1 D1 P' L' D') (hb : P1.base = P.base) (hc : P1.count = P.count) (hr : L1.run = L.run) (hl : D1.sec.length = D.sec.length) (hs : D.steps ≤ D1.steps)
    (hcalm : Calm pl D.steps D1.steps) (hW : ∀ was, Wal P L D was → Wal P1 L1 D1 was) (hle : D'.steps ≤ D.steps + 300000) : Gone pl P L D P' L' D' :=
  ⟨h.dead, hle, by have := h.ge; omega, h.hit, hcalm.trans h.calm, h.lw, h.run.trans hr, h.len.trans hl, h.wf, fun N hN => by rw [← hb]; exact h.pg N (by rw [hc]; exact hN), fun was hw N hN => by rw [← hb]; exact h.wal was (hW was hw) N (by rw [hc]; exact hN)⟩
theorem wrD_ge {P : Pl} {L : Lg} {D : Dk} (ho : Ok P L D) (f : Frm) (hf0 : 0 ≤ f.n) (hf1 : f.n < P.count) : D.steps ≤ (wrD D L f P.base).steps := by
  unfold wrD
  split
  · have := (lflush_next ho.dw ho.dp ho.doff ho.lw ho.lf (by have := ho.st; omega)).ge
    show D.steps ≤ (D.lflush L).steps + 1
    omega
  · show D.steps ≤ D.steps + 1
    omega

theorem wrAll_ge : ∀ (dx : List Nat) (P : Pl) (L : Lg) (D : Dk), Inv P L D → dx.Nodup → (∀ i ∈ dx, ∃ f : Frm, P.frames[i]? = some f ∧ f.dirty = true) → D.steps + dx.length * 4098 + 20000 ≤ 1152921504606846976 → D.steps ≤ (wrAll P L D dx).2.2.steps
  | [], P, L, D, _, _, _, _ => Int.le_refl _
  | i :: r, P, L, D, h, hnd, hdir, hst => by
    obtain ⟨f, hf, hd⟩ := hdir i (List.mem_cons_self ..)
    have hl : (((i :: r).length : Nat) : Int) = (r.length : Int) + 1 := by simp
    obtain ⟨h1, h2, h3, h4⟩ := wrS_law h hf hd (by rw [hl] at hst; omega)
    have hir := (List.nodup_cons.1 hnd).1
    have e : wrAll P L D (i :: r) = wrAll (wrP P i f) (wrL L f) (wrD D L f P.base) r := by
      show List.foldl wrS (wrS (P, L, D) i) r = _
      unfold wrS
      rw [hf]
      rfl
    have hget : ∀ j, j ≠ i → (wrP P i f).frames[j]? = P.frames[j]? := fun j hj => List.getElem?_set_ne (fun e => hj e.symm)
    have ih := wrAll_ge r (wrP P i f) (wrL L f) (wrD D L f P.base) h1 (List.nodup_cons.1 hnd).2 (fun j hj => by
      obtain ⟨g, hg, hgd⟩ := hdir j (List.mem_cons_of_mem _ hj)
      exact ⟨g, by rw [hget j (fun e => hir (by rw [← e]; exact hj))]; exact hg, hgd⟩) (by rw [hl] at hst; omega)
    rw [e]
    have hb := h.wf.full f (List.mem_of_getElem? hf)
    have := wrD_ge h.ok f hb.1 hb.2.1
    omega
theorem wrAll_top {P : Pl} {L : Lg} {D : Dk} {dx : List Nat} (h : Inv P L D) (hnd : dx.Nodup) (hdir : ∀ i ∈ dx, ∃ f : Frm, P.frames[i]? = some f ∧ f.dirty = true) (hst : D.steps + dx.length * 8196 + 20000 ≤ 1152921504606846976) (k : Nat) :
    (wrAll P L D (dx.take k)).2.2.steps ≤ (wrAll P L D dx).2.2.steps := by
  have htl : (dx.take k).length ≤ dx.length := by rw [List.length_take]; omega
  have hdl : (dx.drop k).length ≤ dx.length := by rw [List.length_drop]; omega
  have hW := wrAll_law (dx.take k) P L D h (hnd.sublist (List.take_sublist _ _)) (fun i hi => hdir i (List.mem_of_mem_take hi)) (by omega)
  have e : wrAll P L D dx = wrAll (wrAll P L D (dx.take k)).1 (wrAll P L D (dx.take k)).2.1 (wrAll P L D (dx.take k)).2.2 (dx.drop k) := by
    show List.foldl wrS (P, L, D) dx = List.foldl wrS (List.foldl wrS (P, L, D) (dx.take k)) (dx.drop k)
    rw [← List.foldl_append, List.take_append_drop]
  rw [e]
  refine wrAll_ge _ _ _ _ hW.inv (hnd.sublist (List.drop_sublist _ _)) (fun i hi => ?_) (by have := hW.steps; omega)
  obtain ⟨f0, q1, q2⟩ := hdir i (List.mem_of_mem_drop hi)
  have hil : i < (wrAll P L D (dx.take k)).1.frames.length := by rw [hW.len]; exact (List.getElem?_eq_some_iff.1 q1).1
  obtain ⟨y, y1, y2, y3, y4⟩ := hW.frames i _ (List.getElem?_eq_getElem hil)
  refine ⟨_, List.getElem?_eq_getElem hil, ?_⟩
  rw [q1] at y1
  obtain rfl := Option.some.inj y1
  have hni : i ∉ dx.take k := fun hm => by
    obtain ⟨j, hj, e1⟩ := List.mem_take_iff_getElem.1 hm
    obtain ⟨l, hl, e2⟩ := List.mem_drop_iff_getElem.1 hi
    have := (List.getElem_inj hnd).1 (e1.trans e2.symm)
    omega
  rw [y3, q2]
  simp [hni]

set_option maxRecDepth 100000 in
set_option maxHeartbeats 2000000 in
theorem cflush_two (a : Ad) (P : Pl) (L : Lg) (D : Dk) (pl : List (Int × Int)) (ks : List Int) (w : World) (h : PSt w a P L (D.under pl)) (hpl : pl.length ≤ 70368744175616) (hi : Inv P L D) (hks : KeysOf P.atm ks) (hma : a.ma ≤ 1099511627776) (hst : D.steps + 600000 ≤ 1152921504606846976) :
    Calls Tryz.prog 15 #[.pointer (some ⟨a.gp, 0, none⟩)] w fun e w' => Fr (aT a) w w' ∧
      ((e = .returned (.int .i64 0) ∧ PSt w' a (flushR P L D ks).1 (flushR P L D ks).2.1 ((flushR P L D ks).2.2.under pl) ∧ Calm pl D.steps (flushR P L D ks).2.2.steps) ∨
       (∃ er P' L' D', e = .returned (.int .i64 er) ∧ (er == 0) = false ∧ PSt w' a P' L' D' ∧ Gone pl P L D P' L' D' ∧ ¬ Calm pl D.steps (flushR P L D ks).2.2.steps ∧ 0 < er)) := by
  have htop : ∀ k, (wrAll P L D ((dirtyIx P ks).take k)).2.2.steps ≤ (flushR P L D ks).2.2.steps := fun k => by
    have hlen : (dirtyIx P ks).length ≤ 64 := by
      have h1 := dirtyIx_len P ks
      have h2 := hi.wf.keys_len hks
      have := hi.wf.len; have := hi.wf.m2; omega
    have h1 := wrAll_top hi (dirtyIx_nodup hi.wf hks) (fun i hi2 => dirtyIx_mem hi.wf hi2) (by omega) k
    refine Int.le_trans h1 ?_
    unfold flushR
    split
    · show _ ≤ (wrAll P L D (dirtyIx P ks)).2.2.steps + 1
      omega
    · exact Int.le_refl _
  have hw := hi.wf
  have ho := hi.ok
  have hlog := hi.log
  have hcd := cdirty_any a P L (D.under pl) w h hw hma
  have c10 := h.pool.blk.cell 10
  simp [plCells] at c10
  rw [ho.pd] at c10
  have hgp := h.pool.blk.lt
  have hmem : ∀ i ∈ dirtyIx P ks, i < P.frames.length := fun i hi => by
    obtain ⟨f, hf, _⟩ := dirtyIx_mem hw hi
    exact (List.getElem?_eq_some_iff.1 hf).1
  have hfar : ∀ b, aT a b → b < w.heap.size := fun b hb => by
    rcases hb with (hb | hb) | hb
    · have h1 := h.ld.bd; have h2 := h.ld.bs; have h3 := h.ld.bm; have h4 := h.lb; have h5 := h.pool.lp
      rcases hb with rfl | rfl | rfl <;> omega
    · have hk := h.ld.log.kinds hb
      rcases hk.2 with ⟨_, _, k⟩ | ⟨_, _, k⟩ | ⟨_, _, k⟩ <;> exact (Array.getElem?_eq_some_iff.1 k).1
    · exact h.pool.lt hb
  have hwr : ∀ k, Wrote P L D ((dirtyIx P ks).take k) (wrAll P L D ((dirtyIx P ks).take k)) := fun k => by
    have hlen : (dirtyIx P ks).length ≤ 64 := by
      have h1 := dirtyIx_len P ks
      have h2 := hw.keys_len hks
      have := hw.len; have := hw.m2; omega
    have hlk : ((dirtyIx P ks).take k).length ≤ 64 := by rw [List.length_take]; omega
    exact wrAll_law _ P L D hi ((dirtyIx_nodup hw hks).sublist (List.take_sublist _ _)) (fun i hi => dirtyIx_mem hw (List.mem_of_mem_take hi)) (by omega)
  have hnd := dirtyIx_nodup hw hks
  have hdm : ∀ i ∈ dirtyIx P ks, ∃ f : Frm, P.frames[i]? = some f ∧ f.dirty = true := fun i hi => dirtyIx_mem hw hi
  have HW : Aside ((∀ k, Wrote P L D ((dirtyIx P ks).take k) (wrAll P L D ((dirtyIx P ks).take k))) ∧ (dirtyIx P ks).Nodup ∧ (∀ i ∈ dirtyIx P ks, ∃ f : Frm, P.frames[i]? = some f ∧ f.dirty = true) ∧ pl.length ≤ 70368744175616) := ⟨hwr, hnd, hdm, hpl⟩
  clear hwr hnd hdm hpl hi
  have H : Aside (PSt w a P L (D.under pl) ∧ PWf P ∧ Ok P L D ∧ L.first + L.count ≤ P.base ∧ D.steps + 600000 ≤ 1152921504606846976 ∧ KeysOf P.atm ks ∧ (∀ i ∈ dirtyIx P ks, i < P.frames.length) ∧ (∀ b, aT a b → b < w.heap.size)) := ⟨h, hw, ho, hlog, hst, hks, hmem, hfar⟩
  obtain ⟨FR, hFR⟩ : ∃ FR, flushR P L D ks = FR := ⟨_, rfl⟩
  rw [hFR] at htop ⊢
  have HTop := hid htop
  clear htop
  have HFR := hid hFR
  clear h hw hma ho hlog hst hks hmem hfar hFR
  go_enter Tryz.func15, Tryz.ntmps15
  go_wp2_with fail
  refine hcd.mono ?_
  rintro e w2 ⟨v, ks', rfl, hk, hown, hb2⟩
  obtain rfl := hk.uniq H.out.2.2.2.2.2.1
  obtain ⟨A, cap, rfl, hcap, hcm, hA⟩ := own_form hown
  have hn64 : (dirtyIx P ks').length ≤ 64 := by
    have h1 := dirtyIx_len P ks'
    have h2 := H.out.2.1.keys_len hk
    have := H.out.2.1.len; have := H.out.2.1.m2; omega
  obtain ⟨R, hR⟩ : ∃ R, wrAll P L D (dirtyIx P ks') = R := ⟨_, rfl⟩
  have hFR : (if R.1.loose = true then ({ R.1 with loose := false }, R.2.1, R.2.2.sync) else R) = FR := by rw [← HFR.out]; unfold flushR; rw [hR]
  have hmem := H.out.2.2.2.2.2.2.1
  clear HFR
  obtain ⟨dx, hdx⟩ : ∃ dx, dirtyIx P ks' = dx := ⟨_, rfl⟩
  have hHW := HW.out
  have hHT := HTop.out
  rw [hdx] at hHW hHT
  have HT := hid hHT
  clear HTop hHT
  have HWd := hid hHW
  clear HW hHW
  rw [hdx] at hown hn64 hR hmem
  rw [hdx]
  obtain ⟨n, hn⟩ : ∃ n, dx.length = n := ⟨_, rfl⟩
  rw [hn] at hown hn64
  rw [hn]
  have H2 : Aside (w2.ownsRow w.heap.size 94 1 (.slice A n cap) n (ptrs (dx.map fun i => a.bk.getD i 0)) ∧ Below w.heap.size w w2 ∧ dx.length = n ∧ (∀ i ∈ dx, i < P.frames.length) ∧ wrAll P L D dx = R ∧ (if R.1.loose = true then ({ R.1 with loose := false }, R.2.1, R.2.2.sync) else R) = FR) := ⟨hown, hb2, hn, hmem, hR, hFR⟩
  clear hk hown hb2 hA hcap hcm hn hmem hdx hcd c10 hR hFR
  go_wp2_with fail
  go_loopg [14] n (fun q i wr => ∃ k : Nat, k + q = n ∧ i = .int .i64 (k : Nat) ∧ Hid (PSt wr a (wrAll P L D (dx.take k)).1 (wrAll P L D (dx.take k)).2.1 ((wrAll P L D (dx.take k)).2.2.under pl) ∧ WrInv P L D k (wrAll P L D (dx.take k)) ∧ Fr (aT a) w wr ∧ wr.ownsRow w.heap.size 94 1 (.slice A n cap) n (ptrs (dx.map fun i => a.bk.getD i 0)) ∧ Calm pl D.steps (wrAll P L D (dx.take k)).2.2.steps ∧ D.steps ≤ (wrAll P L D (dx.take k)).2.2.steps))
  case atStart => exact ⟨0, by omega, rfl, H.out.1.below H2.out.2.1, ⟨H.out.2.1.full, rfl, rfl, rfl, rfl, rfl, H.out.2.2.1, by simp [wrAll]⟩, Fr.of_below H2.out.2.1 _, H2.out.1, Calm.refl _ _, Int.le_refl _⟩
  case round =>
    obtain ⟨k, hk, rfl, hI⟩ := hrel
    by_cases hlt : k < n
    · obtain ⟨hP, hI2, hF, hO, hcm, hge⟩ := hI.out
      obtain ⟨A', c', e', -, -, hA⟩ := own_form hO
      injection e' with e1 e2 e3
      subst e1
      subst e3
      obtain ⟨g, rfl, hg1, hg2, -⟩ := hA (by omega)
      have hkl : k < dx.length := by rw [H2.out.2.2.1]; exact hlt
      obtain ⟨i, hi⟩ : ∃ i, dx[k] = i := ⟨_, rfl⟩
      have hin := H2.out.2.2.2.1 i (by rw [← hi]; exact List.getElem_mem hkl)
      obtain ⟨bi, hbi⟩ : ∃ bi, a.bk.getD i 0 = bi := ⟨_, rfl⟩
      have hcell : wr.cell? ⟨g, k, none⟩ = some (.pointer (some ⟨bi, 0, none⟩)) := by
        rw [ptr_row hO rfl (by rw [List.length_map]; exact hkl), List.getElem_map, hi, hbi]
      have hsn : wrAll P L D (dx.take (k + 1)) = wrS (wrAll P L D (dx.take k)) i := by
        rw [List.take_succ_eq_append_getElem hkl, hi, wrAll_snoc]
      obtain ⟨S, hS⟩ : ∃ S, wrAll P L D (dx.take k) = S := ⟨_, rfl⟩
      have hwk := HWd.out.1 k
      rw [hS] at hP hI2 hsn hcm hge hwk
      have hdirty : ∃ f0 : Frm, S.1.frames[i]? = some f0 ∧ f0.dirty = true := by
        obtain ⟨f0, q1, q2⟩ := HWd.out.2.2.1 i (by rw [← hi]; exact List.getElem_mem hkl)
        have hil : i < S.1.frames.length := by rw [hwk.len]; exact hin
        obtain ⟨y, y1, y2, y3, y4⟩ := hwk.frames i _ (List.getElem?_eq_getElem hil)
        refine ⟨_, List.getElem?_eq_getElem hil, ?_⟩
        rw [q1] at y1
        obtain rfl := Option.some.inj y1
        have hni : i ∉ dx.take k := fun hm => by
          obtain ⟨j, hj, e⟩ := List.mem_take_iff_getElem.1 hm
          have := (List.getElem_inj HWd.out.2.1).1 (e.trans hi.symm)
          omega
        rw [y3, q2]
        simp [hni]
      obtain ⟨f, hf, hb3, hst3, hI3⟩ := hI2.step hin H.out.2.2.2.1 (by omega) H.out.2.2.2.2.1
      have hge2 := wrD_ge hI2.ok f hb3.1 hb3.2.1
      have hokS := hI2.ok
      have hstS := hI3.st
      rw [hst3] at hstS
      have hcw := cwrite_two_at a S.1 S.2.1 S.2.2 pl i bi f wr hP HWd.out.2.2.2 hI2.ok hf hbi hb3.1 hb3.2.1 (by omega)
      have HR : Aside (Fr (aT a) w wr ∧ wr.ownsRow w.heap.size 94 1 (.slice (some ⟨g, 0, none⟩) n cap) n (ptrs (dx.map fun i => a.bk.getD i 0)) ∧ wrAll P L D (dx.take (k + 1)) = wrS S i ∧ wrS S i = (wrP S.1 i f, wrL S.2.1 f, wrD S.2.2 S.2.1 f S.1.base) ∧ WrInv P L D (k + 1) (wrS S i) ∧ Calm pl D.steps S.2.2.steps ∧ D.steps ≤ S.2.2.steps ∧ Wrote P L D (dx.take k) S ∧ (∃ f0 : Frm, S.1.frames[i]? = some f0 ∧ f0.dirty = true) ∧ S.1.frames[i]? = some f ∧ S.2.2.steps ≤ (wrD S.2.2 S.2.1 f S.1.base).steps ∧ (wrD S.2.2 S.2.1 f S.1.base).steps ≤ D.steps + ((k + 1 : Nat) : Int) * 4098) := ⟨hF, hO, hsn, hst3, hI3, hcm, hge, hwk, hdirty, hf, hge2, hstS⟩
      have hsz := hF.size
      clear hI hP hI2 hF hO hA hkl hi hin hbi hsn hS hf hb3 hst3 hI3 hcm hge hwk hdirty hge2 hokS hstS
      go_wp2_with fail
      refine hcw.mono ?_
      rintro e w3 ⟨hF3, hcase⟩
      have RF : Aside (Fr (aT a) wr w3) := ⟨hF3⟩
      rcases hcase with ⟨rfl, hP3, hcm3⟩ | ⟨er, L', D', rfl, her, hP3, hlost, hpos⟩
      case' inr =>
        have R3 : Aside (PSt w3 a { S.1 with dead := true } L' D' ∧ Gone pl P L D { S.1 with dead := true } L' D' ∧ ¬ Calm pl D.steps FR.2.2.steps) := by
          refine ⟨hP3, ?_⟩
          have hT := HT.out (k + 1)
          rw [HR.out.2.2.1, HR.out.2.2.2.1] at hT
          dsimp only at hT
          obtain ⟨f0, g1, g2⟩ := HR.out.2.2.2.2.2.2.2.2.1
          have hff := HR.out.2.2.2.2.2.2.2.2.2.1
          rw [hff] at g1
          obtain rfl := Option.some.inj g1
          have hwk := HR.out.2.2.2.2.2.2.2.1
          have htop := HR.out.2.2.2.2.2.2.2.2.2.2.2
          have hle := hlost.le
          have hge := HR.out.2.2.2.2.2.2.1
          have hg := gone_of_lost (P' := { S.1 with dead := true }) hwk.inv hff rfl g2 rfl hlost (by omega)
          have hgb := hg.back hwk.base hwk.count hwk.log.2.2.1 hwk.sec hge HR.out.2.2.2.2.2.1 hwk.wal (by omega)
          exact ⟨hgb, fun hc => hgb.hit (hc _ hgb.ge (by omega))⟩
        clear hP3 hlost hcw hF3
        go_wp2_with fail
        go_ret
        exact ⟨fr_same HR.out.1 RF.out, .inr ⟨er, _, L', D', rfl, her, R3.out.1, R3.out.2.1, R3.out.2.2, hpos⟩⟩
      have R3 : Aside (PSt w3 a (wrP S.1 i f) (wrL S.2.1 f) ((wrD S.2.2 S.2.1 f S.1.base).under pl) ∧ Fr (aT a) wr w3 ∧ Calm pl D.steps (wrD S.2.2 S.2.1 f S.1.base).steps ∧ D.steps ≤ (wrD S.2.2 S.2.1 f S.1.base).steps) := ⟨hP3, hF3, HR.out.2.2.2.2.2.1.trans hcm3, Int.le_trans HR.out.2.2.2.2.2.2.1 HR.out.2.2.2.2.2.2.2.2.2.2.1⟩
      clear hP3 hF3 hcw hcm3 RF
      go_wp2_with fail
      go_roundg (n - 1 - k)
      case rel =>
        refine ⟨k + 1, by omega, by go_num, ?_⟩
        rw [HR.out.2.2.1]
        have hrow : w3.ownsRow w.heap.size 94 1 (.slice (some ⟨g, 0, none⟩) n cap) n (ptrs (dx.map fun i => a.bk.getD i 0)) :=
          own_fr HR.out.2.1 R3.out.2.1 fun b hb e => by
            have h1 := (HR.out.2.1.lt b hb).1
            have h2 := H.out.2.2.2.2.2.2.2 b e
            omega
        refine ⟨?_, HR.out.2.2.2.2.1, fr_same HR.out.1 R3.out.2.1, hrow, ?_, ?_⟩
        · rw [HR.out.2.2.2.1]
          exact R3.out.1
        · rw [HR.out.2.2.2.1]
          exact R3.out.2.2.1
        · rw [HR.out.2.2.2.1]
          exact R3.out.2.2.2
      case measure => omega
    · obtain rfl : k = n := by omega
      obtain ⟨hP, hI2, hF, hO, hcm, hge⟩ := hI.out
      have hwk := HWd.out.1 k
      rw [List.take_of_length_le (by rw [H2.out.2.2.1]; omega), H2.out.2.2.2.2.1] at hP hI2 hcm hge hwk
      have hFR := H2.out.2.2.2.2.2
      obtain ⟨P1, L1, D1⟩ := R
      dsimp only at hP hI2 hFR hcm hge
      have c9 := hP.pool.blk.cell 9
      have c0 := hP.pool.blk.cell 0
      simp [plCells] at c9 c0
      obtain ⟨lo, hlo⟩ : ∃ lo, P1.loose = lo := ⟨_, rfl⟩
      rw [hlo] at c9 hFR
      cases lo with
      | false =>
        rw [if_neg (by simp)] at hFR
        have HE : Aside (PSt wr a P1 L1 (D1.under pl) ∧ Fr (aT a) w wr ∧ (P1, L1, D1) = FR ∧ Calm pl D.steps D1.steps) := ⟨hP, hF, hFR, hcm⟩
        clear hI hP hI2 hF hO hFR hlo c0 hcm hge hwk
        go_wp2_with fail
        go_ret
        rw [← HE.out.2.2.1]
        exact ⟨HE.out.2.1, .inl ⟨rfl, HE.out.1, HE.out.2.2.2⟩⟩
      | true =>
        rw [if_pos rfl] at hFR
        have HE : Aside (PSt wr a P1 L1 (D1.under pl) ∧ Fr (aT a) w wr ∧ ({ P1 with loose := false }, L1, D1.sync) = FR ∧ Ok P1 L1 D1 ∧ P1.loose = true ∧ Calm pl D.steps D1.steps ∧ D.steps ≤ D1.steps ∧ Wrote P L D dx (P1, L1, D1) ∧ D1.steps ≤ D.steps + (k : Int) * 4098) := ⟨hP, hF, hFR, hI2.ok, hlo, hcm, hge, hwk, hI2.st⟩
        clear hI hP hI2 hF hO hFR hlo hcm hge hwk
        go_wp2_with fail
        refine (sync_two a.gd a.gs a.gm D1 pl wr HE.out.1.ld.disk HE.out.2.2.2.1.dw HWd.out.2.2.2 HE.out.2.2.2.1.doff (by have := HE.out.2.2.2.1.st; omega)).mono ?_
        rintro e w3 ⟨er, D', rfl, hD3, hF3, hcase⟩
        have hF3' : Fr (aL a) wr w3 := hF3.mono fun _ _ e => .inl e
        have R3 : Aside (PSt w3 a P1 L1 D' ∧ Fr (aT a) w w3) := ⟨HE.out.1.onLD hF3' (Nx.refl _ _) (HE.out.1.ld.onDisk (hF3.mono fun _ _ e => e) hD3), fr_same HE.out.2.1 (fr_aT1 hF3')⟩
        have HC := hid hcase
        clear hD3 hF3 hF3' hcase
        go_wp2_with fail
        refine (pstep_any a P1 L1 D' er w3 R3.out.1).mono ?_
        rintro e w4 ⟨rfl, hP4, hF4⟩
        have R4 : Aside (PSt w4 a { P1 with dead := P1.dead || !decide (er = 0) } L1 D' ∧ Fr (aT a) w w4) := ⟨hP4, fr_same R3.out.2 (fr_aT2 (fr_gp hF4))⟩
        clear hP4 hF4
        have z9 := R4.out.1.pool.blk.cell 9
        have y9 := R4.out.1.pool.blk.frozen 9
        simp [plCells] at z9
        rcases HC.out with ⟨rfl, rfl, hk0⟩ | ⟨her, hfat, hpos⟩
        case' inr =>
          have hne : (er != 0) = true := by simp [bne, her]
          have hdd : (P1.dead || !decide (er = 0)) = true := by
            have : decide (er = 0) = false := by simpa using her
            rw [this]
            simp
          have hP5 := R4.out.1
          rw [hdd] at hP5
          have R5 : Aside (∀ W, Fr (· = a.gp) w4 W → PSt W a { P1 with dead := true, loose := true } L1 D' → PSt W a { P1 with dead := true, loose := true } L1 D' ∧ Gone pl P L D { P1 with dead := true, loose := true } L1 D' ∧ ¬ Calm pl D.steps FR.2.2.steps) := ⟨fun W _ hPW => by
            refine ⟨hPW, ?_⟩
            have hFRs : FR.2.2.steps = D1.steps + 1 := by rw [← HE.out.2.2.1]; rfl
            have hwk := HE.out.2.2.2.2.2.2.2.1
            have hd1 := hwk.inv
            dsimp only at hd1
            have hge := HE.out.2.2.2.2.2.2.1
            have hst1 := HE.out.2.2.2.2.2.2.2.2
            have hle := hfat.le
            have hk64 : k ≤ 64 := hn64
            have hg : Gone pl P1 L1 D1 { P1 with dead := true, loose := true } L1 D' := by
              refine ⟨rfl, by omega, hfat.ge, hfat.hit, hfat.calm, hd1.ok.lw, rfl, hfat.len, hfat.wf, fun N hN => ?_, fun was hW N hN => ?_⟩
              · have hpb := hd1.ok.pb
                rw [hfat.has _ (by omega) (.inr (Nat.zero_le _))]
                exact hd1.pg N hN
              · have hpb := hd1.ok.pb
                rw [hfat.has _ (by omega) (.inr (Nat.zero_le _))]
                exact hW.disk N hN
            have hgb := hg.back hwk.base hwk.count hwk.log.2.2.1 hwk.sec hge HE.out.2.2.2.2.2.1 hwk.wal (by omega)
            exact ⟨hgb, fun hc => hgb.hit (hc _ hgb.ge (by omega))⟩⟩
          have R6 := hid hP5
          clear hP5 hfat HC hdd
          go_wp2_with fail
          go_ret
          obtain ⟨h7, hF7⟩ := R6.out.pool.setCell_ (P' := { P1 with dead := true, loose := true }) 9 (.bool true) (by simp [plCells]) rfl rfl rfl
          have hP7 := R6.out.onPool0 (fr_gp hF7) h7
          obtain ⟨q1, q2⟩ := R5.out _ hF7 hP7
          exact ⟨fr_same R4.out.2 (fr_aT2 (fr_gp hF7)), .inr ⟨er, _, L1, D', rfl, her, q1, q2.1, q2.2, hpos⟩⟩
        have e00 : (P1.dead || !decide ((0 : Int) = 0)) = P1.dead := by simp
        have R4b := R4.out
        rw [e00] at R4b
        have R5 : Aside (PSt w4 a P1 L1 (D1.sync.under pl) ∧ Fr (aT a) w w4 ∧ Calm pl D.steps D1.sync.steps) := ⟨R4b.1, R4b.2, HE.out.2.2.2.2.2.1.trans (Calm.one hk0)⟩
        clear R4 R4b e00 HC hk0
        go_wp2_with fail
        go_ret
        rw [← HE.out.2.2.1]
        obtain ⟨h7, hF7⟩ := R5.out.1.pool.setCell_ (P' := { P1 with loose := false }) 9 (.bool false) (by simp [plCells]) rfl rfl rfl
        exact ⟨fr_same R5.out.2.1 (fr_aT2 (fr_gp hF7)), .inl ⟨rfl, R5.out.1.onPool0 (fr_gp hF7) h7, R5.out.2.2⟩⟩

/-- Flush under any plan: it is known ahead which. -/
theorem cflush_ways (a : Ad) (P : Pl) (L : Lg) (D : Dk) (pl : List (Int × Int)) (m : Nat) (w0 : World) (h : PSt w0 a P L (D.under pl)) (hpl : pl.length ≤ 70368744175616) (hi : Inv P L D) (hp : PinsOk P m) (hma : a.ma ≤ 1099511627776) (hst : D.steps + 600000 ≤ 1152921504606846976) :
    (∀ w, Below w0.heap.size w0 w → Calls Tryz.prog 15 #[.pointer (some ⟨a.gp, 0, none⟩)] w fun e w' => e = .returned (.int .i64 0) ∧ Fr (aT a) w0 w' ∧ ∃ P' L' E, PSt w' a P' L' (E.under pl) ∧ Kw pl P P' L L' D E ∧ PinsOk P' m ∧ (∀ f ∈ P'.frames, f.dirty = false)) ∨
    (∀ w, Below w0.heap.size w0 w → Calls Tryz.prog 15 #[.pointer (some ⟨a.gp, 0, none⟩)] w fun e w' => ∃ er : Int, 0 < er ∧ e = .returned (.int .i64 er) ∧ Fr (aT a) w0 w' ∧ ∃ P' L' D', PSt w' a P' L' D' ∧ Gone pl P L D P' L' D') := by
  obtain ⟨ks, hks, -, -⟩ := h.pool.atm.keys Tryz.underlying3
  replace hks := keys_atm hks
  have hf := flush_law hi hks hst
  by_cases hc : Calm pl D.steps (flushR P L D ks).2.2.steps
  · refine .inl fun w hW => (cflush_two a P L D pl ks w (h.below hW) hpl hi hks hma hst).mono ?_
    rintro e w' ⟨hF, ⟨rfl, h1, h2⟩ | ⟨er, P', L', D', rfl, her, h1, h2, h3, h4⟩⟩
    · exact ⟨rfl, (Fr.of_below hW _).trans hF (fun _ _ h => h), _, _, _, h1, ⟨hf.inv, hf.base, hf.count, hf.log.2.1, hf.log.2.2.1, hf.log.2.2.2.2.1, hf.log.2.2.2.2.2.1, hf.log.2.2.2.2.2.2.1, hf.steps, hf.sec, h2, hf.wal⟩, hp.same hf.pins hf.count, hf.clean⟩
    · exact absurd hc h3
  · refine .inr fun w hW => (cflush_two a P L D pl ks w (h.below hW) hpl hi hks hma hst).mono ?_
    rintro e w' ⟨hF, ⟨rfl, h1, h2⟩ | ⟨er, P', L', D', rfl, her, h1, h2, h3, h4⟩⟩
    · exact absurd h2 hc
    · exact ⟨er, h4, rfl, (Fr.of_below hW _).trans hF (fun _ _ h => h), P', L', D', h1, h2⟩
end Go.Proofs.YthfidlhefkjpdaaGreatDoor
