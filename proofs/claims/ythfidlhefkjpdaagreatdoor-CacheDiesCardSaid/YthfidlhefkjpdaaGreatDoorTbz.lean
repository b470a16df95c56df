/- CacheDies: the walk. -/
import Derived.Test.YthfidlhefkjpdaaGreatDoorTby
import Derived.Test.YthfidlhefkjpdaaGreatDoorTbm
namespace Go.Proofs.YthfidlhefkjpdaaGreatDoor
open Go.RowKit Go.Maps

set_option maxRecDepth 100000 in
set_option maxHeartbeats 2000000 in
theorem cacheDies_any (count frames step fk : Int) (A : Option Addr) (n c : Nat) (w : World) (hO : RdOps w A n) (hn : n ≤ 2199023255552) (hlen : OpsLen w A n) :
    Calls Tryz.prog 7 #[.int .i64 count, .int .i64 frames, .slice A n c, .int .i64 step, .int .i64 fk] w fun e w' => e = .returned (.bool true) ∧ Below w.heap.size w w' := by
  obtain ⟨most, hm⟩ : ∃ most : Nat, (most : Int) = min (max frames 1) 64 := ⟨(min (max frames 1) 64).toNat, by omega⟩
  have hal := alive_any w
  have HO := hid hO
  have HLen := hid hlen
  have hm1 : 1 ≤ most ∧ most ≤ 64 := by omega
  have HM : Aside ((most : Int) = min (max frames 1) 64 ∧ 1 ≤ most ∧ most ≤ 64) := ⟨hm, hm1⟩
  clear hO hlen hm hm1
  by_cases hc0 : count < 1
  · have e0 : decide (count < 1) = true := by simpa using hc0
    clear hc0
    go_enter Tryz.func7, Tryz.ntmps7
    go_wp2_with fail
    refine hal.mono ?_
    rintro e w1 ⟨rfl, hb1⟩
    have S1 := hid hb1
    clear hb1 hal
    go_wp2_with fail
    go_ret
    exact ⟨rfl, S1.out⟩
  have d0 : decide (count < 1) = false := by simpa using hc0
  by_cases hc1 : (12 : Int) < count
  · have e1 : decide ((12 : Int) < count) = true := by simpa using hc1
    clear hc1
    go_enter Tryz.func7, Tryz.ntmps7
    go_wp2_with fail
    refine hal.mono ?_
    rintro e w1 ⟨rfl, hb1⟩
    have S1 := hid hb1
    clear hb1 hal
    go_wp2_with fail
    go_ret
    exact ⟨rfl, S1.out⟩
  have d1 : decide ((12 : Int) < count) = false := by simpa using hc1
  by_cases hc2 : step < 1
  · have e2 : decide (step < 1) = true := by simpa using hc2
    clear hc2
    go_enter Tryz.func7, Tryz.ntmps7
    go_wp2_with fail
    refine hal.mono ?_
    rintro e w1 ⟨rfl, hb1⟩
    have S1 := hid hb1
    clear hb1 hal
    go_wp2_with fail
    go_ret
    exact ⟨rfl, S1.out⟩
  have d2 : decide (step < 1) = false := by simpa using hc2
  by_cases hc3 : (1000 : Int) < step
  · have e3 : decide ((1000 : Int) < step) = true := by simpa using hc3
    clear hc3
    go_enter Tryz.func7, Tryz.ntmps7
    go_wp2_with fail
    refine hal.mono ?_
    rintro e w1 ⟨rfl, hb1⟩
    have S1 := hid hb1
    clear hb1 hal
    go_wp2_with fail
    go_ret
    exact ⟨rfl, S1.out⟩
  have d3 : decide ((1000 : Int) < step) = false := by simpa using hc3
  by_cases hc4 : fk < 1
  · have e4 : decide (fk < 1) = true := by simpa using hc4
    clear hc4
    go_enter Tryz.func7, Tryz.ntmps7
    go_wp2_with fail
    refine hal.mono ?_
    rintro e w1 ⟨rfl, hb1⟩
    have S1 := hid hb1
    clear hb1 hal
    go_wp2_with fail
    go_ret
    exact ⟨rfl, S1.out⟩
  have d4 : decide (fk < 1) = false := by simpa using hc4
  by_cases hc5 : (3 : Int) < fk
  · have e5 : decide ((3 : Int) < fk) = true := by simpa using hc5
    clear hc5
    go_enter Tryz.func7, Tryz.ntmps7
    go_wp2_with fail
    refine hal.mono ?_
    rintro e w1 ⟨rfl, hb1⟩
    have S1 := hid hb1
    clear hb1 hal
    go_wp2_with fail
    go_ret
    exact ⟨rfl, S1.out⟩
  have d5 : decide ((3 : Int) < fk) = false := by simpa using hc5
  have hst1 : 1 ≤ step ∧ step ≤ 1000 := by omega
  have hfk1 : 1 ≤ fk ∧ fk ≤ 3 := by omega
  obtain ⟨cn, rfl⟩ : ∃ cn : Nat, (cn : Int) = count := ⟨count.toNat, by omega⟩
  have hcn1 : 1 ≤ cn ∧ cn ≤ 12 := by omega
  have HC : Aside ((1 ≤ cn ∧ cn ≤ 12) ∧ (1 ≤ step ∧ step ≤ 1000) ∧ (1 ≤ fk ∧ fk ≤ 3)) := ⟨hcn1, hst1, hfk1⟩
  clear hc0 hc1 hc2 hc3 hc4 hc5
  go_enter Tryz.func7, Tryz.ntmps7
  go_wp2_with fail
  refine hal.mono ?_
  rintro e w1 ⟨rfl, hb1⟩
  have S1 : Aside (Below w.heap.size w w1) := ⟨hb1⟩
  clear hb1 hal
  have hmd := lawmade_any none 0 0 [] cn frames most w1 (RdB.nil _ _) (by omega) (by omega) HM.out.1
  go_wp2_with fail
  refine hmd.mono ?_
  rintro e w2 ⟨a0, rfl, hP2, hfar2, hma2, hmn2, hb2⟩
  have hI2 := made_inv cn most (by omega) HM.out.2.1 HM.out.2.2
  have hmw := made_wf cn (by omega) [] (by simp)
  have hwl2 := made_wal cn most []
  obtain ⟨P0, hP0⟩ : ∃ P0, madeP cn most = P0 := ⟨_, rfl⟩
  obtain ⟨D0, hD0⟩ : ∃ D0, madeD [] cn = D0 := ⟨_, rfl⟩
  have k0 : (P0.pins = fun _ => none) ∧ P0.count = cn ∧ P0.base = 4 := by rw [← hP0]; exact ⟨rfl, rfl, rfl⟩
  rw [hP0, hD0] at hP2 hI2 hwl2
  rw [hD0] at hmw
  have hL0 : madeL.stream = [] ∧ madeL.old = false ∧ madeL.count = 4 ∧ madeL.run = 2 ∧ madeL.nrec = 0 := ⟨rfl, rfl, rfl, rfl, rfl⟩
  obtain ⟨L0, hL0e⟩ : ∃ L0, madeL = L0 := ⟨_, rfl⟩
  rw [hL0e] at hP2 hI2 hL0 hwl2
  have hdw : D0.wf := hI2.ok.dw
  have hsec : D0.sec.length = 4 + cn := hmw.2.2.2.1
  have hst0 : D0.steps = 4 := hmw.2.2.2.2
  have hliv : ∀ nn : Int, 4 < nn → LivC cn nn (fun N => D0.has (4 + N)) 0 P0 L0 D0 := fun nn h4 =>
    ⟨hI2, fun j hj => by rw [k0.1] at hj; exact absurd hj (by simp), hwl2, by omega, k0.2.1, k0.2.2, hL0.2.1, hL0.2.2.1, hL0.2.2.2.1, by rw [hL0.2.2.2.2, hL0.1]; simp, hsec⟩
  have S2 : Aside (PSt w2 a0 P0 L0 D0 ∧ (∀ nn : Int, 4 < nn → LivC cn nn (fun N => D0.has (4 + N)) 0 P0 L0 D0) ∧ (∀ b, aT a0 b → w1.heap.size ≤ b) ∧ a0.ma = 0 ∧ a0.mn = 0 ∧ Below w1.heap.size w1 w2 ∧ D0.wf ∧ D0.sec.length = 4 + cn) := ⟨hP2, hliv, hfar2, hma2, hmn2, hb2, hdw, hsec⟩
  have hall := dall_fresh a0.gd a0.gs a0.gm D0 w2 hP2.ld.disk hdw
  have hst0 := hid hst0
  rw [hsec] at hall
  obtain ⟨M, hM⟩ : ∃ M, (4 + cn) * 512 = M := ⟨_, rfl⟩
  rw [hM] at hall
  have HMs : Aside ((4 + cn) * 512 = M ∧ 0 < M) := ⟨hM, by omega⟩
  clear hP2 hI2 hfar2 hma2 hmn2 hb2 hmw hwl2 k0 hL0 hL0e hP0 hD0 hmd hdw hsec hliv hM
  go_wp2_with fail
  refine hall.mono ?_
  rintro e w3 ⟨WA, wc, rfl, hRd, ⟨-, hWA⟩, hb3⟩
  obtain ⟨gW, rfl, hgW1, hgW2⟩ := hWA HMs.out.2
  have hP3 := S2.out.1.below hb3
  have hst := dsteps_any a0.gd a0.gs a0.gm D0 w3 hP3.ld.disk
  rw [hst0.out] at hst
  have S3 : Aside (PSt w3 a0 P0 L0 D0 ∧ RdB w3 (some ⟨gW, 0, none⟩) M ((List.range (4 + cn)).flatMap D0.has) ∧ w2.heap.size ≤ gW ∧ gW < w3.heap.size ∧ Below w2.heap.size w2 w3) := ⟨hP3, hRd, hgW1, hgW2, hb3⟩
  clear hall hP3 hRd hgW1 hgW2 hb3 hWA
  go_wp2_with fail
  refine hst.mono ?_
  rintro e w' ⟨rfl, rfl⟩
  clear hst
  obtain ⟨nn, hnn⟩ : ∃ nn : Int, 4 + step = nn := ⟨_, rfl⟩
  have HN : Aside (4 < nn ∧ nn ≤ 2000) := ⟨by omega, by omega⟩
  have hpl := plan_st a0 P0 L0 D0 w3.heap.size nn fk (w3.alloc (.cells #[.int .i64 nn, .int .i64 fk] 76)) (S3.out.1.below (bl_alloc (Below.refl _ _) _)) (alloc_new _ _)
  go_wp2_with fail
  refine hpl.mono ?_
  rintro e w5 ⟨rfl, hP5, hF5⟩
  clear hpl hnn
  have hX : XSt w cn nn fk D0 a0.gl a0.gd a0.gp (some ⟨gW, 0, none⟩) w5 0 { a0 with ov := .slice none 0 0 } P0 L0 D0 := by
    have hz1 := S1.out.size
    have hz2 := S2.out.2.2.2.2.2.1.size
    have hz3 := S3.out.2.2.2.2.size
    have hb34 : Below w3.heap.size w3 (w3.alloc (.cells #[.int .i64 nn, .int .i64 fk] 76)) := bl_alloc (Below.refl _ _) _
    have hna : ¬ aT a0 gW := fun hh => by have h1 := S2.out.1.lt hh; have := S3.out.2.2.1; omega
    have hw3 : Below w.heap.size w w3 := (S1.out.trans (S2.out.2.2.2.2.2.1.mono hz1)).trans (S3.out.2.2.2.2.mono (by omega))
    have hw4 := hw3.trans (hb34.mono hw3.size)
    refine ⟨hP5.unguard rfl, S2.out.2.1 nn HN.out.1, rfl, rfl, rfl, by show a0.ma ≤ _; rw [S2.out.2.2.2.1]; omega, by show a0.mn ≤ _; rw [S2.out.2.2.2.2.1]; omega, rfl, hw4.trans (hF5.below hw4.size (fun b hb => by have := S2.out.2.2.1 b hb; omega)), fun b hb => by have := S2.out.2.2.1 b hb; omega, ?_, fun b o e => ?_⟩
    · rw [HMs.out.1]
      exact (S3.out.2.1.below hb34).fr hF5 (fun b o _ e => by injection e with e; injection e with e; subst e; exact hna)
    · injection e with e
      injection e with e
      subst e
      exact ⟨hna, by have := S3.out.2.2.2.1; have := hb34.size; have := hF5.size; omega⟩
  have HX := hid hX
  clear hP5 hF5 hX
  go_wp2_with fail
  go_loopg [76] n (fun q i wx => ∃ j : Nat, j + q = n ∧ i = .int .i64 (j : Nat) ∧ Hid (∃ a P L E, XSt w cn nn fk D0 a0.gl a0.gd a0.gp (some ⟨gW, 0, none⟩) wx j a P L E))
  case atStart => exact ⟨0, by omega, rfl, _, _, _, _, HX.out⟩
  case round =>
    obtain ⟨j, hj, rfl, hI⟩ := hrel
    obtain ⟨a, P, L, E, hS⟩ := hI.out
    have HS := hid hS
    by_cases hlt : j < n
    · have hlt2 : (j : Int) < (n : Int) := by omega
      obtain ⟨ob, oo, rfl, hob, hops⟩ := HO.out (by omega)
      obtain ⟨kd, N, IA, il, ic, FA, fl, fc, bs, q1, q2, q3, q4, hkw, hNw, hrd⟩ := hops j hlt
      have hil := HLen.out ob oo rfl j hlt IA il ic q3
      have c1 := (hS.below.cell (p := ⟨ob, oo + j * 4, none⟩) hob).trans q1
      have c2 := (hS.below.cell (p := ⟨ob, oo + j * 4 + 1, none⟩) hob).trans q2
      have c3 := (hS.below.cell (p := ⟨ob, oo + j * 4 + 2, none⟩) hob).trans q3
      have c4 := (hS.below.cell (p := ⟨ob, oo + j * 4 + 3, none⟩) hob).trans q4
      have HR : Aside (RdB w IA il bs ∧ wf64 N ∧ il ≤ 140737488351232) := ⟨hrd, hNw, hil⟩
      clear hI hS hops hrd hNw q1 q2 q3 q4 hob hil hkw
      by_cases hk6 : kd = 6
      · subst hk6
        go_wp2_with fail
        go_roundg (n - 1 - j)
        case rel => exact ⟨j + 1, by omega, by go_num, _, _, _, _, (HS.out.below' (bl_alloc (Below.refl _ _) _)).more⟩
        case measure => omega
      have e6 : (kd == 6) = false := by simpa using hk6
      by_cases hk7 : kd = 7
      · subst hk7
        clear hk6
        go_wp2_with fail
        go_roundg (n - 1 - j)
        case rel => exact ⟨j + 1, by omega, by go_num, _, _, _, _, (HS.out.below' (bl_alloc (Below.refl _ _) _)).more⟩
        case measure => omega
      have e7 : (kd == 7) = false := by simpa using hk7
      have HK6 := hid hk6
      clear hk7 hk6
      have hS4 := HS.out.below' (bl_alloc (Below.refl _ _) (.cells #[.int .i64 kd, .int .i64 N, .slice IA il ic, .slice FA fl fc] 57))
      have ha := hS4.asks kd N IA il ic FA fl fc bs HC.out.2.2 HN.out.2 (by omega) HR.out.2.1 HK6.out HR.out.1 HR.out.2.2
      go_wp2_with fail
      refine ha.mono ?_
      rintro e w5 ⟨⟨v, rfl⟩, a5, P5, L5, D5, h5⟩
      have hah := h5.ahead (wc := wc) HC.out.1.2 S2.out.2.2.2.2.2.2.1 S2.out.2.2.2.2.2.2.2
      rw [HMs.out.1] at hah
      have S5 := hid h5
      clear h5 ha hS4 c1 c2 c3 c4
      go_wp2_with fail
      refine hah.mono ?_
      rintro e w6 ⟨rfl, hb6⟩
      have h6 := S5.out.below' hb6
      have hst := dsteps_any a5.gd a5.gs a5.gm D5 w6 h6.st.ld.disk
      rw [h6.ad] at hst
      clear hah hb6
      rcases h6.out with ⟨hlt6, E6, hE6, hX6⟩ | ⟨hdead, hs6⟩
      · obtain ⟨s, hs⟩ : ∃ s, D5.steps = s := ⟨_, rfl⟩
        rw [hs] at hst hlt6
        have dS : decide (nn ≤ s) = false := by simpa using hlt6
        have S6 := hid hX6
        clear h6 hE6 hX6 hs hlt6
        go_wp2_with fail
        refine hst.mono ?_
        rintro e w' ⟨rfl, rfl⟩
        clear hst
        go_wp2_with fail
        go_roundg (n - 1 - j)
        case rel => exact ⟨j + 1, by omega, by go_num, _, _, _, _, S6.out⟩
        case measure => omega
      · rw [hs6] at hst
        have dS : decide (nn ≤ nn) = true := by simp
        have dT : decide (nn < nn) = false := by simp
        have S6 : Aside (PSt w6 a5 P5 L5 D5 ∧ P5.dead = true ∧ Below w.heap.size w w6 ∧ D5.steps = nn ∧ a5.gd = a0.gd) := ⟨h6.st, hdead, h6.below, hs6, h6.ad⟩
        have hg := cget_dead a5 P5 L5 D5 0 w6 h6.st hdead
        rw [h6.ap] at hg
        have hap := hid h6.ap
        have h1 := one_any none 0 0 [] w6 (RdB.nil _ _)
        clear h6 hdead hs6
        go_wp2_with fail
        refine hst.mono ?_
        rintro e w' ⟨rfl, rfl⟩
        go_wp2_with fail
        refine hst.mono ?_
        rintro e w' ⟨rfl, rfl⟩
        go_wp2_with fail
        refine hst.mono ?_
        rintro e w' ⟨rfl, rfl⟩
        go_wp2_with fail
        refine hg.mono ?_
        rintro e w' ⟨rfl, rfl⟩
        clear hst hg
        go_wp2_with fail
        refine h1.mono ?_
        rintro e w7 ⟨g7, rfl, -, hb7⟩
        have hP7 := S6.out.1.below hb7
        have hu := cput_dead a5 P5 L5 D5 0 (.pointer (some ⟨g7, 0, none⟩)) (.int .i64 1) w7 hP7 S6.out.2.1
        have hi := cpin_dead a5 P5 L5 D5 0 w7 hP7 S6.out.2.1
        have hf := cflush_dead a5 P5 L5 D5 w7 hP7 S6.out.2.1
        have hst := dsteps_any a5.gd a5.gs a5.gm D5 w7 hP7.ld.disk
        rw [S6.out.2.2.2.1, S6.out.2.2.2.2] at hst
        rw [hap.out] at hu hi hf
        have S7 : Aside (Below w.heap.size w w7) := ⟨S6.out.2.2.1.trans (hb7.mono S6.out.2.2.1.size)⟩
        clear hP7 hb7 h1
        go_wp2_with fail
        refine hu.mono ?_
        rintro e w' ⟨rfl, rfl⟩
        go_wp2_with fail
        refine hi.mono ?_
        rintro e w' ⟨rfl, rfl⟩
        go_wp2_with fail
        refine hf.mono ?_
        rintro e w' ⟨rfl, rfl⟩
        go_wp2_with fail
        refine hst.mono ?_
        rintro e w' ⟨rfl, rfl⟩
        go_wp2_with fail
        go_ret
        exact ⟨by simp, S7.out⟩
    · have hjn : ¬ (j : Int) < (n : Int) := by omega
      have hst := dsteps_any a.gd a.gs a.gm _ wr hS.st.ld.disk
      rw [hS.gd] at hst
      have hlt6 : E.steps < nn := hS.liv.lt
      obtain ⟨s, hs⟩ : ∃ s, E.steps = s := ⟨_, rfl⟩
      have hs' : (E.under [(nn, fk)]).steps = s := hs
      rw [hs'] at hst
      rw [hs] at hlt6
      have dS : decide (s < nn) = true := by simpa using hlt6
      clear hI hS hlt hs hs' hlt6
      go_wp2_with fail
      refine hst.mono ?_
      rintro e w' ⟨rfl, rfl⟩
      clear hst
      go_wp2_with fail
      go_ret
      exact ⟨rfl, HS.out.below⟩
end Go.Proofs.YthfidlhefkjpdaaGreatDoor
