/- CacheAlike: the walk. -/
import Derived.Test.YthfidlhefkjpdaaGreatDoorSbi
import Derived.Deep.RegionHeld3
import Derived.Deep.RegionLaw
import Derived.BigRegion
namespace Go.Proofs.YthfidlhefkjpdaaGreatDoor
open Go.RowKit Go.Maps

set_option maxRecDepth 100000 in
set_option maxHeartbeats 2000000 in
theorem cacheAlike_any (f1 f2 : Int) (A : Option Addr) (n c : Nat) (w : World) (hO : RdOps w A n) (hn : n ≤ 2199023255552) :
    Calls Tryz.prog 5 #[.int .i64 f1, .int .i64 f2, .slice A n c] w fun e w' => e = .returned (.bool true) ∧ Below w.heap.size w w' := by
  obtain ⟨m1, hm1⟩ : ∃ m1 : Nat, (m1 : Int) = min (max f1 1) 64 := ⟨(min (max f1 1) 64).toNat, by omega⟩
  obtain ⟨m2, hm2⟩ : ∃ m2 : Nat, (m2 : Int) = min (max f2 1) 64 := ⟨(min (max f2 1) 64).toNat, by omega⟩
  have hal := alive_any w
  have HO := hid hO
  have HM : Aside (((m1 : Int) = min (max f1 1) 64 ∧ 1 ≤ m1 ∧ m1 ≤ 64) ∧ ((m2 : Int) = min (max f2 1) 64 ∧ 1 ≤ m2 ∧ m2 ≤ 64)) := ⟨⟨hm1, by omega, by omega⟩, ⟨hm2, by omega, by omega⟩⟩
  clear hO hm1 hm2
  go_enter Tryz.func5, Tryz.ntmps5
  go_wp2_with fail
  refine hal.mono ?_
  rintro e w1 ⟨rfl, hb1⟩
  have S1 : Aside (Below w.heap.size w w1) := ⟨hb1⟩
  clear hb1 hal
  have hmd := lawmade_any none 0 0 [] 8 f1 m1 w1 (RdB.nil _ _) (by omega) (by omega) HM.out.1.1
  rw [show ((8 : Nat) : Int) = 8 from rfl] at hmd
  go_wp2_with fail
  refine hmd.mono ?_
  rintro e w2 ⟨a0, rfl, hP2, hfar2, hma2, -, hb2⟩
  have hH2 := half_made m1 HM.out.1.2.1 HM.out.1.2.2 a0 w.heap.size hma2 (fun b hb => by have := hfar2 b hb; have := S1.out.size; omega)
  have S2 : Aside (PSt w2 a0 (madeP 8 m1) madeL (madeD [] 8) ∧ Half w.heap.size a0 (madeP 8 m1) madeL (madeD [] 8) a0.gl a0.gd a0.gp 0 0 (fun _ => zeros 512) ∧ Below w.heap.size w w2) := ⟨hP2, hH2, S1.out.trans (hb2.mono S1.out.size)⟩
  clear hP2 hfar2 hma2 hb2 hH2 hmd
  have hmd := lawmade_any none 0 0 [] 8 f2 m2 w2 (RdB.nil _ _) (by omega) (by omega) HM.out.2.1
  rw [show ((8 : Nat) : Int) = 8 from rfl] at hmd
  go_wp2_with fail
  refine hmd.mono ?_
  rintro e w3 ⟨b0, rfl, hP3, hfar3, hma3, -, hb3⟩
  have hH3 := half_made m2 HM.out.2.2.1 HM.out.2.2.2 b0 w.heap.size hma3 (fun b hb => by have := hfar3 b hb; have := S2.out.2.2.size; omega)
  have hTw := Two.made S2.out.1 hb3 hP3 hfar3 rfl
  have S3 : Aside (Two w3 { a0 with ov := b0.sv } (madeP 8 m1) madeL (madeD [] 8) { b0 with ov := a0.sv } (madeP 8 m2) madeL (madeD [] 8) ∧ Half w.heap.size { b0 with ov := a0.sv } (madeP 8 m2) madeL (madeD [] 8) b0.gl b0.gd b0.gp 0 0 (fun _ => zeros 512) ∧ Below w.heap.size w w3) := ⟨hTw, hH3.ov _, S2.out.2.2.trans (hb3.mono S2.out.2.2.size)⟩
  clear hP3 hfar3 hma3 hb3 hH3 hTw hmd
  go_wp2_with fail
  go_loopg [61] n (fun q i wx => ∃ j : Nat, j + q = n ∧ i = .int .i64 (j : Nat) ∧ j ≤ 61 ∧ Hid (∃ a P L D b Q M E x F, Two wx a P L D b Q M E ∧ Half w.heap.size a P L D a0.gl a0.gd a0.gp (3 * j) x F ∧ Half w.heap.size b Q M E b0.gl b0.gd b0.gp (3 * j) x F ∧ Below w.heap.size w wx))
  case atStart => exact ⟨0, by omega, rfl, by omega, _, _, _, _, _, _, _, _, _, _, S3.out.1, S2.out.2.1.ov _, S3.out.2.1, S3.out.2.2⟩
  case round =>
    obtain ⟨j, hj, rfl, hj61, hI⟩ := hrel
    obtain ⟨a, P, L, D, b, Q, M, E, x, F, hT, hA, hB, hbw⟩ := hI.out
    have HS : Aside (Two wr a P L D b Q M E ∧ Half w.heap.size a P L D a0.gl a0.gd a0.gp (3 * j) x F ∧ Half w.heap.size b Q M E b0.gl b0.gd b0.gp (3 * j) x F ∧ Below w.heap.size w wr) := ⟨hT, hA, hB, hbw⟩
    clear hI hT hA hB hbw
    by_cases hgo : j < n ∧ j ≤ 60
    · obtain ⟨hlt, h60⟩ := hgo
      have hlt2 : (j : Int) < (n : Int) := by omega
      have d60 : decide ((60 : Int) < (j : Int)) = false := by simp; omega
      obtain ⟨ob, oo, rfl, hob, hops⟩ := HO.out (by omega)
      obtain ⟨kd, N, IA, il, ic, FA, fl, fc, bs, q1, q2, q3, q4, hkw, hNw, hrd⟩ := hops j hlt
      have hbw := HS.out.2.2.2
      have c1 := (hbw.cell (p := ⟨ob, oo + j * 4, none⟩) hob).trans q1
      have c2 := (hbw.cell (p := ⟨ob, oo + j * 4 + 1, none⟩) hob).trans q2
      have c3 := (hbw.cell (p := ⟨ob, oo + j * 4 + 2, none⟩) hob).trans q3
      have c4 := (hbw.cell (p := ⟨ob, oo + j * 4 + 3, none⟩) hob).trans q4
      have HR : Aside (RdB w IA il bs ∧ wf64 N) := ⟨hrd, hNw⟩
      clear hops hrd hNw q1 q2 q3 q4 hob hkw hbw
      have b4 : ∀ v, Below wr.heap.size wr (wr.alloc v) := fun v => bl_alloc (Below.refl _ _) _
      by_cases hk1 : kd = 1
      · subst hk1
        have hT4 := HS.out.1.below (b4 (.cells #[.int .i64 1, .int .i64 N, .slice IA il ic, .slice FA fl fc] 57))
        have hb14 := alloc_new wr (.cells #[.int .i64 1, .int .i64 N, .slice IA il ic, .slice FA fl fc] 57)
        have hbw4 := HS.out.2.2.2.trans ((b4 (.cells #[.int .i64 1, .int .i64 N, .slice IA il ic, .slice FA fl fc] 57)).mono HS.out.2.2.2.size)
        have hla : ∀ y, aT a y → y < wr.heap.size := fun y hy => HS.out.1.st1.lt hy
        have hlb : ∀ y, aT b y → y < wr.heap.size := fun y hy => HS.out.1.st2.lt hy
        obtain ⟨w4, hw4⟩ : ∃ w4, wr.alloc (.cells #[.int .i64 1, .int .i64 N, .slice IA il ic, .slice FA fl fc] 57) = w4 := ⟨_, rfl⟩
        have hz4 : w4.heap.size = wr.heap.size + 1 := by rw [← hw4]; simp
        rw [hw4] at hT4 hb14 hbw4
        obtain ⟨g14, hg14⟩ : ∃ g14, wr.heap.size = g14 := ⟨_, rfl⟩
        rw [hg14] at hb14 hla hlb hz4
        have hg1 := cget_all a P L D N w4 hT4.st1 HS.out.2.1.inv HS.out.2.1.nopin (by have := HS.out.2.1.ma; omega) (by have := HS.out.2.1.steps; omega)
        rw [HS.out.2.1.gp, HS.out.2.1.cnt] at hg1
        have S4 : Aside (Two w4 a P L D b Q M E ∧ w4.heap[g14]? = some (.cells #[.int .i64 1, .int .i64 N, .slice IA il ic, .slice FA fl fc] 57 (0, 0)) ∧ Below w.heap.size w w4 ∧ (∀ y, aT a y → y < g14) ∧ (∀ y, aT b y → y < g14) ∧ w4.heap.size = g14 + 1) := ⟨hT4, hb14, hbw4, hla, hlb, hz4⟩
        have HW4 := hid hw4
        have HG := hid hg14
        clear hT4 hb14 hbw4 hla hlb hw4 b4 hz4 hg14
        rcases hg1 with ⟨Nn, rfl, hNn, hc⟩ | ⟨hout, hc⟩
        · go_wp2_with fail
          rw [HW4.out, HG.out]
          refine hc.mono ?_
          rintro e w5 ⟨a5, g5, q5, P5, L5, D5, rfl, hP5, ⟨base5, hG5, hbs5, -⟩, hq5, hpg5, hK5, hpin5, hF5, hA5⟩
          have hn14 : ¬ aT a g14 := fun hh => by have := S4.out.2.2.2.1 g14 hh; omega
          have hb14 := (hF5.block g14 (by rw [S4.out.2.2.2.2.2]; omega) hn14).trans S4.out.2.1
          have c5 := (show Blk w5 g14 57 _ from hb14).cell 1
          simp only [List.getElem?_toArray, List.getElem?_cons_succ, List.getElem?_cons_zero] at c5
          have hT5 := S4.out.1.left hP5 hF5 hA5
          have hA5' := HS.out.2.1.kp hK5 hpin5 hA5 (by omega) S4.out.2.2.1.size
          have hB5 := HS.out.2.2.1.ov a5.sv
          have hlb5 : ∀ y, aT ({ b with ov := a5.sv } : Ad) y → y < g14 := S4.out.2.2.2.2.1
          obtain ⟨b5, hb5⟩ : ∃ b5, ({ b with ov := a5.sv } : Ad) = b5 := ⟨_, rfl⟩
          rw [hb5] at hT5 hB5 hlb5
          have hg2 := cget_all b5 Q M E (Nn : Int) w5 hT5.st2 hB5.inv hB5.nopin (by have := hB5.ma; omega) (by have := hB5.steps; omega)
          rw [hB5.gp, hB5.cnt] at hg2
          have hbw5 := S4.out.2.2.1.trans (hF5.below S4.out.2.2.1.size HS.out.2.1.far)
          have S5 : Aside (Two w5 a5 P5 L5 D5 b5 Q M E ∧ Half w.heap.size a5 P5 L5 D5 a0.gl a0.gd a0.gp (3 * j + 1) x F ∧ Half w.heap.size b5 Q M E b0.gl b0.gd b0.gp (3 * j) x F ∧ Below w.heap.size w w5) := ⟨hT5, hA5', hB5, hbw5⟩
          have G5 : Aside (PageAt w5 base5 g5 q5 ∧ q5.wf ∧ pageOf (F Nn) = some q5 ∧ (∀ y, aT b5 y → y < base5)) := ⟨hG5, hq5, by rw [← HS.out.2.1.lc Nn hNn]; exact hpg5, fun y hy => by have := hlb5 y hy; have := S4.out.2.2.2.2.2; omega⟩
          clear hP5 hG5 hbs5 hq5 hpg5 hK5 hpin5 hF5 hA5 hn14 hb14 hT5 hA5' hB5 hlb5 hb5 hbw5 hc HW4 HG
          rcases hg2 with ⟨N2, hN2, hN2l, hc2⟩ | ⟨hout, -⟩
          · obtain rfl : Nn = N2 := by omega
            go_wp2_with fail
            refine hc2.mono ?_
            rintro e w6 ⟨b6, g6, q6, Q6, M6, E6, rfl, hP6, ⟨base6, hG6, hbs6, -⟩, hq6, hpg6, hK6, hpin6, hF6, hA6⟩
            obtain rfl : q5 = q6 := by
              rw [S5.out.2.2.1.lc Nn hNn, G5.out.2.2.1] at hpg6
              exact Option.some.inj hpg6
            have hT6 := S5.out.1.right hP6 hF6 hA6
            have hB6 := S5.out.2.2.1.kp hK6 hpin6 hA6 (by omega) S5.out.2.2.2.size
            have hbw6 := S5.out.2.2.2.trans (hF6.below S5.out.2.2.2.size S5.out.2.2.1.far)
            have hG56 := G5.out.1.far hF6 G5.out.2.2.2
            have hby := bytes_any base5 g5 q5 w6 hG56 G5.out.2.1
            have S6 : Aside (Two w6 { a5 with ov := b6.sv } P5 L5 D5 b6 Q6 M6 E6 ∧ Half w.heap.size b6 Q6 M6 E6 b0.gl b0.gd b0.gp (3 * j + 1) x F ∧ Below w.heap.size w w6 ∧ PageAt w6 base6 g6 q5 ∧ q5.wf) := ⟨hT6, hB6, hbw6, hG6, hq6⟩
            clear hP6 hG6 hbs6 hq6 hpg6 hK6 hpin6 hF6 hA6 hT6 hB6 hbw6 hG56 hc2 c5
            go_wp2_with fail
            refine hby.mono ?_
            rintro e w7 ⟨g7, cap7, rfl, hown7, hb7⟩
            have hby2 := bytes_any base6 g6 q5 w7 (S6.out.2.2.2.1.below hb7) S6.out.2.2.2.2
            have S7 : Aside (RdB w7 (some ⟨g7, 0, none⟩) 512 (bytesP q5) ∧ Below w6.heap.size w6 w7) := ⟨RdB.of_own hown7, hb7⟩
            clear hown7 hb7 hby
            go_wp2_with fail
            refine hby2.mono ?_
            rintro e w8 ⟨g8, cap8, rfl, hown8, hb8⟩
            have hsm := same_any (some ⟨g7, 0, none⟩) (some ⟨g8, 0, none⟩) 512 cap7 cap8 (bytesP q5) w8 (S7.out.1.below hb8) (RdB.of_own hown8) (by omega)
            have S8 := hid (S7.out.2.trans (hb8.mono S7.out.2.size))
            clear hown8 hb8 hby2
            go_wp2_with fail
            refine hsm.mono ?_
            rintro e w9 ⟨rfl, hb9⟩
            have S9 := hid (S8.out.trans (hb9.mono S8.out.size))
            clear hsm hb9
            go_wp2_with fail
            go_roundg (n - 1 - j)
            case rel => exact ⟨j + 1, by omega, by go_num, by omega, _, _, _, _, _, _, _, _, _, _, S6.out.1.below S9.out, (S5.out.2.1.ov b6.sv).more.more, S6.out.2.1.more.more, S6.out.2.2.1.trans (S9.out.mono S6.out.2.2.1.size)⟩
            case measure => omega
          · exact absurd hout (by omega)
        · have c5 := (show Blk w4 g14 57 _ from S4.out.2.1).cell 1
          simp only [List.getElem?_toArray, List.getElem?_cons_succ, List.getElem?_cons_zero] at c5
          have hg2 := cget_all b Q M E N w4 S4.out.1.st2 HS.out.2.2.1.inv HS.out.2.2.1.nopin (by have := HS.out.2.2.1.ma; omega) (by have := HS.out.2.2.1.steps; omega)
          rw [HS.out.2.2.1.gp, HS.out.2.2.1.cnt] at hg2
          rcases hg2 with ⟨N2, rfl, hN2l, -⟩ | ⟨-, hc2⟩
          · exact absurd hout (by omega)
          · clear hout
            go_wp2_with fail
            rw [HW4.out, HG.out]
            clear HW4
            refine hc.mono ?_
            rintro e w5 ⟨rfl, hw5⟩
            subst hw5
            go_wp2_with fail
            refine hc2.mono ?_
            rintro e w6 ⟨rfl, hw6⟩
            subst hw6
            clear hc hc2 c5
            go_wp2_with fail
            go_roundg (n - 1 - j)
            case rel => exact ⟨j + 1, by omega, by go_num, by omega, _, _, _, _, _, _, _, _, _, _, S4.out.1, HS.out.2.1.more.more.more, HS.out.2.2.1.more.more.more, S4.out.2.2.1⟩
            case measure => omega
      by_cases hk2 : kd = 2
      · subst hk2
        have hT4 := HS.out.1.below (b4 (.cells #[.int .i64 2, .int .i64 N, .slice IA il ic, .slice FA fl fc] 57))
        have hb14 := alloc_new wr (.cells #[.int .i64 2, .int .i64 N, .slice IA il ic, .slice FA fl fc] 57)
        have hbw4 := HS.out.2.2.2.trans ((b4 (.cells #[.int .i64 2, .int .i64 N, .slice IA il ic, .slice FA fl fc] 57)).mono HS.out.2.2.2.size)
        have hla : ∀ y, aT a y → y < wr.heap.size := fun y hy => HS.out.1.st1.lt hy
        have hlb : ∀ y, aT b y → y < wr.heap.size := fun y hy => HS.out.1.st2.lt hy
        obtain ⟨w4, hw4⟩ : ∃ w4, wr.alloc (.cells #[.int .i64 2, .int .i64 N, .slice IA il ic, .slice FA fl fc] 57) = w4 := ⟨_, rfl⟩
        have hz4 : w4.heap.size = wr.heap.size + 1 := by rw [← hw4]; simp
        rw [hw4] at hT4 hb14 hbw4
        obtain ⟨g14, hg14⟩ : ∃ g14, wr.heap.size = g14 := ⟨_, rfl⟩
        rw [hg14] at hb14 hla hlb hz4
        have hap := lappend_st a P L D 1 none 0 0 [] w4 hT4.st1 HS.out.2.1.inv.ok.lw HS.out.2.1.old HS.out.2.1.inv.ok.ld (by omega) (by omega) (RdB.nil _ _) (fun b o h0 => by omega) (by omega) (by
          have h1 := HS.out.2.1.nrec; have h2 := HS.out.2.1.inv.ok.lw.len; have h3 := HS.out.2.1.lcnt; omega)
        rw [HS.out.2.1.gl, show ((1 : Nat) : Int) = 1 from rfl, HS.out.2.1.len] at hap
        have S4 : Aside (Two w4 a P L D b Q M E ∧ w4.heap[g14]? = some (.cells #[.int .i64 2, .int .i64 N, .slice IA il ic, .slice FA fl fc] 57 (0, 0)) ∧ Below w.heap.size w w4 ∧ (∀ y, aT a y → y < g14) ∧ (∀ y, aT b y → y < g14) ∧ w4.heap.size = g14 + 1) := ⟨hT4, hb14, hbw4, hla, hlb, hz4⟩
        have HW4 := hid hw4
        have HG := hid hg14
        clear hT4 hb14 hbw4 hla hlb hw4 b4 hz4 hg14 hk1
        by_cases hfull : x + (0 + 2) ≤ 4 * 498
        · obtain ⟨X, hX⟩ : ∃ X : Nat, X = 2 * 16777216 + x := ⟨_, rfl⟩
          have hl1 : L.lsn x = (X : Int) := by unfold Lg.lsn; rw [HS.out.2.1.run, hX]
          have hl2 : M.lsn x = (X : Int) := by unfold Lg.lsn; rw [HS.out.2.2.1.run, hX]
          have hX2 : X ≤ 9223372036854775807 := by omega
          clear hX
          rw [hl1] at hap
          go_wp2_with fail
          rw [HW4.out, HG.out]
          clear HW4
          refine hap.mono ?_
          rintro e w5 ⟨hap1, -⟩
          obtain ⟨rfl, a5, hP5, hF5, hA5⟩ := hap1 (by rw [HS.out.2.1.lcnt]; exact hfull)
          have hn14 : ¬ aT a g14 := fun hh => by have := S4.out.2.2.2.1 g14 hh; omega
          have hb14 := (hF5.block g14 (by rw [S4.out.2.2.2.2.2]; omega) hn14).trans S4.out.2.1
          have hT5 := S4.out.1.left hP5 hF5 hA5
          have hA5' := HS.out.2.1.append _ (show (recL 1 0 []).length = 2 from rfl) (by omega) hA5 (by omega) S4.out.2.2.1.size
          have hB5 := HS.out.2.2.1.ov a5.sv
          have hlb5 : ∀ y, aT ({ b with ov := a5.sv } : Ad) y → y < g14 := S4.out.2.2.2.2.1
          obtain ⟨b5, hb5⟩ : ∃ b5, ({ b with ov := a5.sv } : Ad) = b5 := ⟨_, rfl⟩
          rw [hb5] at hT5 hB5 hlb5
          obtain ⟨L5, hL5⟩ : ∃ L5, ({ L with stream := L.stream ++ recL 1 0 [], nrec := L.nrec + 1 } : Lg) = L5 := ⟨_, rfl⟩
          rw [hL5] at hT5 hA5'
          have hap2 := lappend_st b5 Q M E 1 none 0 0 [] w5 hT5.st2 hB5.inv.ok.lw hB5.old hB5.inv.ok.ld (by omega) (by omega) (RdB.nil _ _) (fun b o h0 => by omega) (by omega) (by
            have h1 := hB5.nrec; have h2 := hB5.inv.ok.lw.len; have h3 := hB5.lcnt; omega)
          rw [hB5.gl, show ((1 : Nat) : Int) = 1 from rfl, hB5.len, hl2] at hap2
          have S5 : Aside (Two w5 a5 P L5 D b5 Q M E ∧ Half w.heap.size a5 P L5 D a0.gl a0.gd a0.gp (3 * j + 1) (x + 2) F ∧ Half w.heap.size b5 Q M E b0.gl b0.gd b0.gp (3 * j) x F ∧ Below w.heap.size w w5 ∧ (∀ y, aT b5 y → y < g14) ∧ w5.heap[g14]? = some (.cells #[.int .i64 2, .int .i64 N, .slice IA il ic, .slice FA fl fc] 57 (0, 0))) := ⟨hT5, hA5', hB5, S4.out.2.2.1.trans (hF5.below S4.out.2.2.1.size HS.out.2.1.far), hlb5, hb14⟩
          have hna5 : ¬ aT a5 g14 := fun hh => hn14 (hA5.foot g14 (by rw [S4.out.2.2.2.2.2]; omega) hh)
          clear hP5 hF5 hA5 hn14 hb14 hT5 hA5' hB5 hlb5 hb5 hL5 hap hap1 hl1 hl2
          go_wp2_with fail
          refine hap2.mono ?_
          rintro e w6 ⟨hap1, -⟩
          obtain ⟨rfl, b6, hP6, hF6, hA6⟩ := hap1 (by rw [S5.out.2.2.1.lcnt]; exact hfull)
          have hn14 : ¬ aT b5 g14 := fun hh => by have := S5.out.2.2.2.2.1 g14 hh; omega
          have hb14 := (hF6.block g14 (by have := (Array.getElem?_eq_some_iff.1 S5.out.2.2.2.2.2).1; omega) hn14).trans S5.out.2.2.2.2.2
          have hT6 := S5.out.1.right hP6 hF6 hA6
          have hB6 := S5.out.2.2.1.append _ (show (recL 1 0 []).length = 2 from rfl) (by omega) hA6 (by omega) S5.out.2.2.2.1.size
          have hbw6 := S5.out.2.2.2.1.trans (hF6.below S5.out.2.2.2.1.size S5.out.2.2.1.far)
          have hA6' := S5.out.2.1.ov b6.sv
          obtain ⟨a6, ha6⟩ : ∃ a6, ({ a5 with ov := b6.sv } : Ad) = a6 := ⟨_, rfl⟩
          have hna6 : ¬ aT ({ a5 with ov := b6.sv } : Ad) g14 := hna5
          rw [ha6] at hT6 hA6' hna6
          clear hna5
          obtain ⟨M6, hM6⟩ : ∃ M6, ({ M with stream := M.stream ++ recL 1 0 [], nrec := M.nrec + 1 } : Lg) = M6 := ⟨_, rfl⟩
          rw [hM6] at hT6 hB6
          have S6 : Aside (Two w6 a6 P L5 D b6 Q M6 E ∧ Half w.heap.size a6 P L5 D a0.gl a0.gd a0.gp (3 * j + 1) (x + 2) F ∧ Half w.heap.size b6 Q M6 E b0.gl b0.gd b0.gp (3 * j + 1) (x + 2) F ∧ Below w.heap.size w w6 ∧ w6.heap[g14]? = some (.cells #[.int .i64 2, .int .i64 N, .slice IA il ic, .slice FA fl fc] 57 (0, 0)) ∧ g14 < w6.heap.size) := ⟨hT6, hA6', hB6, hbw6, hb14, (Array.getElem?_eq_some_iff.1 hb14).1⟩
          have hnb6 : ¬ aT b6 g14 := fun hh => hn14 (hA6.foot g14 (by have := (Array.getElem?_eq_some_iff.1 S5.out.2.2.2.2.2).1; omega) hh)
          clear hP6 hF6 hA6 hn14 hT6 hA6' hB6 hbw6 ha6 hM6 hap2 hap1 hfull
          have HN14 : Aside (¬ aT a6 g14 ∧ ¬ aT b6 g14) := ⟨hna6, hnb6⟩
          clear hna6 hnb6
          have HO2 : Aside (∀ W W0, Below w.heap.size w W0 → Below W0.heap.size W0 W → Calls Tryz.prog 13 #[.slice IA il ic] W fun e w' => ∃ g, e = .returned (.pointer (some ⟨g, 0, none⟩)) ∧ PageAt w' W0.heap.size g (oneP bs) ∧ Below W0.heap.size W0 w') := ⟨fun W W0 h0 h1 => by
            have hr := ((HR.out.1.below h0).below h1)
            refine (one_any IA il ic bs W hr).mono ?_
            rintro e w' ⟨g, rfl, hp, hb⟩
            exact ⟨g, rfl, hp.mono h1.size, h1.trans (hb.mono h1.size)⟩⟩
          have HO : Aside (∀ W W0, Below w6.heap.size w6 W0 → Below W0.heap.size W0 W → Calls Tryz.prog 13 #[.slice IA il ic] W fun e w' => ∃ g, e = .returned (.pointer (some ⟨g, 0, none⟩)) ∧ PageAt w' W0.heap.size g (oneP bs) ∧ Below W0.heap.size W0 w') := ⟨fun W W0 h0 h1 => by
            have hr := (((HR.out.1.below (S6.out.2.2.2.1)).below h0).below h1)
            refine (one_any IA il ic bs W hr).mono ?_
            rintro e w' ⟨g, rfl, hp, hb⟩
            exact ⟨g, rfl, hp.mono h1.size, h1.trans (hb.mono h1.size)⟩⟩
          have HP : Aside (∀ W base g, Two W a6 P L5 D b6 Q M6 E → PageAt W base g (oneP bs) → w6.heap.size ≤ base → Below w.heap.size w W → Calls Tryz.prog 12 #[.pointer (some ⟨a0.gp, 0, none⟩), .int .i64 N, .pointer (some ⟨g, 0, none⟩), .int .i64 (X : Int)] W fun e w' => e = .returned (.int .i64 (rOf N)) ∧ ∃ a7 P7 L7 D7 b7, Two w' a7 P7 L7 D7 b7 Q M6 E ∧ Half w.heap.size a7 P7 L7 D7 a0.gl a0.gd a0.gp (3 * j + 2) (x + 2) (pagF F N (bytesP { oneP bs with lsn := (X : Int) })) ∧ Half w.heap.size b7 Q M6 E b0.gl b0.gd b0.gp (3 * j + 1) (x + 2) F ∧ ((∀ y, aT b7 y → y < w6.heap.size) ∧ ¬ aT b7 g14) ∧ Fr (aT a6) W w') := ⟨fun W base g hT hg hbs hbW => by
            refine (hput N base g X bs W hT.st1 S6.out.2.1 (by omega) hg (fun y hy => by have := S6.out.1.st1.lt hy; omega) hX2 hbW.size).mono ?_
            rintro e w' ⟨rfl, a7, P7, L7, D7, h1, h2, h3, h4⟩
            exact ⟨rfl, a7, P7, L7, D7, _, hT.left h1 h3 h4, h2, S6.out.2.2.1.ov a7.sv, ⟨fun y hy => S6.out.1.st2.lt (b := y) hy, HN14.out.2⟩, h3⟩⟩
          have HQ : Aside (∀ W base g a7 P7 L7 D7 b7, Two W a7 P7 L7 D7 b7 Q M6 E → Half w.heap.size b7 Q M6 E b0.gl b0.gd b0.gp (3 * j + 1) (x + 2) F → (∀ y, aT b7 y → y < w6.heap.size) → PageAt W base g (oneP bs) → w6.heap.size ≤ base → Below w.heap.size w W → Calls Tryz.prog 12 #[.pointer (some ⟨b0.gp, 0, none⟩), .int .i64 N, .pointer (some ⟨g, 0, none⟩), .int .i64 (X : Int)] W fun e w' => e = .returned (.int .i64 (rOf N)) ∧ ∃ b8 Q8 M8 E8, Two w' { a7 with ov := b8.sv } P7 L7 D7 b8 Q8 M8 E8 ∧ Half w.heap.size b8 Q8 M8 E8 b0.gl b0.gd b0.gp (3 * j + 2) (x + 2) (pagF F N (bytesP { oneP bs with lsn := (X : Int) })) ∧ Fr (aT b7) W w' ∧ Below w.heap.size w w') := ⟨fun W base g a7 P7 L7 D7 b7 hT hH hlt hg hbs hbW => by
            refine (hput N base g X bs W hT.st2 hH (by omega) hg (fun y hy => by have := hlt y hy; omega) hX2 hbW.size).mono ?_
            rintro e w' ⟨rfl, b8, Q8, M8, E8, h1, h2, h3, h4⟩
            exact ⟨rfl, b8, Q8, M8, E8, hT.right h1 h3 h4, h2, h3, hbW.trans (h3.below hbW.size hH.far)⟩⟩
          have HEo : Aside (∀ args w, (callFunc 13 args).run Tryz.prog w = .ok (.enter 13 args) w) := ⟨enters_of Tryz.func13 (by kernel_rfl) rfl⟩
          have HEp : Aside (∀ args w, (callFunc 12 args).run Tryz.prog w = .ok (.enter 12 args) w) := ⟨enters_of Tryz.func12 (by kernel_rfl) rfl⟩
          have c21 := (show Blk w6 g14 57 _ from hb14).cell 1
          have c22 := (show Blk w6 g14 57 _ from hb14).cell 2
          simp only [List.getElem?_toArray, List.getElem?_cons_succ, List.getElem?_cons_zero] at c21 c22
          have tok1 : True := trivial
          clear hb14
          go_wp2_with fail
          have K6 : Aside (∀ W, Below w6.heap.size w6 W → W.cell? ⟨g14, 1, none⟩ = some (.int .i64 N) ∧ W.cell? ⟨g14, 2, none⟩ = some (.slice IA il ic)) := ⟨fun W hW => ⟨(hW.cell (p := ⟨g14, 1, none⟩) S6.out.2.2.2.2.2).trans c21, (hW.cell (p := ⟨g14, 2, none⟩) S6.out.2.2.2.2.2).trans c22⟩⟩
          go_region_held3 (fun W => W.cell? ⟨g14, 1, none⟩ = some (.int .i64 N) ∧ W.cell? ⟨g14, 2, none⟩ = some (.slice IA il ic))
            (first | exact ⟨c21, c22⟩ | exact K10.out | exact K9.out | exact K8.out | exact K6.out _ S7.out.2)
            (first
            | (have _t := tok1
               go_at_call 13
               (with_reducible refine Calls.mono (HO.out _ w6 (Below.refl _ _) ?_) ?_)
               · exact (by repeat (first | exact Below.refl _ _ | refine bl_drew ?_))
               rintro e w7 ⟨g7, rfl, hG7, hb7⟩
               have S7 : Aside (PageAt w7 w6.heap.size g7 (oneP bs) ∧ Below w6.heap.size w6 w7) := ⟨hG7, hb7⟩
               have tok2 : True := trivial
               clear hG7 hb7 tok1)
            | (have _t := tok2
               go_at_call 12
               have hBW : ∀ W, Below w7.heap.size w7 W → Below w6.heap.size w6 W := fun W hW => S7.out.2.trans (hW.mono S7.out.2.size)
               (with_reducible refine Calls.mono (HP.out _ w6.heap.size g7 (S6.out.1.below (hBW _ ?_)) (S7.out.1.below ?_) (Nat.le_refl _) (S6.out.2.2.2.1.trans ((hBW _ ?_).mono S6.out.2.2.2.1.size))) ?_)
               · exact (by repeat (first | exact Below.refl _ _ | refine bl_drew ?_))
               · exact (by repeat (first | exact Below.refl _ _ | refine bl_drew ?_))
               · exact (by repeat (first | exact Below.refl _ _ | refine bl_drew ?_))
               rintro e w8 ⟨rfl, a7, P7, L7, D7, b7, hT8, hA8, hB8, hlt8, hF8⟩
               have hF78 : Fr (aT a6) w7 w8 := (Fr.of_below (by repeat (first | exact Below.refl _ _ | refine bl_drew ?_)) (aT a6)).trans hF8 (fun _ _ h => h)
               have hz67 := S7.out.2.size
               have hb68 : Below w.heap.size w w8 := (S6.out.2.2.2.1.trans (S7.out.2.mono S6.out.2.2.2.1.size)).trans (hF78.below (Nat.le_trans S6.out.2.2.2.1.size hz67) S6.out.2.1.far)
               have hn14 : ¬ aT a6 g14 := HN14.out.1
               have k8 := (hF78.block g14 (Nat.lt_of_lt_of_le S6.out.2.2.2.2.2 hz67) hn14).trans ((S7.out.2.block g14 S6.out.2.2.2.2.2).trans S6.out.2.2.2.2.1)
               have c31 := (show Blk w8 g14 57 _ from k8).cell 1
               have c32 := (show Blk w8 g14 57 _ from k8).cell 2
               simp only [List.getElem?_toArray, List.getElem?_cons_succ, List.getElem?_cons_zero] at c31 c32
               have K8 : Aside (w8.cell? ⟨g14, 1, none⟩ = some (.int .i64 N) ∧ w8.cell? ⟨g14, 2, none⟩ = some (.slice IA il ic)) := ⟨c31, c32⟩
               have S8 : Aside (Two w8 a7 P7 L7 D7 b7 Q M6 E ∧ Half w.heap.size a7 P7 L7 D7 a0.gl a0.gd a0.gp (3 * j + 2) (x + 2) (pagF F N (bytesP { oneP bs with lsn := (X : Int) })) ∧ Half w.heap.size b7 Q M6 E b0.gl b0.gd b0.gp (3 * j + 1) (x + 2) F ∧ ((∀ y, aT b7 y → y < w6.heap.size) ∧ ¬ aT b7 g14) ∧ Below w.heap.size w w8 ∧ w6.heap.size ≤ w8.heap.size ∧ g14 < w8.heap.size) := ⟨hT8, hA8, hB8, hlt8, hb68, Nat.le_trans hz67 hF78.size, (Array.getElem?_eq_some_iff.1 k8).1⟩
               have tok3 : True := trivial
               clear hBW hT8 hA8 hB8 hlt8 hF8 hF78 hz67 hb68 hn14 k8 c31 c32 tok2)
            | (have _t := tok3
               go_at_call 13
               (with_reducible refine Calls.mono (HO2.out _ w8 S8.out.2.2.2.2.1 ?_) ?_)
               · exact (by repeat (first | exact Below.refl _ _ | refine bl_drew ?_))
               rintro e w9 ⟨g9, rfl, hG9, hb9⟩
               have S9 : Aside (PageAt w9 w8.heap.size g9 (oneP bs) ∧ Below w8.heap.size w8 w9) := ⟨hG9, hb9⟩
               have K9 : Aside (w9.cell? ⟨g14, 1, none⟩ = some (.int .i64 N) ∧ w9.cell? ⟨g14, 2, none⟩ = some (.slice IA il ic)) := ⟨(hb9.cell (p := ⟨g14, 1, none⟩) S8.out.2.2.2.2.2.2).trans K8.out.1, (hb9.cell (p := ⟨g14, 2, none⟩) S8.out.2.2.2.2.2.2).trans K8.out.2⟩
               have tok4 : True := trivial
               clear hG9 hb9 tok3)
            | (have _t := tok4
               go_at_call 12
               have hBW : ∀ W, Below w9.heap.size w9 W → Below w8.heap.size w8 W := fun W hW => S9.out.2.trans (hW.mono S9.out.2.size)
               (with_reducible refine Calls.mono (HQ.out _ w8.heap.size g9 a7 P7 L7 D7 b7 (S8.out.1.below (hBW _ ?_)) S8.out.2.2.1 S8.out.2.2.2.1.1 (S9.out.1.below ?_) S8.out.2.2.2.2.2.1 (S8.out.2.2.2.2.1.trans ((hBW _ ?_).mono S8.out.2.2.2.2.1.size))) ?_)
               · exact (by repeat (first | exact Below.refl _ _ | refine bl_drew ?_))
               · exact (by repeat (first | exact Below.refl _ _ | refine bl_drew ?_))
               · exact (by repeat (first | exact Below.refl _ _ | refine bl_drew ?_))
               rintro e w10 ⟨rfl, b8, Q8, M8, E8, hT10, hB10, hF10, hb10⟩
               have S10 : Aside (Two w10 { a7 with ov := b8.sv } P7 L7 D7 b8 Q8 M8 E8 ∧ Half w.heap.size b8 Q8 M8 E8 b0.gl b0.gd b0.gp (3 * j + 2) (x + 2) (pagF F N (bytesP { oneP bs with lsn := (X : Int) })) ∧ Below w.heap.size w w10) := ⟨hT10, hB10, hb10⟩
               have hF9 : Fr (aT b7) w9 w10 := (Fr.of_below (by repeat (first | exact Below.refl _ _ | refine bl_drew ?_)) (aT b7)).trans hF10 (fun _ _ h => h)
               have hl9 : g14 < w9.heap.size := Nat.lt_of_lt_of_le S8.out.2.2.2.2.2.2 S9.out.2.size
               have K10 : Aside (w10.cell? ⟨g14, 1, none⟩ = some (.int .i64 N) ∧ w10.cell? ⟨g14, 2, none⟩ = some (.slice IA il ic)) := ⟨(World.cell?_of_block (w := w9) (hF9.block g14 hl9 S8.out.2.2.2.1.2)).trans K9.out.1, (World.cell?_of_block (w := w9) (hF9.block g14 hl9 S8.out.2.2.2.1.2)).trans K9.out.2⟩
               clear hBW hT10 hB10 hF10 hF9 hl9 hb10 tok4))
          all_goals
            go_wp2_with fail
            go_roundg (n - 1 - j)
            case rel => exact ⟨j + 1, by omega, by go_num, by omega, _, _, _, _, _, _, _, _, _, _, S10.out.1, (S8.out.2.1.ov b8.sv).more, S10.out.2.1.more, S10.out.2.2⟩
            case measure => omega
        · go_wp2_with fail
          rw [HW4.out, HG.out]
          clear HW4
          refine hap.mono ?_
          rintro e w5 ⟨-, hap1⟩
          obtain ⟨rfl, hP5, hb5⟩ := hap1 (by rw [HS.out.2.1.lcnt]; exact hfull)
          have hT5 := S4.out.1.below hb5
          have hap2 := lappend_st b Q M E 1 none 0 0 [] w5 hT5.st2 HS.out.2.2.1.inv.ok.lw HS.out.2.2.1.old HS.out.2.2.1.inv.ok.ld (by omega) (by omega) (RdB.nil _ _) (fun b o h0 => by omega) (by omega) (by
            have h1 := HS.out.2.2.1.nrec; have h2 := HS.out.2.2.1.inv.ok.lw.len; have h3 := HS.out.2.2.1.lcnt; omega)
          rw [HS.out.2.2.1.gl, show ((1 : Nat) : Int) = 1 from rfl, HS.out.2.2.1.len] at hap2
          have S5 : Aside (Two w5 a P L D b Q M E ∧ Below w.heap.size w w5) := ⟨hT5, S4.out.2.2.1.trans (hb5.mono S4.out.2.2.1.size)⟩
          clear hP5 hb5 hT5 hap hap1
          go_wp2_with fail
          refine hap2.mono ?_
          rintro e w6 ⟨-, hap1⟩
          obtain ⟨rfl, hP6, hb6⟩ := hap1 (by rw [HS.out.2.2.1.lcnt]; exact hfull)
          have S6 : Aside (Two w6 a P L D b Q M E ∧ Below w.heap.size w w6) := ⟨S5.out.1.below hb6, S5.out.2.trans (hb6.mono S5.out.2.size)⟩
          clear hP6 hb6 hap2 hap1 hfull
          go_wp2_with fail
          go_big_region
          all_goals
            go_wp2_with fail
            go_roundg (n - 1 - j)
            case rel => exact ⟨j + 1, by omega, by go_num, by omega, _, _, _, _, _, _, _, _, _, _, S6.out.1.below (by repeat (first | exact Below.refl _ _ | refine bl_drew ?_)), HS.out.2.1.more.more.more, HS.out.2.2.1.more.more.more, S6.out.2.trans (by repeat (first | exact Below.refl _ _ | refine bl_drew ?_))⟩
            case measure => omega
      by_cases hk5 : kd = 5
      · subst hk5
        have hT4 := HS.out.1.below (b4 (.cells #[.int .i64 5, .int .i64 N, .slice IA il ic, .slice FA fl fc] 57))
        have hf1 := cflush_kp a P L D 0 _ hT4.st1 HS.out.2.1.inv (fun q hq => by rw [HS.out.2.1.pins] at hq; cases hq) (by have := HS.out.2.1.ma; omega) (by have := HS.out.2.1.steps; omega)
        rw [HS.out.2.1.gp] at hf1
        have B4 := hid b4
        have HT4 := hid hT4
        clear b4 hT4 hk1 hk2
        go_wp2_with fail
        refine hf1.mono ?_
        rintro e w5 ⟨rfl, P5, L5, D5, hP5, hFl5, -, hF5⟩
        have hT5 := HT4.out.left hP5 hF5 (AdN.refl _ _ 0)
        have hB5 := HS.out.2.2.1.ov a.sv
        obtain ⟨b5, hb5⟩ : ∃ b5, ({ b with ov := a.sv } : Ad) = b5 := ⟨_, rfl⟩
        rw [hb5] at hT5 hB5
        have hf2 := cflush_kp b5 Q M E 0 w5 hT5.st2 hB5.inv (fun q hq => by rw [hB5.pins] at hq; cases hq) (by have := hB5.ma; omega) (by have := hB5.steps; omega)
        rw [hB5.gp] at hf2
        have S5 : Aside (Two w5 a P5 L5 D5 b5 Q M E ∧ Half w.heap.size a P5 L5 D5 a0.gl a0.gd a0.gp (3 * j + 1) x F ∧ Half w.heap.size b5 Q M E b0.gl b0.gd b0.gp (3 * j) x F ∧ Below w.heap.size w w5) := ⟨hT5, HS.out.2.1.flushed hFl5, hB5, (HS.out.2.2.2.trans ((B4.out _).mono HS.out.2.2.2.size)).trans (hF5.below (by have := HS.out.2.2.2.size; simp; omega) HS.out.2.1.far)⟩
        clear hP5 hFl5 hF5 hT5 hf1 hB5 hb5
        go_wp2_with fail
        refine hf2.mono ?_
        rintro e w6 ⟨rfl, Q6, M6, E6, hP6, hFl6, -, hF6⟩
        have S6 : Aside (Two w6 { a with ov := b5.sv } P5 L5 D5 b5 Q6 M6 E6 ∧ Half w.heap.size b5 Q6 M6 E6 b0.gl b0.gd b0.gp (3 * j + 1) x F ∧ Below w.heap.size w w6) := ⟨S5.out.1.right hP6 hF6 (AdN.refl _ _ 0), S5.out.2.2.1.flushed hFl6, S5.out.2.2.2.trans (hF6.below S5.out.2.2.2.size S5.out.2.2.1.far)⟩
        clear hP6 hFl6 hF6 hf2
        go_wp2_with fail
        go_roundg (n - 1 - j)
        case rel => exact ⟨j + 1, by omega, by go_num, by omega, _, _, _, _, _, _, _, _, _, _, S6.out.1, (S5.out.2.1.ov b5.sv).more.more, S6.out.2.1.more.more, S6.out.2.2⟩
        case measure => omega
      · have e1 : (kd == 1) = false := by simpa using hk1
        have e2 : (kd == 2) = false := by simpa using hk2
        have e5 : (kd == 5) = false := by simpa using hk5
        have B4 := hid b4
        clear b4 hk1 hk2 hk5
        go_wp2_with fail
        go_roundg (n - 1 - j)
        case rel => exact ⟨j + 1, by omega, by go_num, by omega, _, _, _, _, _, _, _, _, _, _, HS.out.1.below (B4.out _), HS.out.2.1.more.more.more, HS.out.2.2.1.more.more.more, HS.out.2.2.2.trans ((B4.out _).mono HS.out.2.2.2.size)⟩
        case measure => omega
    · by_cases hlt : j < n
      case' pos =>
        have hlt2 : (j : Int) < (n : Int) := by omega
        have d60 : decide ((60 : Int) < (j : Int)) = true := by simp; omega
        obtain ⟨ob, oo, rfl, hob, hops⟩ := HO.out (by omega)
        obtain ⟨kd, N, IA, il, ic, FA, fl, fc, bs, q1, q2, q3, q4, -, -, -⟩ := hops j hlt
        have hbw := HS.out.2.2.2
        have c1 := (hbw.cell (p := ⟨ob, oo + j * 4, none⟩) hob).trans q1
        have c2 := (hbw.cell (p := ⟨ob, oo + j * 4 + 1, none⟩) hob).trans q2
        have c3 := (hbw.cell (p := ⟨ob, oo + j * 4 + 2, none⟩) hob).trans q3
        have c4 := (hbw.cell (p := ⟨ob, oo + j * 4 + 3, none⟩) hob).trans q4
        have HS2 : Aside (Two (wr.alloc (.cells #[.int .i64 kd, .int .i64 N, .slice IA il ic, .slice FA fl fc] 57)) a P L D b Q M E ∧ Below w.heap.size w (wr.alloc (.cells #[.int .i64 kd, .int .i64 N, .slice IA il ic, .slice FA fl fc] 57))) := ⟨HS.out.1.below (bl_alloc (Below.refl _ _) _), hbw.trans ((bl_alloc (Below.refl _ _) _).mono hbw.size)⟩
        clear hops q1 q2 q3 q4 hob hbw
        go_wp2_with fail
        obtain ⟨wz, hwz⟩ : ∃ wz, wr.alloc (.cells #[.int .i64 kd, .int .i64 N, .slice IA il ic, .slice FA fl fc] 57) = wz := ⟨_, rfl⟩
        rw [hwz] at HS2 ⊢
        clear hwz c1 c2 c3 c4
      case' neg =>
        have hjn : ¬ (j : Int) < (n : Int) := by omega
        have HS2 : Aside (Two wr a P L D b Q M E ∧ Below w.heap.size w wr) := ⟨HS.out.1, HS.out.2.2.2⟩
        go_wp2_with fail
        obtain ⟨wz, hwz⟩ : ∃ wz, wr = wz := ⟨_, rfl⟩
        rw [hwz] at HS2 ⊢
        clear hwz
      all_goals
        have hf1 := cflush_kp a P L D 0 wz HS2.out.1.st1 HS.out.2.1.inv (fun q hq => by rw [HS.out.2.1.pins] at hq; cases hq) (by have := HS.out.2.1.ma; omega) (by have := HS.out.2.1.steps; omega)
        rw [HS.out.2.1.gp] at hf1
        refine hf1.mono ?_
        rintro e w5 ⟨rfl, P5, L5, D5, hP5, hFl5, -, hF5⟩
        have hT5 := HS2.out.1.left hP5 hF5 (AdN.refl _ _ 0)
        have hB5 := HS.out.2.2.1.ov a.sv
        obtain ⟨b5, hb5⟩ : ∃ b5, ({ b with ov := a.sv } : Ad) = b5 := ⟨_, rfl⟩
        rw [hb5] at hT5 hB5
        have hf2 := cflush_kp b5 Q M E 0 w5 hT5.st2 hB5.inv (fun q hq => by rw [hB5.pins] at hq; cases hq) (by have := hB5.ma; omega) (by have := hB5.steps; omega)
        rw [hB5.gp] at hf2
        have S5 : Aside (Two w5 a P5 L5 D5 b5 Q M E ∧ Half w.heap.size a P5 L5 D5 a0.gl a0.gd a0.gp (3 * j + 1) x F ∧ Half w.heap.size b5 Q M E b0.gl b0.gd b0.gp (3 * j) x F ∧ Below w.heap.size w w5 ∧ Flushed P P5 L L5 D D5) := ⟨hT5, HS.out.2.1.flushed hFl5, hB5, HS2.out.2.trans (hF5.below HS2.out.2.size HS.out.2.1.far), hFl5⟩
        clear hP5 hFl5 hF5 hT5 hf1 hB5 hb5
        go_wp2_with fail
        refine hf2.mono ?_
        rintro e w6 ⟨rfl, Q6, M6, E6, hP6, hFl6, -, hF6⟩
        have S6 : Aside (Two w6 { a with ov := b5.sv } P5 L5 D5 b5 Q6 M6 E6 ∧ Half w.heap.size b5 Q6 M6 E6 b0.gl b0.gd b0.gp (3 * j + 1) x F ∧ Below w.heap.size w w6 ∧ Flushed Q Q6 M M6 E E6) := ⟨S5.out.1.right hP6 hF6 (AdN.refl _ _ 0), S5.out.2.2.1.flushed hFl6, S5.out.2.2.2.1.trans (hF6.below S5.out.2.2.2.1.size S5.out.2.2.1.far), hFl6⟩
        clear hP6 hFl6 hF6 hf2
        have hL : (List.range 8).flatMap F = (List.range 8).flatMap F := rfl
        obtain ⟨ps, hps⟩ : ∃ ps, (List.range 8).flatMap F = ps := ⟨_, rfl⟩
        have HA1 : Aside (∀ W, Below w6.heap.size w6 W → Calls Tryz.prog 17 #[.pointer (some ⟨a0.gd, 0, none⟩)] W fun e w' => ∃ g c, e = .returned (.slice (some ⟨g, 0, none⟩) 6144 c) ∧ 6144 ≤ c ∧ RdB w' (some ⟨g, 2048, none⟩) 4096 ps ∧ Below w6.heap.size w6 w' ∧ Below W.heap.size W w') := ⟨fun W hW => by
          have hd := S6.out.1.st1.ld.disk
          have e1 : ({ a with ov := b5.sv } : Ad).gd = a0.gd := S5.out.2.1.gd
          rw [e1] at hd
          rw [← hps]
          exact all_half _ _ _ D5 F w6 W hd hW S5.out.2.1.inv.ok.dw S5.out.2.1.sec (fun N hN => by rw [← HS.out.2.1.base, S5.out.2.2.2.2.lc N (by rw [HS.out.2.1.cnt]; exact hN)]; exact HS.out.2.1.lc N hN)⟩
        have HA2 : Aside (∀ W, Below w6.heap.size w6 W → Calls Tryz.prog 17 #[.pointer (some ⟨b0.gd, 0, none⟩)] W fun e w' => ∃ g c, e = .returned (.slice (some ⟨g, 0, none⟩) 6144 c) ∧ 6144 ≤ c ∧ RdB w' (some ⟨g, 2048, none⟩) 4096 ps ∧ Below w6.heap.size w6 w' ∧ Below W.heap.size W w') := ⟨fun W hW => by
          have hd := S6.out.1.st2.ld.disk
          rw [S6.out.2.1.gd] at hd
          rw [← hps]
          exact all_half _ _ _ E6 F w6 W hd hW S6.out.2.1.inv.ok.dw S6.out.2.1.sec (fun N hN => by rw [← S5.out.2.2.1.base, S6.out.2.2.2.lc N (by rw [S5.out.2.2.1.cnt]; exact hN)]; exact S5.out.2.2.1.lc N hN)⟩
        have HE : Aside (∀ args w, (callFunc 17 args).run Tryz.prog w = .ok (.enter 17 args) w) := ⟨enters_of Tryz.func17 (by kernel_rfl) rfl⟩
        have HEs : Aside (∀ args w, (callFunc 26 args).run Tryz.prog w = .ok (.enter 26 args) w) := ⟨enters_of Tryz.func26 (by kernel_rfl) rfl⟩
        have tok1 : True := trivial
        clear hL hps
        go_wp2_with fail
        go_region_law (first
          | (have _t := tok1
             (refine step_call1 (o := ⟨some 171, _, _, _, _, _⟩) 17 (by rfl) _ _ (by rfl) HE.out (.pointer (some ⟨a0.gd, 0, none⟩)) (by go_simp) (HA1.out _ ?_) ?_)
             · exact (by repeat (first | exact Below.refl _ _ | refine bl_drew ?_))
             rintro e w7 ⟨g7, c7, rfl, hc7, hR7, hb7, -⟩
             have S7 : Aside (RdB w7 (some ⟨g7, 2048, none⟩) 4096 ps ∧ Below w6.heap.size w6 w7) := ⟨hR7, hb7⟩
             have hf7 := fun W => from_big g7 c7 hc7 W
             have tok2 : True := trivial
             clear hR7 hb7 tok1
             refine ⟨_, rfl, ?_⟩)
          | (have _t := tok2
             (refine step_call1 (o := ⟨some 174, _, _, _, _, _⟩) 17 (by rfl) _ _ (by rfl) HE.out (.pointer (some ⟨b0.gd, 0, none⟩)) (by go_simp) (HA2.out _ ?_) ?_)
             · exact S7.out.2.trans ((by repeat (first | exact Below.refl _ _ | refine bl_drew ?_) : Below w7.heap.size w7 _).mono S7.out.2.size)
             rintro e w8 ⟨g8, c8, rfl, hc8, hR8, hb8, hb78⟩
             have hR7 : RdB w8 (some ⟨g7, 2048, none⟩) 4096 ps := S7.out.1.below ⟨hb78.os, hb78.tape, hb78.output, hb78.size, hb78.block⟩
             have hsm := fun W (hW : Below w8.heap.size w8 W) => same_any (some ⟨g7, 2048, none⟩) (some ⟨g8, 2048, none⟩) 4096 (c7 - 2048) (c8 - 2048) ps W (hR7.below hW) (hR8.below hW) (by omega)
             have HSM : Aside (∀ W, Below w8.heap.size w8 W → Calls Tryz.prog 26 #[.slice (some ⟨g7, 2048, none⟩) 4096 (c7 - 2048), .slice (some ⟨g8, 2048, none⟩) 4096 (c8 - 2048)] W fun e w' => e = .returned (.bool true) ∧ Below W.heap.size W w') := ⟨hsm⟩
             have tok3 : True := trivial
             have S8 : Aside (RdB w8 (some ⟨g8, 2048, none⟩) 4096 ps ∧ Below w6.heap.size w6 w8) := ⟨hR8, hb8⟩
             have hf8 := fun W => from_big g8 c8 hc8 W
             clear hR8 hb8 hR7 hb78 hsm tok2
             refine ⟨_, rfl, ?_⟩)
          | (have _t := tok3
             (refine step_call2 (o := ⟨some 176, _, _, _, _, _⟩) 26 (by rfl) _ _ _ (by rfl) HEs.out (.slice (some ⟨g7, 2048, none⟩) 4096 (c7 - 2048)) (.slice (some ⟨g8, 2048, none⟩) 4096 (c8 - 2048)) (by go_simp) (by go_simp) (HSM.out _ ?_) ?_)
             · exact (by repeat (first | exact Below.refl _ _ | refine bl_drew ?_))
             rintro e w9 ⟨rfl, hb9⟩
             have S9 : Aside (Below w8.heap.size w8 w9) := ⟨⟨hb9.os, hb9.tape, hb9.output, hb9.size, hb9.block⟩⟩
             clear hb9 tok3
             refine ⟨_, rfl, ?_⟩))
        all_goals
          go_wp2_with fail
          go_ret
          exact ⟨rfl, S6.out.2.2.1.trans ((S8.out.2.trans (S9.out.mono S8.out.2.size)).mono S6.out.2.2.1.size)⟩
end Go.Proofs.YthfidlhefkjpdaaGreatDoor
