/- CacheDirty: the walk.
   CacheDirty: its row and its card. -/
import Derived.Test.YthfidlhefkjpdaaGreatDoorQar
import Derived.BigQuiet
import Derived.Test.YthfidlhefkjpdaaGreatDoorRows
import Derived.Test.YthfidlhefkjpdaaGreatDoorTie
import Derived.Test.YthfidlhefkjpdaaGreatDoorCards
import Derived.ProofKit
import Derived.OpenShut
import Derived.ChangeOld
import Derived.SizedLaws
import Derived.Deep.Slices
import Derived.Deep.Fields
import Derived.ChangeSame
import Derived.Lib.SmallJoins
import Derived.LaidMore
import Derived.Lay
import Derived.SevenTiedAt
import Derived.Stop.Joined
namespace Go.Proofs.YthfidlhefkjpdaaGreatDoor
open Go.RowKit Go.Maps Go.BigFrame

theorem infoI64 : (Tryz.prog.info? 2).map (fun i => (i.zero, i.size, i.bytes)) = some (some (.int .i64 0), 1, 8) := by kernel_rfl
theorem made_i64 (n : Nat) : madeCells #[Value.int .i64 0] n = ((List.replicate n (0 : Int)).map (Value.int .i64)).toArray := by
  apply Array.ext
  · simp [madeCells]
  · intro i h1 h2
    simp [madeCells, Nat.mod_one]

set_option maxRecDepth 100000 in
set_option maxHeartbeats 2000000 in
theorem cacheDirty_any (frames : Int) (A : Option Addr) (n c : Nat) (zs : List Int) (w : World) (hz : RdZ w A n zs) (hn : n ≤ 17592186044416) :
    Calls Tryz.prog 3 #[.int .i64 frames, .slice A n c] w fun e w' => e = .returned (.bool true) ∧ Below w.heap.size w w' := by
  obtain ⟨most, hm⟩ : ∃ most : Nat, (most : Int) = min (max frames 1) 64 := ⟨(min (max frames 1) 64).toNat, by omega⟩
  have hal := alive_any w
  have HZ := hid hz
  have hm1 : 1 ≤ most ∧ most ≤ 64 := by omega
  have HM : Aside ((most : Int) = min (max frames 1) 64 ∧ 1 ≤ most ∧ most ≤ 64) := ⟨hm, hm1⟩
  obtain ⟨i0, hi0, hz0, hz1, hz2⟩ := info_parts infoI64
  have hmk := fun W => run_make_two (P := Tryz.prog) 29 2 i0 (.int .i64 0) Tryz.underlying29 hi0 hz0 hz1 8 8 (8 : Int) (8 : Int) rfl rfl (Nat.le_refl _) (by rw [hz2]; omega) (by omega) W
  clear hz hm hm1
  go_enter Tryz.func3, Tryz.ntmps3
  go_wp2_with fail
  refine hal.mono ?_
  rintro e w1 ⟨rfl, hb1⟩
  have S1 : Aside (Below w.heap.size w w1) := ⟨hb1⟩
  clear hb1 hal
  have hmd := lawmade_any none 0 0 [] 8 frames most w1 (RdB.nil _ _) (by omega) (by omega) HM.out.1
  rw [show ((8 : Nat) : Int) = 8 from rfl] at hmd
  go_wp2_with fail
  refine hmd.mono ?_
  rintro e w2 ⟨a0, rfl, hP2, hfar2, hma2, hmn2, hb2⟩
  have hI2 := made_inv 8 most (by omega) HM.out.2.1 HM.out.2.2
  have hst2 := (made_wf 8 (by omega) [] (by simp)).2.2.2.2
  obtain ⟨P0, hP0⟩ : ∃ P0, madeP 8 most = P0 := ⟨_, rfl⟩
  obtain ⟨D0, hD0⟩ : ∃ D0, madeD [] 8 = D0 := ⟨_, rfl⟩
  have k0 : (P0.pins = fun _ => none) ∧ P0.count = 8 ∧ (∀ k, dty P0 k = none) := by rw [← hP0]; exact ⟨rfl, rfl, fun _ => rfl⟩
  rw [hP0, hD0] at hP2 hI2
  rw [hD0] at hst2
  have hL0 : madeL.stream = [] ∧ madeL.old = false ∧ madeL.count = 4 ∧ madeL.run = 2 ∧ madeL.nrec = 0 := ⟨rfl, rfl, rfl, rfl, rfl⟩
  obtain ⟨L0, hL0e⟩ : ∃ L0, madeL = L0 := ⟨_, rfl⟩
  rw [hL0e] at hP2 hI2 hL0
  have S2 : Aside (PSt w2 a0 P0 L0 D0 ∧ Inv P0 L0 D0 ∧ (∀ b, aT a0 b → w1.heap.size ≤ b) ∧ a0.ma = 0 ∧ a0.mn = 0 ∧ Below w1.heap.size w1 w2 ∧ D0.steps = 4 ∧ ((P0.pins = fun _ => none) ∧ P0.count = 8 ∧ (∀ k, dty P0 k = none)) ∧ (L0.stream = [] ∧ L0.old = false ∧ L0.count = 4 ∧ L0.run = 2 ∧ L0.nrec = 0)) := ⟨hP2, hI2, hfar2, hma2, hmn2, hb2, hst2, k0, hL0⟩
  clear hP2 hI2 hfar2 hma2 hmn2 hb2 hst2 k0 hL0 hL0e hP0 hD0 hmd
  go_wp2_with fail
  obtain ⟨w3, hw3⟩ : ∃ w3, w2.alloc (.cells (madeCells #[Value.int .i64 0] 8) 2) = w3 := ⟨_, rfl⟩
  obtain ⟨gF, hgF⟩ : ∃ gF, w2.heap.size = gF := ⟨_, rfl⟩
  rw [hw3, hgF]
  have hz3 : w3.heap.size = gF + 1 := by rw [← hw3, ← hgF]; simp
  have hb23 : Below w2.heap.size w2 w3 := by rw [← hw3]; exact bl_alloc (Below.refl _ _) _
  have hS3 : DSt w3 a0 a0 gF w3 P0 L0 D0 (List.replicate 8 0) 0 := by
    have hblk : w3.heap[gF]? = some (.cells ((List.replicate 8 (0 : Int)).map (Value.int .i64)).toArray 2 (0, 0)) := by
      rw [← hw3, ← hgF, ← made_i64]
      exact alloc_new w2 _
    refine ⟨S2.out.1.below hb23, S2.out.2.1, S2.out.2.2.2.2.2.2.2.1.1, S2.out.2.2.2.2.2.2.2.1.2.1, Fr.refl _ _, AdN.refl _ _ _, hblk, by simp, S2.out.2.2.2.2.2.2.2.2.2.1, S2.out.2.2.2.2.2.2.2.2.2.2.1, S2.out.2.2.2.2.2.2.2.2.2.2.2.1, by rw [S2.out.2.2.2.2.2.2.2.2.1]; rfl, S2.out.2.2.2.2.2.2.2.2.2.2.2.2, by rw [S2.out.2.2.2.2.2.2.1]; omega, fun k s hs => ?_⟩
    rw [S2.out.2.2.2.2.2.2.2.1.2.2] at hs
    cases hs
  have S3 : Aside (DSt w3 a0 a0 gF w3 P0 L0 D0 (List.replicate 8 0) 0 ∧ Below w.heap.size w w3 ∧ (∀ b, (aT a0 b ∨ b = gF) → w.heap.size ≤ b) ∧ a0.ma = 0 ∧ a0.mn = 0 ∧ (∀ b, aT a0 b → b ≠ gF) ∧ gF < w3.heap.size ∧ w.heap.size ≤ gF) := by
    have h1 := S1.out.size
    have h2 := S2.out.2.2.2.2.2.1.size
    refine ⟨hS3, (S1.out.trans (S2.out.2.2.2.2.2.1.mono h1)).trans (hb23.mono (by omega)), fun b hb => ?_, S2.out.2.2.2.1, S2.out.2.2.2.2.1, fun b hb e => ?_, by omega, by omega⟩
    · rcases hb with hb | hb
      · have := S2.out.2.2.1 b hb; omega
      · omega
    · have := S2.out.1.lt hb; omega
  clear hw3 hgF hz3 hb23 hS3 S1 S2
  go_wp2_with fail
  go_loopg [42] n (fun q i wr => ∃ k : Nat, k + q = n ∧ i = .int .i64 (k : Nat) ∧ Hid (∃ a P L D F j, DSt w3 a0 a gF wr P L D F j))
  case atStart => exact ⟨0, by omega, rfl, _, _, _, _, _, _, S3.out.1⟩
  case round =>
    obtain ⟨k, hk, rfl, hI⟩ := hrel
    obtain ⟨a, P, L, D, F, j, hS⟩ := hI.out
    have HS := hid hS
    by_cases hlt : k < n
    · have hlt2 : (k : Int) < (n : Int) := by omega
      have hbw : Below w.heap.size w wr := S3.out.2.1.trans (hS.fr.below S3.out.2.1.size S3.out.2.2.1)
      obtain ⟨bz, oz, rfl, hbz, hcz⟩ := HZ.out.2.2 (by omega)
      have hkz : k < zs.length := by rw [HZ.out.1]; exact hlt
      obtain ⟨z, hz⟩ : ∃ z, zs[k] = z := ⟨_, rfl⟩
      have hcell : wr.cell? ⟨bz, oz + k, none⟩ = some (.int .i64 z) := by
        rw [World.cell?_of_block (w := w) (hbw.block bz hbz), ← hz]
        exact hcz k hkz
      have hzw : wf64 z := HZ.out.2.1 z (by rw [← hz]; exact List.getElem_mem hkz)
      have hj := hS.j
      have hap := lappend_st a P L D 1 none 0 0 [] wr hS.st hS.inv.ok.lw hS.old hS.inv.ok.ld (by omega) (by omega) (RdB.nil _ _) (fun b o h0 => by omega) (by omega) (by rw [hS.nrec]; omega)
      rw [hS.ad.gl, show ((1 : Nat) : Int) = 1 from rfl] at hap
      have HJ := hid hj
      clear hI hS hbw hkz hz hcz hbz hj
      by_cases hfull : L.stream.length + (0 + 2) ≤ L.count * 498
      · obtain ⟨x, hx⟩ : ∃ x : Nat, (x : Int) = L.lsn L.stream.length := ⟨L.run * 16777216 + L.stream.length, rfl⟩
        rw [← hx] at hap
        have hx2 : x = 33554432 + 2 * j := by
          have h1 := HS.out.run
          have h2 := HS.out.str
          unfold Lg.lsn at hx
          rw [h1, h2] at hx
          omega
        go_wp2_with fail
        refine hap.mono ?_
        rintro e w4 ⟨hap1, -⟩
        obtain ⟨rfl, a4, hP4, hF4, hA4⟩ := hap1 hfull
        obtain ⟨L4, hL4⟩ : ∃ L4, ({ L with stream := L.stream ++ recL 1 0 [], nrec := L.nrec + 1 } : Lg) = L4 := ⟨_, rfl⟩
        rw [hL4] at hP4
        have hS4 := HS.out.append S3.out.2.2.2.2.2.2.1 (fun h => S3.out.2.2.2.2.2.1 _ h rfl) (r := recL 1 0 []) rfl rfl hfull hL4.symm hP4 hF4 hA4
        have hxs : (x : Int) < L4.lsn L4.stream.length ∧ (∀ k s, dty P k = some s → ∃ m : Nat, k = (m : Int) ∧ m < 8 ∧ F.getD m 0 = s ∧ 0 < s ∧ s < (x : Int)) := by
          refine ⟨?_, fun k s hs => ?_⟩
          · rw [hx, ← hL4]
            show L.lsn L.stream.length < L.lsn (L.stream ++ recL 1 0 []).length
            unfold Lg.lsn
            rw [List.length_append]
            have : (recL 1 0 []).length = 2 := rfl
            omega
          · obtain ⟨m, h1, h2, h3, h4, h5⟩ := HS.out.dty k s hs
            rw [← hx] at h5
            exact ⟨m, h1, h2, h3, h4, h5⟩
        have S4 : Aside (DSt w3 a0 a4 gF w4 P L4 D F (j + 1) ∧ ((x : Int) < L4.lsn L4.stream.length ∧ (∀ k s, dty P k = some s → ∃ m : Nat, k = (m : Int) ∧ m < 8 ∧ F.getD m 0 = s ∧ 0 < s ∧ s < (x : Int))) ∧ x = 33554432 + 2 * j ∧ AdN w3 a0 a4 j ∧ D.steps ≤ 4 + 6 * j) := ⟨hS4, hxs, hx2, HS.out.ad.trans hA4 HS.out.fr.size, HS.out.steps⟩
        clear hap hap1 hP4 hF4 hA4 hL4 hS4 hxs hx hx2 hcell
        by_cases hz0 : z < 0
        · have d0 : decide (z < 0) = true := by simpa using hz0
          clear hz0 hzw
          go_wp2_with fail
          go_roundg (n - 1 - k)
          case rel => exact ⟨k + 1, by omega, by go_num, _, _, _, _, _, _, S4.out.1⟩
          case measure => omega
        · have d0 : decide (z < 0) = false := by simpa using hz0
          by_cases hz7 : 7 < z
          · have d7 : decide ((7 : Int) < z) = true := by simpa using hz7
            clear hz0 hzw hz7
            go_wp2_with fail
            go_roundg (n - 1 - k)
            case rel => exact ⟨k + 1, by omega, by go_num, _, _, _, _, _, _, S4.out.1⟩
            case measure => omega
          · have d7 : decide ((7 : Int) < z) = false := by simpa using hz7
            obtain ⟨N, rfl⟩ : ∃ N : Nat, (N : Int) = z := ⟨z.toNat, by omega⟩
            have hN : N < 8 := by omega
            clear hz0 hzw hz7
            have hJ4 := S4.out.1.j
            have hma4 : a4.ma ≤ 1099511627776 := by have := S4.out.1.ad.ma; have := S3.out.2.2.2.1; omega
            have hd1 := cDirty_any a4 P L4 D w4 S4.out.1.st S4.out.1.inv.wf hma4
            rw [S4.out.1.ad.gp] at hd1
            go_wp2_with fail
            refine hd1.mono ?_
            rintro e w5 ⟨v5, ks5, rfl, hks5, hown5, hb5⟩
            obtain ⟨A5, c5, rfl⟩ := own_form_n hown5
            obtain ⟨l5, hl5⟩ : ∃ l5, dirtyL P ks5 = l5 := ⟨_, rfl⟩
            have hm5 : ∀ x : Int × Int, x ∈ l5 ↔ dty P x.1 = some x.2 := fun x => by rw [← hl5]; exact dirtyL_mem S4.out.1.inv.wf hks5
            have hl64 : l5.length ≤ 64 := by
              have h1 := dirtyL_len S4.out.1.inv.wf hks5
              have h2 := S4.out.1.inv.wf.len
              have h3 := S4.out.1.inv.wf.m2
              rw [← hl5]; omega
            rw [hl5] at hown5
            obtain ⟨n5, hn5⟩ : ∃ n5, l5.length = n5 := ⟨_, rfl⟩
            rw [hn5] at hown5 hl64
            have S5 : Aside (DSt w3 a0 a4 gF w5 P L4 D F (j + 1) ∧ w5.ownsRow w4.heap.size 39 2 (.slice A5 n5 c5) n5 (l5.flatMap encD) ∧ Below w4.heap.size w4 w5 ∧ (∀ x : Int × Int, x ∈ l5 ↔ dty P x.1 = some x.2) ∧ l5.length = n5) := ⟨S4.out.1.below hb5, hown5, hb5, hm5, hn5⟩
            rw [hl5, hn5]
            clear hks5 hown5 hb5 hm5 hn5 hl5 hd1
            -- one, Put
            have hone := one_any none 0 0 [] w5 (RdB.nil _ _)
            go_wp2_with fail
            refine hone.mono ?_
            rintro e w6 ⟨g6, rfl, hG6, hb6⟩
            have hput := cput_inv a4 P L4 D N w5.heap.size g6 x (oneP []) w6 (S5.out.1.st.below hb6) S5.out.1.inv (by rw [S5.out.1.cnt]; exact hN) (fun k => by rw [S5.out.1.pins]; simp) hma4 (by have := S5.out.1.steps; omega) hG6 (oneP_wf _) (fun b hb => S5.out.1.st.lt hb) (by have := S4.out.2.2.1; omega)
            rw [S5.out.1.ad.gp] at hput
            have S6 : Aside (Below w5.heap.size w5 w6) := ⟨hb6⟩
            clear hG6 hb6 hone
            go_wp2_with fail
            refine hput.mono ?_
            rintro e w7 ⟨rfl, a7, P7, L7, D7, hP7, hR7, hF7, hA7⟩
            have hrow7 : w7.ownsRow w4.heap.size 39 2 (.slice A5 n5 c5) n5 (l5.flatMap encD) :=
              own_fr (own_fr S5.out.2.1 (Fr.of_below S6.out (fun _ => False)) (fun _ _ h => h)) hF7 (fun b hb hh => by
                have h1 := (S5.out.2.1.lt b hb).1
                have h2 := S4.out.1.st.lt hh
                omega)
            have S7 : Aside (PSt w7 a7 P7 L7 D7 ∧ PutR P P7 L4 L7 D D7 N { oneP [] with lsn := (x : Int) } ∧ Fr (aT a4) w5 w7 ∧ AdN w5 a4 a7 1 ∧ w7.ownsRow w4.heap.size 39 2 (.slice A5 n5 c5) n5 (l5.flatMap encD) ∧ (∀ x : Int × Int, x ∈ l5 ↔ dty P x.1 = some x.2) ∧ l5.length = n5) := by
              have hA57 : AdN w5 a4 a7 1 := ((AdN.refl w5 a4 0).trans hA7 S6.out.size).mono (by omega)
              exact ⟨hP7, hR7, (Fr.of_below S6.out (aT a4)).trans hF7 (fun _ _ h => h), hA57, hrow7, S5.out.2.2.2⟩
            clear hP7 hR7 hF7 hA7 hput hrow7
            go_wp2_with fail
            go_loopg [14, 71] n5 (fun q s i wx => ∃ m : Nat, m + q = n5 ∧ i = .int .i64 (m : Nat) ∧ s = .bool ((l5.take m).any fun y => y.1 == (N : Int)) ∧ Hid (Below w7.heap.size w7 wx))
            case atStart => exact ⟨0, by omega, rfl, rfl, Below.refl _ _⟩
            case round =>
              obtain ⟨m, hm, rfl, rfl, hIx⟩ := hrel
              obtain ⟨bs, hbs⟩ : ∃ bs, ((l5.take m).any fun y => y.1 == (N : Int)) = bs := ⟨_, rfl⟩
              rw [hbs]
              by_cases hml : m < n5
              · have hml2 : (m : Int) < (n5 : Int) := by omega
                have hmk : m < l5.length := by rw [S7.out.2.2.2.2.2.2]; exact hml
                obtain ⟨g, rfl, hgl, hc0, hc1⟩ := row2 S7.out.2.2.2.2.1 hmk
                replace hc0 := (hIx.out.cell (p := ⟨g, m * 2, none⟩) hgl).trans hc0
                replace hc1 := (hIx.out.cell (p := ⟨g, m * 2 + 1, none⟩) hgl).trans hc1
                have hsn := any_take_succ l5 (fun y => y.1 == (N : Int)) m hmk
                obtain ⟨y, hy⟩ : ∃ y, l5[m] = y := ⟨_, rfl⟩
                rw [hy] at hc0 hc1 hsn
                rw [hbs] at hsn
                obtain ⟨y1, y2⟩ := y
                simp only at hc0 hc1 hsn
                have HX := hid (And.intro hIx.out hsn)
                clear hIx hsn hy hbs hmk
                have hgx : g < wr.heap.size := Nat.lt_of_lt_of_le hgl HX.out.1.size
                cases bs with
                | true =>
                  go_wp2_with fail
                  go_roundg (n5 - 1 - m)
                  case rel => exact ⟨m + 1, by omega, by go_num, by rw [HX.out.2]; rfl, bl_alloc HX.out.1 _ (Nat.le_refl _)⟩
                  case measure => omega
                | false =>
                  go_wp2_with fail
                  go_roundg (n5 - 1 - m)
                  case rel => exact ⟨m + 1, by omega, by go_num, by rw [HX.out.2]; rfl, bl_alloc HX.out.1 _ (Nat.le_refl _)⟩
                  case measure => omega
              · have hml2 : ¬ (m : Int) < (n5 : Int) := by omega
                rw [List.take_of_length_le (by rw [S7.out.2.2.2.2.2.2]; omega)] at hbs
                have hbd : bs = (dty P N).isSome := by
                  rw [← hbs, Bool.eq_iff_iff, List.any_eq_true]
                  constructor
                  · rintro ⟨y, hy, e⟩
                    have e' : y.1 = (N : Int) := by simpa using e
                    have := (S7.out.2.2.2.2.2.1 y).1 hy
                    rw [e'] at this
                    rw [this]; rfl
                  · intro hsm
                    obtain ⟨s, hs⟩ := Option.isSome_iff_exists.1 hsm
                    exact ⟨((N : Int), s), (S7.out.2.2.2.2.2.1 _).2 hs, by simp⟩
                have hPx := S7.out.1.below hIx.out
                have hlx : gF < w5.heap.size := by have := S5.out.1.fr.size; have := S3.out.2.2.2.2.2.2.1; omega
                have hnF : ¬ aT a4 gF := fun hh => S3.out.2.2.2.2.2.1 _ (S5.out.1.ad.foot gF S3.out.2.2.2.2.2.2.1 hh) rfl
                have hFx : Fr (aT a4) w5 wr := S7.out.2.2.1.trans (Fr.of_below hIx.out (aT a4)) (fun _ _ h => h)
                have hblk : wr.heap[gF]? = some (.cells (F.map (Value.int .i64)).toArray 2 (0, 0)) := (hFx.block gF hlx hnF).trans S5.out.1.blk
                have HX : Aside (PSt wr a7 P7 L7 D7 ∧ Fr (aT a4) w5 wr ∧ bs = (dty P N).isSome) := ⟨hPx, hFx, hbd⟩
                have hFN : F.length = 8 := S5.out.1.fl
                have cF : ∃ v, wr.cell? ⟨gF, N, none⟩ = some v := by
                  unfold World.cell?
                  rw [hblk]
                  have : N < F.length := by omega
                  simp [this]
                have yF : wr.frozen? ⟨gF, N, none⟩ = false := by unfold World.frozen?; rw [hblk]; simp
                obtain ⟨vF, cF⟩ := cF
                have hN8 : (N : Int) < 8 := by omega
                have HB := hid hblk
                clear hIx hbs hbd hPx hFx hblk hFN
                obtain ⟨F8, hF8⟩ : ∃ F8, firstF F (dty P N) N (x : Int) = F8 := ⟨_, rfl⟩
                have hR7 := S7.out.2.1
                have hfd : ∀ k s, dty P7 k = some s → ∃ m : Nat, k = (m : Int) ∧ m < 8 ∧ F8.getD m 0 = s ∧ 0 < s ∧ s ≤ (x : Int) := by
                  rw [← hF8]
                  exact firstF_dty hN S5.out.1.fl (by have := S4.out.2.2.1; omega) S4.out.2.1.2 hR7.dn hR7.dk
                have HD : Aside ((∀ k s, dty P7 k = some s → ∃ m : Nat, k = (m : Int) ∧ m < 8 ∧ F8.getD m 0 = s ∧ 0 < s ∧ s ≤ (x : Int)) ∧ dty P7 N = some ((dty P N).getD (x : Int)) ∧ bs = (dty P N).isSome) := ⟨hfd, hR7.dn, HX.out.2.2⟩
                have hst8 := hR7.stay
                have mk8 : ∀ w8 : World, Fr (fun b => b = gF) wr w8 → w8.heap[gF]? = some (.cells (F8.map (Value.int .i64)).toArray 2 (0, 0)) → DSt w3 a0 a7 gF w8 P7 L7 D7 F8 (j + 1) := fun w8 hFr hbk => by
                  have hty : Ty wr gF 2 := ⟨_, _, HB.out⟩
                  have hA7 := S4.out.2.2.2.1.trans S7.out.2.2.2.1 S5.out.1.fr.size
                  have hl7 : L7.stream.length = 2 * (j + 1) := by rw [hst8.stream]; exact S4.out.1.str
                  refine ⟨HX.out.1.apart_fr hFr (fun b hb e => ?_) (fun b hb e => by subst e; exact hb.ne hty (by decide)) (fun b hb e => by subst e; exact hb.ne hty (by decide)), hR7.inv, by rw [hR7.pins]; exact S4.out.1.pins, by rw [hst8.count]; exact S4.out.1.cnt, ?_, hA7.mono (by omega), hbk, by rw [← hF8, firstF_len]; exact S4.out.1.fl, by rw [hst8.old]; exact S4.out.1.old, by rw [hst8.cnt]; exact S4.out.1.lcnt, by rw [hst8.run]; exact S4.out.1.run, hl7, by rw [hst8.nrec]; exact S4.out.1.nrec, ?_, fun k s hs => ?_⟩
                  · exact S3.out.2.2.2.2.2.1 b (hA7.foot b (by rw [e]; exact S3.out.2.2.2.2.2.2.1) hb) e
                  · exact (S5.out.1.fr.trans HX.out.2.1 (fun b hb hh => .inl (S5.out.1.ad.foot b hb hh))).trans hFr (fun b _ e => .inr e)
                  · have h1 := hst8.steps
                    have h2 := S4.out.2.2.2.2
                    have h3 := S4.out.1.lcnt
                    omega
                  · obtain ⟨m, h1, h2, h3, h4, h5⟩ := hfd k s hs
                    refine ⟨m, h1, h2, h3, h4, Int.lt_of_le_of_lt h5 ?_⟩
                    rw [lsn_run hst8.run, hst8.stream]
                    exact S4.out.2.1.1
                have MK8 := hid mk8
                have HF8 := hid hF8
                have HFL := hid S5.out.1.fl
                clear hfd mk8 hst8 hR7 hF8
                cases bs
                case' true =>
                  have hbs1 : (dty P N).isSome = true := HD.out.2.2.symm
                  have S8 : Aside (DSt w3 a0 a7 gF wr P7 L7 D7 F8 (j + 1)) := by
                    refine ⟨MK8.out wr (Fr.refl _ _) ?_⟩
                    rw [← HF8.out]
                    unfold firstF
                    rw [if_pos hbs1]
                    exact HB.out
                  have HBS := hid hbs1
                  clear hbs1 cF yF
                  go_wp2_with fail
                  obtain ⟨w8, hw8⟩ : ∃ w8, wr = w8 := ⟨_, rfl⟩
                  rw [hw8] at S8
                  rw [hw8]
                  clear hw8
                case' false =>
                  have hbs1 : (dty P N).isSome = false := HD.out.2.2.symm
                  have S8' : Aside (DSt w3 a0 a7 gF (wr.setCell ⟨gF, N, none⟩ (.int .i64 (x : Int))) P7 L7 D7 F8 (j + 1)) := by
                    refine ⟨MK8.out _ ((Fr.refl (· = gF) wr).set (p := ⟨gF, N, none⟩) (.inl rfl) _) ?_⟩
                    rw [← HF8.out]
                    unfold firstF
                    rw [if_neg (by rw [hbs1]; simp)]
                    have := Blk.set_ (w := wr) (g := gF) (t := 2) HB.out N (.int .i64 (x : Int))
                    unfold Blk at this
                    rw [this, List.map_set]
                    simp
                  have HBS := hid hbs1
                  clear hbs1
                  go_wp2_with fail
                  obtain ⟨w8, hw8⟩ : ∃ w8, wr.setCell ⟨gF, N, none⟩ (.int .i64 (x : Int)) = w8 := ⟨_, rfl⟩
                  have S8 : Aside (DSt w3 a0 a7 gF w8 P7 L7 D7 F8 (j + 1)) := by rw [← hw8]; exact S8'
                  rw [hw8]
                  clear hw8 cF yF S8'
                all_goals
                  clear HB MK8 HF8 HFL HX hN8 hlx hnF
                  have hJ8 := S8.out.j
                  have hma7 : a7.ma ≤ 1099511627776 := by have := S8.out.ad.ma; have := S3.out.2.2.2.1; omega
                  have hd2 := cDirty_any a7 P7 L7 D7 w8 S8.out.st S8.out.inv.wf hma7
                  rw [S8.out.ad.gp] at hd2
                  refine hd2.mono ?_
                  rintro e w9 ⟨v9, ks9, rfl, hks9, hown9, hb9⟩
                  obtain ⟨A9, c9, rfl⟩ := own_form_n hown9
                  obtain ⟨l9, hl9⟩ : ∃ l9, dirtyL P7 ks9 = l9 := ⟨_, rfl⟩
                  have hm9 : ∀ x : Int × Int, x ∈ l9 ↔ dty P7 x.1 = some x.2 := fun x => by rw [← hl9]; exact dirtyL_mem S8.out.inv.wf hks9
                  have hs9 : l9.Pairwise fun x y => x.1 < y.1 := by rw [← hl9]; exact dirtyL_sorted S8.out.inv.wf hks9
                  have hlf9 : l9.length ≤ P7.frames.length := by rw [← hl9]; exact dirtyL_len S8.out.inv.wf hks9
                  have hl64 : P7.frames.length ≤ 64 := by have := S8.out.inv.wf.len; have := S8.out.inv.wf.m2; omega
                  rw [hl9] at hown9
                  obtain ⟨n9, hn9⟩ : ∃ n9, l9.length = n9 := ⟨_, rfl⟩
                  rw [hn9] at hown9 hlf9
                  have S9 : Aside (DSt w3 a0 a7 gF w9 P7 L7 D7 F8 (j + 1) ∧ w9.ownsRow w8.heap.size 39 2 (.slice A9 n9 c9) n9 (l9.flatMap encD) ∧ (∀ x : Int × Int, x ∈ l9 ↔ dty P7 x.1 = some x.2) ∧ (l9.Pairwise fun x y => x.1 < y.1) ∧ l9.length = n9) := ⟨S8.out.below hb9, hown9, hm9, hs9, hn9⟩
                  rw [hl9, hn9]
                  have HD1 : Aside ((∀ k s, dty P7 k = some s → ∃ m : Nat, k = (m : Int) ∧ m < 8 ∧ F8.getD m 0 = s ∧ 0 < s ∧ s ≤ (x : Int)) ∧ dty P7 N = some ((dty P N).getD (x : Int))) := ⟨HD.out.1, HD.out.2.1⟩
                  clear hks9 hown9 hb9 hm9 hs9 hn9 hl9 hd2 S8 HD
                  go_wp2_with fail
                  have HBS2 := HBS
                  go_loopg [18, 93] n9 (fun q s i wy => ∃ m : Nat, m + q = n9 ∧ i = .int .i64 (m : Nat) ∧ s = .bool ((l9.take m).any fun y => y.1 == (N : Int) && ((dty P N).isSome || y.2 == (x : Int))) ∧ Hid (Below w9.heap.size w9 wy))
                  case atStart => exact ⟨0, by omega, rfl, rfl, Below.refl _ _⟩
                  case round =>
                    obtain ⟨m, hm, rfl, rfl, hIx⟩ := hrel
                    obtain ⟨bf, hbf⟩ : ∃ bf, ((l9.take m).any fun y => y.1 == (N : Int) && ((dty P N).isSome || y.2 == (x : Int))) = bf := ⟨_, rfl⟩
                    rw [hbf]
                    by_cases hml : m < n9
                    · have hml2 : (m : Int) < (n9 : Int) := by omega
                      have hmk : m < l9.length := by rw [S9.out.2.2.2.2]; exact hml
                      obtain ⟨g, rfl, hgl, hc0, hc1⟩ := row2 S9.out.2.1 hmk
                      replace hc0 := (hIx.out.cell (p := ⟨g, m * 2, none⟩) hgl).trans hc0
                      replace hc1 := (hIx.out.cell (p := ⟨g, m * 2 + 1, none⟩) hgl).trans hc1
                      have hsn := any_take_succ l9 (fun y => y.1 == (N : Int) && ((dty P N).isSome || y.2 == (x : Int))) m hmk
                      have hym : l9[m] ∈ l9 := List.getElem_mem hmk
                      have hpv : 0 < m → ∃ p : Int, wr.cell? ⟨g, (m - 1) * 2, none⟩ = some (.int .i64 p) ∧ p < l9[m].1 := fun h0 => by
                        have hk1 : m - 1 < l9.length := by omega
                        obtain ⟨g', e', _, hp0, _⟩ := row2 S9.out.2.1 hk1
                        obtain rfl : g = g' := by injection e' with e'; injection e'
                        exact ⟨_, (hIx.out.cell (p := ⟨g, (m - 1) * 2, none⟩) hgl).trans hp0, List.pairwise_iff_getElem.1 S9.out.2.2.2.1 (m - 1) m hk1 hmk (by omega)⟩
                      obtain ⟨y, hy⟩ : ∃ y, l9[m] = y := ⟨_, rfl⟩
                      rw [hy] at hc0 hc1 hsn hym hpv
                      rw [hbf] at hsn
                      obtain ⟨y1, y2⟩ := y
                      simp only at hc0 hc1 hsn hpv
                      obtain ⟨M, hM1, hM8, hMf, hy0, hyx⟩ := HD1.out.1 y1 y2 ((S9.out.2.2.1 _).1 hym)
                      subst hM1
                      have hgFl : gF < w9.heap.size := by have := S9.out.1.fr.size; have := S3.out.2.2.2.2.2.2.1; omega
                      have hcF : wr.cell? ⟨gF, M, none⟩ = some (.int .i64 y2) := by
                        refine (hIx.out.cell (p := ⟨gF, M, none⟩) hgFl).trans ?_
                        unfold World.cell?
                        rw [S9.out.1.blk]
                        have hl8 := S9.out.1.fl
                        have h1 : F8[M]? = some y2 := by
                          rw [List.getD_eq_getElem?_getD, List.getElem?_eq_getElem (by omega)] at hMf
                          rw [List.getElem?_eq_getElem (by omega)]
                          exact congrArg some hMf
                        simp [h1]
                      have HX := hid (And.intro hIx.out hsn)
                      have hgx : g < wr.heap.size := Nat.lt_of_lt_of_le hgl HX.out.1.size
                      have hgFx : gF < wr.heap.size := Nat.lt_of_lt_of_le hgFl HX.out.1.size
                      have e1 : ((y2 : Int) == 0) = false := by simp; omega
                      have e2 : decide ((x : Int) < y2) = false := by simp; omega
                      have e3 : decide (y2 < y2) = false := by simp
                      have hM80 : (M : Int) < 8 := by omega
                      clear hIx hsn hy hbf hmk hMf hgFl hgl hym
                      rcases Nat.eq_zero_or_pos m with hm0 | hm0
                      · have d0 : ¬ (0 : Int) < (m : Int) := by omega
                        have d00 : ¬ 0 < m := by omega
                        have f1 : ¬ y2 = 0 := by omega
                        have f2 : ¬ (x : Int) < y2 := by omega
                        have f3 : ¬ y2 < y2 := by omega
                        clear hpv hm0
                        go_wp2_with fail
                        obtain ⟨wy, hwy⟩ : ∃ wy, wr.alloc (.cells #[.int .i64 (M : Int), .int .i64 y2] 39) = wy := ⟨_, rfl⟩
                        obtain ⟨gy, hgy⟩ : ∃ gy, wr.heap.size = gy := ⟨_, rfl⟩
                        have r0 : wy.cell? ⟨gy, 0, none⟩ = some (.int .i64 (M : Int)) := by rw [← hwy, ← hgy]; exact (Blk.new wr 39 #[.int .i64 (M : Int), .int .i64 y2]).cell 0
                        have r1 : wy.cell? ⟨gy, 1, none⟩ = some (.int .i64 y2) := by rw [← hwy, ← hgy]; exact (Blk.new wr 39 #[.int .i64 (M : Int), .int .i64 y2]).cell 1
                        have rF : wy.cell? ⟨gF, M, none⟩ = some (.int .i64 y2) := by rw [← hwy]; exact (cell?_keep_alloc wr gF M hgFx _).trans hcF
                        have HY : Aside (Below w9.heap.size w9 wy) := ⟨by rw [← hwy]; exact bl_alloc HX.out.1 _ (Nat.le_refl _)⟩
                        rw [hwy, hgy]
                        clear hwy hgy hc0 hc1 hcF
                        go_big_quiet (fail)
                        rename_i nq
                        obtain ⟨wz, hwz⟩ : ∃ wz, wy.drewN nq = wz := ⟨_, rfl⟩
                        have HZ2 : Aside (Below w9.heap.size w9 wz) := ⟨by rw [← hwz]; exact bl_drewN HY.out _⟩
                        replace r0 : wz.cell? ⟨gy, 0, none⟩ = some (.int .i64 (M : Int)) := by rw [← hwz]; exact r0
                        replace r1 : wz.cell? ⟨gy, 1, none⟩ = some (.int .i64 y2) := by rw [← hwz]; exact r1
                        rw [hwz]
                        clear hwz rF
                        cases bf with
                        | true =>
                          go_wp2_with fail
                          go_roundg (n9 - 1 - m)
                          case rel => exact ⟨m + 1, by omega, by go_num, by rw [HX.out.2]; rfl, HZ2.out⟩
                          case measure => omega
                        | false =>
                          by_cases hMN : N = M
                          · obtain rfl := hMN
                            go_wp2_with fail
                            go_roundg (n9 - 1 - m)
                            case rel => exact ⟨m + 1, by omega, by go_num, by rw [HX.out.2, HBS.out]; simp, HZ2.out⟩
                            case measure => omega
                          · have heN : ((M : Int) == (N : Int)) = false := by simp; omega
                            have HEN := hid heN
                            clear hMN
                            go_wp2_with fail
                            go_roundg (n9 - 1 - m)
                            case rel => exact ⟨m + 1, by omega, by go_num, by rw [HX.out.2, HEN.out]; rfl, HZ2.out⟩
                            case measure => omega
                      · obtain ⟨p, hp, hpl⟩ := hpv hm0
                        have d0 : (0 : Int) < (m : Int) := by omega
                        have d00 : 0 < m := hm0
                        have f1 : ¬ y2 = 0 := by omega
                        have f2 : ¬ (x : Int) < y2 := by omega
                        have f3 : ¬ y2 < y2 := by omega
                        obtain ⟨m1, hm1⟩ : ∃ m1 : Nat, m - 1 = m1 := ⟨_, rfl⟩
                        have hm1w : IntKind.i64.wrap ((m : Int) - 1) = (m1 : Int) := by rw [wrap_nat (by omega) (by omega)]; omega
                        have hm1l : (m1 : Int) < (n9 : Int) := by omega
                        rw [hm1] at hp
                        clear hpv hm0 hm1
                        go_wp2_with fail
                        obtain ⟨wy, hwy⟩ : ∃ wy, wr.alloc (.cells #[.int .i64 (M : Int), .int .i64 y2] 39) = wy := ⟨_, rfl⟩
                        obtain ⟨gy, hgy⟩ : ∃ gy, wr.heap.size = gy := ⟨_, rfl⟩
                        have r0 : wy.cell? ⟨gy, 0, none⟩ = some (.int .i64 (M : Int)) := by rw [← hwy, ← hgy]; exact (Blk.new wr 39 #[.int .i64 (M : Int), .int .i64 y2]).cell 0
                        have r1 : wy.cell? ⟨gy, 1, none⟩ = some (.int .i64 y2) := by rw [← hwy, ← hgy]; exact (Blk.new wr 39 #[.int .i64 (M : Int), .int .i64 y2]).cell 1
                        have rF : wy.cell? ⟨gF, M, none⟩ = some (.int .i64 y2) := by rw [← hwy]; exact (cell?_keep_alloc wr gF M hgFx _).trans hcF
                        have rP : wy.cell? ⟨g, m1 * 2, none⟩ = some (.int .i64 p) := by rw [← hwy]; exact (cell?_keep_alloc wr g (m1 * 2) hgx _).trans hp
                        have HY : Aside (Below w9.heap.size w9 wy) := ⟨by rw [← hwy]; exact bl_alloc HX.out.1 _ (Nat.le_refl _)⟩
                        rw [hwy, hgy]
                        clear hwy hgy hc0 hc1 hcF hp
                        have f0 : ¬ (M : Int) ≤ p := by omega
                        go_big_quiet (fail)
                        rename_i nq
                        obtain ⟨wz, hwz⟩ : ∃ wz, wy.drewN nq = wz := ⟨_, rfl⟩
                        have HZ2 : Aside (Below w9.heap.size w9 wz) := ⟨by rw [← hwz]; exact bl_drewN HY.out _⟩
                        replace r0 : wz.cell? ⟨gy, 0, none⟩ = some (.int .i64 (M : Int)) := by rw [← hwz]; exact r0
                        replace r1 : wz.cell? ⟨gy, 1, none⟩ = some (.int .i64 y2) := by rw [← hwz]; exact r1
                        rw [hwz]
                        clear hwz rF rP
                        cases bf with
                        | true =>
                          go_wp2_with fail
                          go_roundg (n9 - 1 - m)
                          case rel => exact ⟨m + 1, by omega, by go_num, by rw [HX.out.2]; rfl, HZ2.out⟩
                          case measure => omega
                        | false =>
                          by_cases hMN : N = M
                          · obtain rfl := hMN
                            go_wp2_with fail
                            go_roundg (n9 - 1 - m)
                            case rel => exact ⟨m + 1, by omega, by go_num, by rw [HX.out.2, HBS.out]; simp, HZ2.out⟩
                            case measure => omega
                          · have heN : ((M : Int) == (N : Int)) = false := by simp; omega
                            have HEN := hid heN
                            clear hMN
                            go_wp2_with fail
                            go_roundg (n9 - 1 - m)
                            case rel => exact ⟨m + 1, by omega, by go_num, by rw [HX.out.2, HEN.out]; rfl, HZ2.out⟩
                            case measure => omega
                    · obtain rfl : m = n9 := by omega
                      have hbt : bf = true := by
                        rw [← hbf, List.take_of_length_le (by rw [S9.out.2.2.2.2]; omega), List.any_eq_true]
                        refine ⟨((N : Int), (dty P N).getD (x : Int)), (S9.out.2.2.1 _).2 HD1.out.2, ?_⟩
                        cases hdn : dty P N with
                        | none => simp
                        | some s => simp
                      subst hbt
                      have hfrm := cframes_any a7 P7 L7 D7 wr (S9.out.1.below hIx.out).st S9.out.1.inv.wf
                      rw [S9.out.1.ad.gp] at hfrm
                      obtain ⟨fl7, hfl7⟩ : ∃ fl7, P7.frames.length = fl7 := ⟨_, rfl⟩
                      rw [hfl7] at hfrm
                      have dL : decide ((fl7 : Int) < (m : Int)) = false := by simp; omega
                      have dL2 : decide (fl7 < m) = false := by simp; omega
                      have hmm : decide ((m : Int) < (m : Int)) = false := by simp
                      have HS9 : Aside (DSt w3 a0 a7 gF wr P7 L7 D7 F8 (j + 1)) := ⟨S9.out.1.below hIx.out⟩
                      clear hIx hbf hml hfl7 hlf9
                      go_wp2_with fail
                      refine hfrm.mono ?_
                      rintro e w' ⟨rfl, rfl⟩
                      clear hfrm
                      go_wp2_with fail
                      go_roundg (n - 1 - k)
                      case rel => exact ⟨k + 1, by omega, by go_num, _, _, _, _, _, _, HS9.out⟩
                      case measure => omega
      · go_wp2_with fail
        refine hap.mono ?_
        rintro e w4 ⟨-, hap2⟩
        obtain ⟨rfl, hP4, hb4⟩ := hap2 hfull
        have S4 : Aside (DSt w3 a0 a gF w4 P L D F j) := ⟨HS.out.below hb4⟩
        clear hap hap2 hP4 hb4
        go_wp2_with fail
        go_roundg (n - 1 - k)
        case rel => exact ⟨k + 1, by omega, by go_num, _, _, _, _, _, _, S4.out⟩
        case measure => omega
    · have hkn : ¬ (k : Int) < (n : Int) := by omega
      have hJ := hS.j
      have hma : a.ma ≤ 1099511627776 := by have := hS.ad.ma; have := S3.out.2.2.2.1; omega
      obtain ⟨ks, hks, -, -⟩ := hS.st.pool.atm.keys Tryz.underlying3
      replace hks := keys_atm hks
      have hfl := cflush_any a P L D ks wr hS.st hS.inv.ok hS.inv.wf hks hma hS.inv.log (by have := hS.steps; omega)
      rw [hS.ad.gp] at hfl
      have hF := flush_law hS.inv hks (by have := hS.steps; omega)
      obtain ⟨P', hP'⟩ : ∃ P', (flushR P L D ks).1 = P' := ⟨_, rfl⟩
      obtain ⟨L', hL'⟩ : ∃ L', (flushR P L D ks).2.1 = L' := ⟨_, rfl⟩
      obtain ⟨D', hD'⟩ : ∃ D', (flushR P L D ks).2.2 = D' := ⟨_, rfl⟩
      rw [hP', hL', hD'] at hfl hF
      have HF := hid hF
      clear hI hS hks hP' hL' hD' hF
      go_wp2_with fail
      refine hfl.mono ?_
      rintro e w4 ⟨rfl, hP4, hF4⟩
      have hdc : ∀ k, dty P' k = none := fun k => by
        unfold dty
        cases hf : frOf P' k with
        | none => rfl
        | some f =>
          obtain ⟨i, _, hi, _⟩ := HF.out.inv.wf.of_frOf hf
          simp only
          rw [if_neg (by rw [HF.out.clean f (List.mem_of_getElem? hi)]; simp)]
      have hdi := cDirty_any a P' L' D' w4 hP4 HF.out.inv.wf hma
      rw [HS.out.ad.gp] at hdi
      have hFr4 : Fr (fun b => aT a0 b ∨ b = gF) w3 w4 := HS.out.fr.trans hF4 (fun b hb hh => .inl (HS.out.ad.foot b hb hh))
      have S4 : Aside (Below w.heap.size w w4 ∧ (∀ k, dty P' k = none)) := ⟨S3.out.2.1.trans (hFr4.below S3.out.2.1.size S3.out.2.2.1), hdc⟩
      clear hP4 hF4 hdc hFr4 hfl
      go_wp2_with fail
      refine hdi.mono ?_
      rintro e w5 ⟨v5, ks5, rfl, hks5, hown5, hb5⟩
      rw [dirtyL_nil HF.out.inv.wf S4.out.2] at hown5
      obtain ⟨A5, c5, rfl⟩ := own_form_n hown5
      have S5 : Aside (Below w.heap.size w w5) := ⟨S4.out.1.trans (hb5.mono S4.out.1.size)⟩
      clear hks5 hown5 hb5 hdi
      rw [show ([] : List (Int × Int)).length = 0 from rfl]
      go_wp2_with fail
      go_ret
      exact ⟨rfl, S5.out⟩
end Go.Proofs.YthfidlhefkjpdaaGreatDoor

namespace Go.Proofs.YthfidlhefkjpdaaGreatDoor
open Go.ChangeShapes Go.WideShapes Go.ChangeAt Go.RowKit Go.Deep Go.Joins

theorem wf64_of {n : Int} (h : (Lit.int .i64 n).wf = true) : wf64 n := by
  simp only [Lit.wf, Bool.and_eq_true, decide_eq_true_eq] at h
  exact h
theorem plain_addr {W : World} {x : Addr} {u : Value} (h : W.cell? (x.add 0) = some u) : ∃ b off, x = ⟨b, off, none⟩ ∧ b < W.heap.size ∧ ∀ j, x.add j = ⟨b, off + j, none⟩ := by
  have h' : W.cell? x = some u := h
  obtain ⟨b, off, sp⟩ := x
  have hsp : sp = none := by
    cases sp with
    | none => rfl
    | some y =>
      exfalso
      unfold World.cell? at h'
      split at h'
      · simp at h'
      · cases h'
  subst hsp
  have hadd : ∀ j, (⟨b, off, none⟩ : Addr).add j = ⟨b, off + j, none⟩ := fun j => by unfold Addr.add; split <;> simp_all
  exact ⟨b, off, rfl, World.block_lt_of_cell? W _ h', hadd⟩

set_option maxRecDepth 100000 in
/-- an argument that is a slice of ints -/
theorem open_ints_arg {H : Type} {enc : TypeId × Value → H} {W : World} {r : Reach} {b0 : Nat} {v : Value} {d : DataW H} {p : List MemPlace} (hv : Value.okWide Tryz.prog W r b0 22 v)
    (h : DataW.Trod enc Tryz.prog W 0 (fun _ => true) true 22 v d p) (hw : (d.weights Tryz.prog 22).all (· ≤ reachBytes) = true) : ∃ A n c zs, v = .slice A n c ∧ RdZ W A n zs ∧ n ≤ 17592186044416 := by
  obtain ⟨A, n, c, rfl⟩ := okWide_slice Tryz.underlying22 hv
  obtain ⟨fuel, hf⟩ := h
  refine ⟨A, n, c, ?_⟩
  rcases open_ints Tryz.underlying22 Tryz.underlying3 (by kernel_rfl) hf with ⟨hcs, _⟩ | ⟨x, l, c', zs, hcs, _, hl, hm, hz, hx, hcell, hwz⟩
  · simp [Value.cells] at hcs
    obtain ⟨rfl, rfl, rfl⟩ := hcs
    exact ⟨[], rfl, ⟨rfl, (fun _ h => by cases h), fun h => absurd h (Nat.lt_irrefl 0)⟩, by omega⟩
  · simp [Value.cells] at hcs
    obtain ⟨rfl, rfl, rfl⟩ := hcs
    have hz' : zs.length = c := by simpa using hz
    have hsz : zs.length * 8 ≤ 140737488351232 := by
      have hd : d = .slice (lits .i64 (zs.take n)) (lits .i64 (zs.drop n)) := congrArg Prod.fst hx
      have hw2 : (DataW.weightsEach Tryz.prog [22] [d]).all (· ≤ reachBytes) = true := by
        simpa [DataW.weightsEach] using hw
      have := sized_slice hw2 (j := 0) (t := 22) (e := 3) rfl (by rw [hd]; rfl) Tryz.underlying22
      rw [show Tryz.prog.bytesOf 3 = 8 by kernel_rfl] at this
      simp only [lits, List.length_map, List.length_take, List.length_drop] at this
      unfold reachBytes at this
      omega
    have hll : (zs.take n).length = n := by simp; omega
    refine ⟨zs.take n, rfl, ⟨hll, fun z hz => wf64_of (hwz z (List.mem_of_mem_take hz)), fun h0 => ?_⟩, by omega⟩
    obtain ⟨b, off, rfl, hb, hadd⟩ := plain_addr (hcell 0 (by omega))
    refine ⟨b, off, rfl, hb, fun j hj => ?_⟩
    have h2 := hcell j (by omega)
    rw [hadd] at h2
    rw [h2, List.getElem_take, List.getD_eq_getElem?_getD, List.getElem?_eq_getElem (by omega)]
    rfl

theorem own_cacheDirty : ownKnob Tryz.prog.godebug = none := by kernel_rfl
theorem laidOut_cacheDirty : laidOutB Tryz.prog = true := by kernel_rfl

set_option maxRecDepth 100000 in
theorem cacheDirty_lifted (os : Os) (started : os.Started) (H : Type) (enc : TypeId × Value → H) :
    ReturnsInHanded {} Tryz.checked os 3 .any (fun w args => (Rows.cacheDirtySpec.pre enc Tryz.prog Tryz.f3 Rows.cacheDirtyRow.domain false w args ∧ laidMetH Tryz.prog Rows.cacheDirtyRow.laid w) ∧ sizedMet enc Tryz.prog Tryz.f3 (OpenSpec.ofChange Rows.cacheDirtySpec) false w args)
      (Rows.cacheDirtySpec.post enc Tryz.prog Tryz.f3 false true false false) := by
  refine returnsInHanded_of_change_and (C := Tryz.checked) (X := fun w _ => laidMetH Tryz.prog Rows.cacheDirtyRow.laid w) (fun _ _ _ hh h => h.of_heap hh) own_cacheDirty started (by kernel_rfl) Tryz.func3
    (ChangeSpec.witness_shaped (enc := enc) (C := Tryz.checked) (os := os) (X := fun w _ => laidMetH Tryz.prog Rows.cacheDirtyRow.laid w) false (World.laidAll Tryz.prog os Rows.cacheDirtyRow.laid) #[.int .i64 0, .slice none 0 0] 8 (World.laidAll_os _ _ _)
      (World.shaped_of_ZipB (by kernel_rfl) (by kernel_rfl)) (by kernel_rfl) (by kernel_rfl) (by kernel_rfl)
      (by rw [MakeChecks.laidMetH_plain _ _ _ (by kernel_rfl)]; exact laidMet_laidAll _ (by kernel_rfl) (by kernel_rfl))) ?_
  intro W base args ds gs before hval0 hW hcnd hsz0 hL _
  have hsz : (DataW.weightsEach Tryz.prog (Tryz.f3.params.toList ++ Rows.cacheDirtySpec.plain.varTypes Tryz.prog) (ds ++ gs)).all (· ≤ reachBytes) = true := hsz0
  have hval : ∀ (j : Nat) t v, Tryz.f3.params[j]? = some t → args[j]? = some v → Value.okWide Tryz.prog W .any base t v := hval0
  have hW' := hW
  obtain ⟨p, q, hA0, hV, rfl, hfz, hnd⟩ := hW
  have hA : DataW.TrodAll enc Tryz.prog W 0 (fun _ => true) true Tryz.f3.params.toList args.toList ds p := hA0
  rw [Tryz.params3] at hA hval hsz
  obtain ⟨v0, vs0, d0, ds0, p0, q0, hargs, rfl, rfl, h0, r0⟩ := trodAll_cons hA
  obtain ⟨v1, vs1, d1, ds1, p1, q1, rfl, rfl, rfl, h1, r1⟩ := trodAll_cons r0
  obtain ⟨rfl, rfl, rfl⟩ := trodAll_nil r1
  obtain rfl : args = #[v0, v1] := by cases args; simp_all
  obtain ⟨rfl, rfl⟩ := trodVars_none hV
  have lt1 : ∀ x ∈ p1, x.block < W.heap.size := by obtain ⟨m, hm⟩ := h1; exact DataW.trod_lt m _ _ _ hm
  have k1 := h1
  have hw1 : (d1.weights Tryz.prog 22).all (· ≤ reachBytes) = true := by
    rw [List.all_eq_true] at hsz ⊢
    intro x hx
    exact hsz x (DataW.weights_mem_each (j := 1) rfl rfl x hx)
  obtain ⟨a0, rfl, rfl, rfl, w0⟩ := open_int Tryz.underlying3 (hval 0 3 v0 rfl rfl) h0
  obtain ⟨A, n, c, zs, rfl, hR, hn⟩ := open_ints_arg (hval 1 22 v1 rfl rfl) h1 hw1
  clear hA0 hval0 hsz0 hsz hL
  refine (cacheDirty_any a0 A n c zs W hR hn).mono fun e W' ⟨he, bel⟩ => ?_
  subst he
  exact ⟨_, rfl, _, _, _, [], _, [], hW', trodAll_mk1 (shut_bool Tryz.underlying4 _), (trodAll_cons_mk (shut_int Tryz.underlying3 w0) (trodAll_cons_mk (Below.trod laidOut_cacheDirty (by kernel_rfl) (of_decide_eq_true (by kernel_rfl)) k1 bel lt1) trodAll_mk0)), rfl, bel.frame _, fun h => by cases h⟩

theorem cacheDirty_holds : Rows.CacheDirtySaid :=
  OpenClaim.holds_of_wide 3 Tryz.f3 rfl rfl rfl rfl rfl rfl rfl ⟨rfl, rfl, rfl, rfl, rfl⟩ rfl rfl rfl rfl rfl (by kernel_rfl) Tryz.func3 (by kernel_rfl)
    (of_decide_eq_true (by kernel_rfl)) (by unfold Func.isWrapper; first | (rw [if_pos (by decide +kernel)]; kernel_rfl) | (rw [if_neg (by decide +kernel)]; exact ⟨rfl, rfl⟩))
    (fun os started H enc _ => cacheDirty_lifted os started H enc)

theorem cacheDirty_card_holds : Rows.CacheDirtyCardSaid :=
  Claim7.holds_tied_plain_at .later [] [.data, .pinned] true (true, "2810cbce2d18f1677c9ecd3f73b1fbdbeb35012674256c037e22ef2a8513aadf") false
    cacheDirty_holds (fun _ h => by cases h) (by kernel_rfl) (fun _ h => by cases h) cacheDirty_row_tie rfl ⟨rfl, rfl⟩ (by kernel_rfl) rfl
    (fun f fn hf hfn => by
      obtain rfl : f = 3 := Option.some.inj ((show Tryz.prog.funcNamed "skein/skeinlaw10.CacheDirty" = some 3 by kernel_rfl).symm.trans hf) |>.symm
      obtain rfl : fn = Tryz.f3 := (Option.some.inj (Tryz.func3.symm.trans hfn)).symm
      exact ⟨by kernel_rfl, fun j t ht => by
        rw [Tryz.params3] at ht
        have hm : t ∈ [3, 22] := by simpa using Array.mem_of_getElem? ht
        have hall : ([3, 22].all fun u => !Tryz.prog.wantsStandIn u) = true := by kernel_rfl
        exact (show Tryz.prog.wantsStandIn t = false by simpa using List.all_eq_true.1 hall t hm)⟩)
    (by kernel_rfl)
#print axioms cacheDirty_card_holds
end Go.Proofs.YthfidlhefkjpdaaGreatDoor
