/- The law's alive. -/
import Derived.Test.YthfidlhefkjpdaaGreatDoorTbl
import Derived.Lib.SlBytesConst
namespace Go.Proofs.YthfidlhefkjpdaaGreatDoor
open Go.RowKit Go.Maps

theorem rd_marked (w : World) (bs : List UInt8) (k : Nat) : RdB (w.alloc (.cells (cellsB bs) 5 (k, k + 1))) (some ⟨w.heap.size, 0, none⟩) bs.length bs := by
  refine ⟨rfl, fun _ => ⟨w.heap.size, 0, rfl, by simp, fun i hi => ?_⟩⟩
  unfold World.cell?
  rw [Nat.zero_add]
  simp only [alloc_new]
  simp [cellsB, u8, hi]

set_option maxRecDepth 100000 in
set_option maxHeartbeats 2000000 in
theorem alive_any (w : World) : Calls Tryz.prog 8 #[] w fun e w' => e = .returned (.bool true) ∧ Below w.heap.size w w' := by
  have hmd := lawmade_any none 0 0 [] 3 1 1 w (RdB.nil _ _) (by omega) (by omega) (by decide)
  rw [show ((3 : Nat) : Int) = 3 from rfl] at hmd
  have kc := fun (w : World) (C : Array Value) (n c : Nat) => Lib.run_convert_bytes_const (P := Tryz.prog) w 43 5 C n c Tryz.underlying43 Tryz.underlying5
  go_enter Tryz.func8, Tryz.ntmps8
  go_wp2_with fail
  refine hmd.mono ?_
  rintro e w1 ⟨a, rfl, hP1, hfar1, hma1, hmn1, hb1⟩
  have S1 : Aside (PSt w1 a (madeP 3 1) madeL (madeD [] 3) ∧ (∀ b, aT a b → w.heap.size ≤ b) ∧ a.ma = 0 ∧ a.mn = 0 ∧ Below w.heap.size w w1) := ⟨hP1, hfar1, hma1, hmn1, hb1⟩
  clear hP1 hfar1 hma1 hmn1 hb1 hmd
  have hI1 := made_inv 3 1 (by omega) (by omega) (by omega)
  have hW1 := made_wal 3 1 []
  have hm0 := made_wf 3 (by omega) [] (by simp)
  obtain ⟨x, hx⟩ : ∃ x : Nat, (x : Int) = madeL.lsn 0 := ⟨33554432, by decide⟩
  have hxl : x = 33554432 := by have : madeL.lsn 0 = 33554432 := by decide
                                omega
  -- Append
  have hap := lappend_st a (madeP 3 1) madeL (madeD [] 3) 1 (some ⟨w1.heap.size, 0, none⟩) 1 1 [113] (w1.alloc (.cells #[.int .u8 113] 5 (1, 2))) (S1.out.1.below (bl_alloc (Below.refl _ _) _)) hI1.ok.lw rfl rfl (by omega) (by omega) (rd_marked w1 [113] 1)
    (fun b o _ e hb => by
      injection e with e
      injection e with e
      have := S1.out.1.lt hb
      omega) (by omega) (by show (0 : Nat) ≤ _; omega)
  rw [show ((1 : Nat) : Int) = 1 from rfl] at hap
  go_wp2_with fail
  refine hap.mono ?_
  rintro e w2 ⟨hap1, -⟩
  obtain ⟨rfl, a2, hP2, hF2, hA2⟩ := hap1 (by decide)
  rw [show madeL.lsn madeL.stream.length = (x : Int) from hx.symm]
  have hI2 := hI1.appended (recL 1 1 [113]) (madeL.nrec + 1) (by decide)
  have hW2 := hW1.appended (recL 1 1 [113]) (madeL.nrec + 1)
  have hxs : (x : Int) < ({ madeL with stream := madeL.stream ++ recL 1 1 [113], nrec := madeL.nrec + 1 } : Lg).lsn ({ madeL with stream := madeL.stream ++ recL 1 1 [113], nrec := madeL.nrec + 1 } : Lg).stream.length := by
    rw [hxl]; decide
  obtain ⟨P0, hP0⟩ : ∃ P0, madeP 3 1 = P0 := ⟨_, rfl⟩
  obtain ⟨D0, hD0⟩ : ∃ D0, madeD [] 3 = D0 := ⟨_, rfl⟩
  obtain ⟨L2, hL2⟩ : ∃ L2, ({ madeL with stream := madeL.stream ++ recL 1 1 [113], nrec := madeL.nrec + 1 } : Lg) = L2 := ⟨_, rfl⟩
  have k0 : P0.count = 3 ∧ P0.base = 4 ∧ P0.most = 1 ∧ (P0.pins = fun _ => none) ∧ (∀ k, dty P0 k = none) := by rw [← hP0]; exact ⟨rfl, rfl, rfl, rfl, fun _ => rfl⟩
  have k1 : ∀ N, N < 3 → lc P0 D0 N = zeros 512 := fun N hN => by
    rw [← hP0, ← hD0]
    show (madeD [] 3).has (4 + N) = _
    exact made_has 3 (by omega) (by omega)
  have k2 : D0.steps = 4 ∧ L2.count = 4 ∧ L2.run = 2 ∧ L2.safe = 0 := by rw [← hD0, ← hL2]; exact ⟨hm0.2.2.2.2, rfl, rfl, rfl⟩
  have k3 : ∀ N, N < 3 → (madeD [] 3).has (4 + N) = zeros 512 := fun N hN => made_has 3 (by omega) (by omega)
  rw [hP0, hD0, hL2] at hI2 hW2 hP2
  rw [hL2] at hxs
  rw [hD0] at k3
  have K : Aside (Inv P0 L2 D0 ∧ Wal P0 L2 D0 (fun N => D0.has (4 + N)) ∧ (P0.count = 3 ∧ P0.base = 4 ∧ P0.most = 1 ∧ (P0.pins = fun _ => none) ∧ (∀ k, dty P0 k = none)) ∧ (∀ N, N < 3 → lc P0 D0 N = zeros 512) ∧ (D0.steps = 4 ∧ L2.count = 4 ∧ L2.run = 2 ∧ L2.safe = 0) ∧ (x : Int) < L2.lsn L2.stream.length ∧ x = 33554432 ∧ (∀ N, N < 3 → D0.has (4 + N) = zeros 512)) := ⟨hI2, hW2, k0, k1, k2, hxs, hxl, k3⟩
  have S2 : Aside (PSt w2 a2 P0 L2 D0 ∧ Fr (aT a) w1 w2 ∧ AdN w1 a a2 0) := ⟨hP2, ((Fr.refl _ w1).alloc _).trans hF2 (fun _ _ h => h), (AdN.refl w1 a 0).trans hA2 (by simp)⟩
  have S1' : Aside ((∀ b, aT a b → w.heap.size ≤ b) ∧ a.ma = 0 ∧ a.mn = 0 ∧ Below w.heap.size w w1) := ⟨S1.out.2⟩
  clear hI2 hW2 k0 k1 k2 k3 hxs hxl hP2 hF2 hA2 hap hap1 hI1 hW1 hm0 hx S1 hP0 hD0 hL2
  -- one, Put
  have hone := one_any (some ⟨w2.heap.size, 0, none⟩) 1 1 [97] (w2.alloc (.cells #[.int .u8 97] 5 (1, 2))) (rd_marked w2 [97] 1)
  go_wp2_with fail
  refine hone.mono ?_
  rintro e w3 ⟨g, rfl, hG3, hb3⟩
  rw [World.size_alloc] at hG3 hb3
  have hb23 : Below w2.heap.size w2 w3 := (bl_alloc (Below.refl _ _) _).trans (hb3.mono (by omega))
  have hput := cput_inv a2 P0 L2 D0 0 (w2.heap.size + 1) g x (oneP [97]) w3 (S2.out.1.below hb23) K.out.1 (by rw [K.out.2.2.1.1]; omega) (fun k => by rw [K.out.2.2.1.2.2.2.1]; simp) (by have := S2.out.2.2.ma; have := S1'.out.2.1; omega) (by rw [K.out.2.2.2.2.1.1]; omega) hG3 (oneP_wf _) (fun b hb => by have := S2.out.1.lt hb; omega) (by rw [K.out.2.2.2.2.2.2.1]; omega)
  rw [S2.out.2.2.gp, show ((0 : Nat) : Int) = 0 from rfl] at hput
  have S3 : Aside (Fr (aT a) w1 w3) := ⟨S2.out.2.1.trans (Fr.of_below hb23 (aT a)) (fun _ _ h => h)⟩
  clear hG3 hb3 hb23 hone
  go_wp2_with fail
  refine hput.mono ?_
  rintro e w4 ⟨rfl, a4, P4, L4, D4, hP4, hR4, hF4, hA4⟩
  have S4 : Aside (PSt w4 a4 P4 L4 D4 ∧ PutR P0 P4 L2 L4 D0 D4 0 { oneP [97] with lsn := (x : Int) } ∧ Fr (aT a) w1 w4 ∧ AdN w1 a a4 1) := ⟨hP4, hR4, S2.out.2.2.fr S3.out hF4, S2.out.2.2.trans hA4 S3.out.size⟩
  clear hP4 hR4 hF4 hA4 hput
  -- Get(1)
  have hget := cget_inv a4 P4 L4 D4 1 w4 S4.out.1 S4.out.2.1.inv (by rw [S4.out.2.1.stay.count, K.out.2.2.1.1]; omega) (fun k => by rw [S4.out.2.1.pins, K.out.2.2.1.2.2.2.1]; simp) (by have := S4.out.2.2.2.ma; have := S1'.out.2.1; omega) (by have := S4.out.2.1.stay.steps; have := K.out.2.2.2.2.1; omega)
  rw [S4.out.2.2.2.gp, show ((1 : Nat) : Int) = 1 from rfl] at hget
  go_wp2_with fail
  refine hget.mono ?_
  rintro e w5 ⟨a5, g5, q5, P5, L5, D5, rfl, hP5, ⟨base5, hG5, hbs5, hfar5⟩, hq5, hlc5, ⟨i5, hgot5⟩, hF5, hA5⟩
  have hq5z : q5 = ⟨0, 0, 0, []⟩ := by
    rw [S4.out.2.1.lc 1 (by rw [K.out.2.2.1.1]; omega), if_neg (by omega), K.out.2.2.2.1 1 (by omega), pageOf_zero] at hlc5
    exact (Option.some.inj hlc5).symm
  subst hq5z
  have S5 : Aside (PSt w5 a5 P5 L5 D5 ∧ Got P4 P5 L4 L5 D4 D5 i5 1 ∧ Fr (aT a) w1 w5 ∧ AdN w1 a a5 2 ∧ PageAt w5 base5 g5 ⟨0, 0, 0, []⟩ ∧ (∀ b, aT a5 b → b < base5) ∧ w4.heap.size ≤ base5) := ⟨hP5, hgot5, S4.out.2.2.2.fr S4.out.2.2.1 hF5, S4.out.2.2.2.trans hA5 S4.out.2.2.1.size, hG5, hfar5, hbs5⟩
  clear hP5 hgot5 hG5 hbs5 hfar5 hq5 hlc5 hF5 hA5 hget
  -- what is known now
  obtain ⟨q, hq⟩ : ∃ q : Pg, ({ oneP [97] with lsn := (x : Int) } : Pg) = q := ⟨_, rfl⟩
  have hqw : q.wf := by rw [← hq]; exact ⟨by show (0 : Int) ≤ x; omega, by show (x : Int) ≤ _; have := K.out.2.2.2.2.2.2.1; omega, (oneP_wf [97]).extra, (oneP_wf [97]).slots, (oneP_wf [97]).item, (oneP_wf [97]).used⟩
  have hql : q.lsn = (x : Int) := by rw [← hq]
  have hR4 := S4.out.2.1
  rw [hq] at hR4
  have hG5 := S5.out.2.1
  have hcnt5 : P5.count = 3 := by rw [hG5.same.stay.count, hR4.stay.count, K.out.2.2.1.1]
  have hbase5 : P5.base = 4 := by rw [hG5.same.stay.base, hR4.stay.base, K.out.2.2.1.2.1]
  have hmost5 : P5.most = 1 := by rw [hG5.same.stay.most, hR4.stay.most, K.out.2.2.1.2.2.1]
  have hpins5 : P5.pins = fun _ => none := by rw [hG5.same.pins, hR4.pins, K.out.2.2.1.2.2.2.1]
  obtain ⟨f5, qf5, hf5, hfn5, -⟩ := hG5.fr
  have hfr5 : P5.frames = [f5] := (one_frame (by have := hG5.inv.wf.len; omega) hf5).2
  have hno0 : frOf P5 0 = none := by
    cases hx : frOf P5 0 with
    | none => rfl
    | some y =>
      obtain ⟨j, _, hj, hjn⟩ := hG5.inv.wf.of_frOf hx
      rw [hfr5] at hj
      have : y = f5 := by
        match j, hj with
        | 0, hj => simpa using hj.symm
        | j + 1, hj => simp at hj
      rw [this, hfn5] at hjn
      omega
  have hD5 : D5.has 4 = bytesP q := by
    have h1 := hG5.same.lc 0 (by rw [hR4.stay.count, K.out.2.2.1.1]; omega)
    rw [hR4.lc 0 (by rw [K.out.2.2.1.1]; omega), if_pos rfl] at h1
    rw [← h1]
    unfold lc
    rw [show ((0 : Nat) : Int) = 0 from rfl, hno0, hbase5]
  have hsafe5 : (x : Int) < L5.lsn L5.safe := by
    have hw5 := hG5.wal _ (hR4.wal _ (by rw [hql]; exact K.out.2.2.2.2.2.1) K.out.2.1)
    rcases hw5.disk 0 (by rw [hcnt5]; omega) with e | ⟨r, _, e, hr⟩
    · rw [hbase5, hD5, K.out.2.2.2.2.2.2.2 0 (by omega)] at e
      have := bytesP_nz hqw
      rw [e, allZ_512] at this
      cases this
    · rw [hbase5, hD5, pageOf_bytes hqw] at e
      obtain rfl := Option.some.inj e
      rw [← hql]
      exact hr
  have hdt5 : ∀ k, dty P5 k = none := fun k => by
    cases hd : dty P5 k with
    | none => rfl
    | some s =>
      by_cases hk : k = 0
      · subst hk
        unfold dty at hd
        rw [hno0] at hd
        cases hd
      · have := hR4.dk k s (by omega) (hG5.same.dty k s hd)
        rw [K.out.2.2.1.2.2.2.2] at this
        cases this
  have hst5 : D5.steps ≤ 100 ∧ 0 ≤ D5.steps := by
    have h1 := hG5.same.stay.steps
    have h2 := hR4.stay.steps
    have h3 := K.out.2.2.2.2.1
    have h4 := hR4.stay.cnt
    have h5 := hG5.inv.ok.dw.s0
    omega
  have K5 : Aside (Inv P5 L5 D5 ∧ (P5.count = 3 ∧ P5.base = 4 ∧ P5.most = 1 ∧ P5.pins = (fun _ => none) ∧ P5.frames = [f5] ∧ f5.n = 1) ∧ D5.has 4 = bytesP q ∧ (x : Int) < L5.lsn L5.safe ∧ (∀ k, dty P5 k = none) ∧ (D5.steps ≤ 100 ∧ 0 ≤ D5.steps) ∧ q.wf ∧ q.lsn = (x : Int) ∧ frOf P5 1 = some f5 ∧ frOf P5 0 = none) :=
    ⟨hG5.inv, ⟨hcnt5, hbase5, hmost5, hpins5, hfr5, hfn5⟩, hD5, hsafe5, hdt5, hst5, hqw, hql, by have := hG5.inv.wf.frOf hf5; rw [hfn5] at this; exact this, hno0⟩
  have S5' : Aside (PSt w5 a5 P5 L5 D5 ∧ Fr (aT a) w1 w5 ∧ AdN w1 a a5 2 ∧ PageAt w5 base5 g5 ⟨0, 0, 0, []⟩ ∧ (∀ b, aT a5 b → b < base5) ∧ base5 ≤ w5.heap.size) := ⟨S5.out.1, S5.out.2.2.1, S5.out.2.2.2.1, S5.out.2.2.2.2.1, S5.out.2.2.2.2.2.1, Nat.le_of_lt (by have := S5.out.2.2.2.2.1; obtain ⟨h1, v, vs, hB, _⟩ := this; have := hB.lt; omega)⟩
  clear hq hqw hql hR4 hG5 hcnt5 hbase5 hmost5 hpins5 hf5 hfn5 hfr5 hno0 hD5 hsafe5 hdt5 hst5 S5 S4 S3 S2 K
  -- Read, Parse
  have hread := read_any a5.gd a5.gs a5.gm D5 4 w5 S5'.out.1.ld.disk K5.out.1.ok.dw K5.out.1.ok.doff (by have := K5.out.1.ok.pb; have := K5.out.2.1; omega)
  rw [S5'.out.2.2.1.gd, show ((4 : Nat) : Int) = 4 from rfl] at hread
  go_wp2_with fail
  refine hread.mono ?_
  rintro e w6 ⟨g6, rfl, hg6, -, hb6⟩
  have hR6 : RdB w6 (some ⟨g6, 0, none⟩) 512 (bytesP q) := by
    have := rd_of_cells hg6
    rw [K5.out.2.2.1, bytesP_length K5.out.2.2.2.2.2.2.1] at this
    exact this
  have hpar := parse_ok (some ⟨g6, 0, none⟩) 512 (bytesP q) q w6 hR6 (by omega) (by omega) (parse_back K5.out.2.2.2.2.2.2.1)
  have S6 : Aside (Below w5.heap.size w5 w6) := ⟨hb6⟩
  clear hg6 hb6 hR6 hread
  go_wp2_with fail
  refine hpar.mono ?_
  rintro e w7 ⟨g7, rfl, hG7, hb7⟩
  have S7 : Aside (PSt w7 a5 P5 L5 D5 ∧ Fr (aT a) w1 w7 ∧ PageAt w7 base5 g5 ⟨0, 0, 0, []⟩ ∧ PageAt w7 w6.heap.size g7 q ∧ base5 ≤ w6.heap.size) := by
    have hb57 : Below w5.heap.size w5 w7 := S6.out.trans (hb7.mono S6.out.size)
    exact ⟨S5'.out.1.below hb57, S5'.out.2.1.trans (Fr.of_below hb57 (aT a)) (fun _ _ h => h), S5'.out.2.2.2.1.below hb57, hG7, Nat.le_trans S5'.out.2.2.2.2.2 S6.out.size⟩
  clear hG7 hb7 hpar
  -- Pin, Pin
  have hpin1 := cpin_hit a5 P5 L5 D5 1 f5 w7 S7.out.1 K5.out.1 (by rw [K5.out.2.1.1]; omega) K5.out.2.2.2.2.2.2.2.2.1 (by have := S5'.out.2.2.1.ma; have := S1'.out.2.1; omega) (by have := S5'.out.2.2.1.mn; have := S1'.out.2.2.1; omega) (by have := K5.out.2.2.2.2.2.1; omega) (by rw [K5.out.2.1.2.2.2.1]; simp)
  rw [S5'.out.2.2.1.gp, show ((1 : Nat) : Int) = 1 from rfl] at hpin1
  go_wp2_with fail
  refine hpin1.mono ?_
  rintro e w8 ⟨rfl, a8, P8', hP8, ⟨i8, hG8, hP8e⟩, hF8, hA8⟩
  obtain ⟨P8, hP8d⟩ : ∃ P8 : Pl, ({ P8' with pins := fun k => if k = (1 : Int) then some ((P5.pins 1).getD 0 + 1) else P5.pins k } : Pl) = P8 := ⟨_, rfl⟩
  rw [hP8d] at hP8
  have hpins8 : P8.pins = fun k => if k = (1 : Int) then some 1 else none := by rw [← hP8d, K5.out.2.1.2.2.2.1]; rfl
  have hI8 : Inv P8 L5 D5 := by rw [← hP8d]; exact hG8.inv.pinned _
  have hst8 := hG8.same.stay
  have hbs8 : P8.count = 3 ∧ P8.base = 4 ∧ P8.most = 1 := by rw [← hP8d]; exact ⟨hst8.count.trans K5.out.2.1.1, hst8.base.trans K5.out.2.1.2.1, hst8.most.trans K5.out.2.1.2.2.1⟩
  have hdt8 : ∀ k, dty P8 k = none := fun k => by
    rw [← hP8d]
    show dty P8' k = none
    cases hd : dty P8' k with
    | none => rfl
    | some s =>
      have := hG8.same.dty k s hd
      rw [K5.out.2.2.2.2.1] at this
      cases this
  obtain ⟨f8, qf8, hf8, hfn8, -⟩ := hG8.fr
  have hfr8 : P8.frames = [f8] := by
    rw [← hP8d]
    exact (one_frame (by have := hG8.inv.wf.len; rw [hst8.most, K5.out.2.1.2.2.1] at this; exact this) hf8).2
  have hff8 : frOf P8 1 = some f8 := by
    rw [← hP8d]
    show frOf P8' 1 = some f8
    have := hG8.inv.wf.frOf hf8
    rw [hfn8] at this
    exact this
  have K8 : Aside (Inv P8 L5 D5 ∧ (P8.count = 3 ∧ P8.base = 4 ∧ P8.most = 1) ∧ P8.pins = (fun k => if k = (1 : Int) then some 1 else none) ∧ (∀ k, dty P8 k = none) ∧ P8.frames = [f8] ∧ f8.n = 1 ∧ frOf P8 1 = some f8) := ⟨hI8, hbs8, hpins8, hdt8, hfr8, hfn8, hff8⟩
  have S8 : Aside (PSt w8 a8 P8 L5 D5 ∧ Fr (aT a) w1 w8 ∧ AdN w1 a a8 4 ∧ PageAt w8 base5 g5 ⟨0, 0, 0, []⟩ ∧ PageAt w8 w6.heap.size g7 q ∧ (∀ b, aT a8 b → b < w8.heap.size)) := by
    refine ⟨hP8, S5'.out.2.2.1.fr S7.out.2.1 hF8, S5'.out.2.2.1.trans hA8 S7.out.2.1.size, S7.out.2.2.1.far hF8 S5'.out.2.2.2.2.1, S7.out.2.2.2.1.far hF8 (fun b hb => by have := S5'.out.2.2.2.2.1 b hb; have := S7.out.2.2.2.2; omega), fun b hb => hP8.lt hb⟩
  have F8 : Aside (Fr (aT a5) w7 w8 ∧ AdN w7 a5 a8 2) := ⟨hF8, hA8⟩
  clear hP8 hG8 hP8e hF8 hA8 hP8d hpins8 hI8 hst8 hbs8 hdt8 hf8 hfn8 hfr8 hff8 hpin1
  have hpin2 := cpin_hit a8 P8 L5 D5 1 f8 w8 S8.out.1 K8.out.1 (by rw [K8.out.2.1.1]; omega) K8.out.2.2.2.2.2.2 (by have := S8.out.2.2.1.ma; have := S1'.out.2.1; omega) (by have := S8.out.2.2.1.mn; have := S1'.out.2.2.1; omega) (by have := K5.out.2.2.2.2.2.1; omega) (by rw [K8.out.2.2.1]; simp)
  rw [S8.out.2.2.1.gp, show ((1 : Nat) : Int) = 1 from rfl] at hpin2
  go_wp2_with fail
  refine hpin2.mono ?_
  rintro e w9 ⟨rfl, a9, P9', hP9, ⟨i9, hG9, hP9e⟩, hF9, hA9⟩
  obtain ⟨P9, hP9d⟩ : ∃ P9 : Pl, ({ P9' with pins := fun k => if k = (1 : Int) then some ((P8.pins 1).getD 0 + 1) else P8.pins k } : Pl) = P9 := ⟨_, rfl⟩
  rw [hP9d] at hP9
  have hpins9 : P9.pins = fun k => if k = (1 : Int) then some 2 else none := by
    rw [← hP9d, K8.out.2.2.1]
    funext k
    by_cases hk : k = 1 <;> simp [hk]
  have hI9 : Inv P9 L5 D5 := by rw [← hP9d]; exact hG9.inv.pinned _
  have hst9 := hG9.same.stay
  have hbs9 : P9.count = 3 ∧ P9.base = 4 ∧ P9.most = 1 := by rw [← hP9d]; exact ⟨hst9.count.trans K8.out.2.1.1, hst9.base.trans K8.out.2.1.2.1, hst9.most.trans K8.out.2.1.2.2⟩
  have hdt9 : ∀ k, dty P9 k = none := fun k => by
    rw [← hP9d]
    show dty P9' k = none
    cases hd : dty P9' k with
    | none => rfl
    | some s =>
      have := hG9.same.dty k s hd
      rw [K8.out.2.2.2.1] at this
      cases this
  obtain ⟨f9, qf9, hf9, hfn9, -⟩ := hG9.fr
  have hfr9 : P9.frames = [f9] := by
    rw [← hP9d]
    exact (one_frame (by have := hG9.inv.wf.len; rw [hst9.most, K8.out.2.1.2.2] at this; exact this) hf9).2
  have hat9 : P9.atm 0 = none := by
    cases ha : P9.atm 0 with
    | none => rfl
    | some j =>
      obtain ⟨y, hy, hyn⟩ := (hI9.wf.atm 0 j).1 ha
      rw [hfr9] at hy
      have : y = f9 := by
        match j, hy with
        | 0, hy => simpa using hy.symm
        | j + 1, hy => simp at hy
      rw [this, hfn9] at hyn
      omega
  have K9 : Aside (Inv P9 L5 D5 ∧ (P9.count = 3 ∧ P9.base = 4 ∧ P9.most = 1) ∧ P9.pins = (fun k => if k = (1 : Int) then some 2 else none) ∧ (∀ k, dty P9 k = none) ∧ P9.frames = [f9] ∧ f9.n = 1 ∧ P9.atm 0 = none) := ⟨hI9, hbs9, hpins9, hdt9, hfr9, hfn9, hat9⟩
  have S9 : Aside (PSt w9 a9 P9 L5 D5 ∧ Fr (aT a) w1 w9 ∧ AdN w1 a a9 6 ∧ PageAt w9 base5 g5 ⟨0, 0, 0, []⟩ ∧ PageAt w9 w6.heap.size g7 q) := by
    have hF79 : Fr (aT a5) w7 w9 := F8.out.2.fr F8.out.1 hF9
    exact ⟨hP9, S8.out.2.2.1.fr S8.out.2.1 hF9, S8.out.2.2.1.trans hA9 S8.out.2.1.size, S7.out.2.2.1.far hF79 S5'.out.2.2.2.2.1, S7.out.2.2.2.1.far hF79 (fun b hb => by have := S5'.out.2.2.2.2.1 b hb; have := S7.out.2.2.2.2; omega)⟩
  have F9 : Aside (Fr (aT a5) w7 w9 ∧ AdN w7 a5 a9 4) := ⟨F8.out.2.fr F8.out.1 hF9, F8.out.2.trans hA9 F8.out.1.size⟩
  clear hP9 hG9 hP9e hF9 hA9 hP9d hpins9 hI9 hst9 hbs9 hdt9 hf9 hfn9 hfr9 hat9 hpin2 K8 S8 F8
  -- Get(0): all are pinned
  have hvp := vict_pinned P9.pins (2 * P9.frames.length) P9.frames P9.hand (fun f hf => by
    rw [K9.out.2.2.2.2.1] at hf
    rw [List.mem_singleton.1 hf, K9.out.2.2.2.2.2.1, K9.out.2.2.1]
    simp)
  have hl9 : P9.frames.length = 1 := by rw [K9.out.2.2.2.2.1]; rfl
  have hvh := vict_hand P9.pins (2 * P9.frames.length) P9.frames P9.hand (by have := K9.out.1.wf.hand; omega)
  obtain ⟨v9, hv9⟩ : ∃ v, vict P9.pins (2 * P9.frames.length) P9.frames P9.hand = v := ⟨_, rfl⟩
  obtain ⟨o9, fs9, hd9⟩ := v9
  rw [hv9] at hvp hvh
  obtain ⟨rfl, rfl⟩ : o9 = none ∧ fs9 = P9.frames := hvp
  have hfp := fetch_pinned a9 P9 L5 D5 0 hd9 P9.frames w9 S9.out.1 K9.out.1.ok.pd K9.out.1.wf (by rw [K9.out.2.1.1]; omega) K9.out.2.2.2.2.2.2 (by rw [K9.out.2.1.2.2, hl9]; omega) hv9
  rw [show ((0 : Nat) : Int) = 0 from rfl] at hfp
  have hge := cget_err a9.gp 0 100 w9 _ (by decide) hfp
  rw [S9.out.2.2.1.gp] at hge
  go_wp2_with fail
  refine hge.mono ?_
  rintro e w10 ⟨rfl, hP10, hF10⟩
  obtain ⟨P10, hP10d⟩ : ∃ P10 : Pl, ({ P9 with frames := P9.frames, hand := hd9 } : Pl) = P10 := ⟨_, rfl⟩
  rw [hP10d] at hP10
  have hI10 : Inv P10 L5 D5 := by
    have h := K9.out.1
    rw [← hP10d]
    exact ⟨⟨h.wf.m1, h.wf.m2, h.wf.len, by show hd9 < max P9.frames.length 1; omega, h.wf.full, h.wf.count, h.wf.atm, h.wf.inj⟩, ⟨h.ok.lw, h.ok.ld, h.ok.dw, h.ok.dp, h.ok.doff, h.ok.lf, h.ok.pd, h.ok.pb, h.ok.st⟩, h.log, h.fr, h.pg, h.loose⟩
  have hp10 : P10.pins = (fun k => if k = (1 : Int) then some 2 else none) ∧ (∀ k, dty P10 k = none) ∧ P10.frames.length = 1 := by rw [← hP10d]; exact ⟨K9.out.2.2.1, K9.out.2.2.2.1, hl9⟩
  have hF79 : Fr (aT a5) w7 w10 := F9.out.2.fr F9.out.1 (fr_aT2 hF10)
  have S10 : Aside (PSt w10 a9 P10 L5 D5 ∧ Fr (aT a) w1 w10 ∧ AdN w1 a a9 6 ∧ PageAt w10 base5 g5 ⟨0, 0, 0, []⟩ ∧ PageAt w10 w6.heap.size g7 q) :=
    ⟨hP10, S9.out.2.2.1.fr S9.out.2.1 (fr_aT2 hF10), S9.out.2.2.1, S7.out.2.2.1.far hF79 S5'.out.2.2.2.2.1, S7.out.2.2.2.1.far hF79 (fun b hb => by have := S5'.out.2.2.2.2.1 b hb; have := S7.out.2.2.2.2; omega)⟩
  have K10 : Aside (Inv P10 L5 D5 ∧ P10.pins = (fun k => if k = (1 : Int) then some 2 else none) ∧ (∀ k, dty P10 k = none) ∧ P10.frames.length = 1) := ⟨hI10, hp10⟩
  have F10 : Aside (Fr (aT a5) w7 w10) := ⟨hF79⟩
  clear hP10 hF10 hP10d hI10 hp10 hF79 hvh hv9 hfp hge hl9 S9
  -- Unpin(1)
  have hun := cunpin_st a9 P10 L5 D5 1 w10 S10.out.1 (by unfold wf64; omega) (by rw [K10.out.2.1]; simp) (by rw [K10.out.2.1]; simp) (by have := S10.out.2.2.1.mn; have := S1'.out.2.2.1; omega)
  rw [S10.out.2.2.1.gp] at hun
  go_wp2_with fail
  refine hun.mono ?_
  rintro e w11 ⟨rfl, a11, hP11, hF11, hA911⟩
  obtain ⟨P11, hP11d⟩ : ∃ P11 : Pl, ({ P10 with pins := unpinV P10.pins 1 } : Pl) = P11 := ⟨_, rfl⟩
  rw [hP11d] at hP11
  have hI11 : Inv P11 L5 D5 := by rw [← hP11d]; exact K10.out.1.pinned _
  have hp11 : P11.pins = (fun k => if k = (1 : Int) then some 1 else none) := by
    rw [← hP11d]
    funext k
    show unpinV P10.pins 1 k = _
    unfold unpinV
    rw [K10.out.2.1]
    by_cases hk : k = 1 <;> simp [hk]
  have hd11 : (∀ k, dty P11 k = none) ∧ P11.frames.length = 1 := by rw [← hP11d]; exact K10.out.2.2
  have hA11 : AdN w1 a a11 7 := S10.out.2.2.1.trans hA911 S10.out.2.1.size
  have hF711 : Fr (aT a5) w7 w11 := F9.out.2.fr F10.out (fr_aT2 hF11)
  have S11 : Aside (PSt w11 a11 P11 L5 D5 ∧ Fr (aT a) w1 w11 ∧ AdN w1 a a11 7 ∧ PageAt w11 base5 g5 ⟨0, 0, 0, []⟩ ∧ PageAt w11 w6.heap.size g7 q) :=
    ⟨hP11, S10.out.2.2.1.fr S10.out.2.1 (fr_aT2 hF11), hA11, S7.out.2.2.1.far hF711 S5'.out.2.2.2.2.1, S7.out.2.2.2.1.far hF711 (fun b hb => by have := S5'.out.2.2.2.2.1 b hb; have := S7.out.2.2.2.2; omega)⟩
  have K11 : Aside (Inv P11 L5 D5 ∧ P11.pins = (fun k => if k = (1 : Int) then some 1 else none) ∧ (∀ k, dty P11 k = none) ∧ P11.frames.length = 1) := ⟨hI11, hp11, hd11⟩
  have hma11 : a11.ma ≤ 1099511627776 := by have := hA11.ma; have := S1'.out.2.1; omega
  have hmn11 : a11.mn ≤ 1099511627776 := by have := hA11.mn; have := S1'.out.2.2.1; omega
  have HM := hid (And.intro hma11 hmn11)
  clear hP11 hF11 hP11d hA911 hI11 hp11 hd11 hA11 hF711 hun S10 K10 F10 hma11 hmn11
  -- the answers
  have hlen := len_any base5 g5 ⟨0, 0, 0, []⟩ w11 S11.out.2.2.2.1
  have hlsn := lsn_any w6.heap.size g7 q w11 S11.out.2.2.2.2
  rw [K5.out.2.2.2.2.2.2.2.1] at hlsn
  have hsf := lsafe_any a11.base a11.gl a11.gd a11.sv a11.rv L5 w11 S11.out.1.ld.log K5.out.1.ok.lw
  rw [S11.out.2.2.1.gl] at hsf
  obtain ⟨S, hS⟩ : ∃ S, L5.lsn L5.safe = S := ⟨_, rfl⟩
  have dS : decide ((x : Int) < S) = true := by rw [← hS]; simpa using K5.out.2.2.2.1
  rw [hS] at hsf
  have hkp : KeysOf P11.pins [1] := by
    rw [K11.out.2.1]
    refine ⟨by simp, fun k => ?_⟩
    by_cases hk : k = 1 <;> simp [hk]
  have hpl : pinsL P11.pins [1] = [1] := by rw [K11.out.2.1]; rfl
  have hpin := cpins_any a11 P11 L5 D5 w11 S11.out.1 HM.out.2 (fun k hk => by
    rw [K11.out.2.1] at hk ⊢
    by_cases h1 : k = 1
    · simp [h1]; unfold wf64; omega
    · simp [h1] at hk) (fun ks hks => by
    obtain rfl := hks.uniq hkp
    rw [hpl]
    exact ⟨by simp, by simp⟩)
  rw [S11.out.2.2.1.gp] at hpin
  have HKP := hid (And.intro hkp hpl)
  clear hS hkp hpl
  go_wp2_with fail
  refine hlen.mono ?_
  rintro e w' ⟨rfl, rfl⟩
  go_wp2_with fail
  refine hlsn.mono ?_
  rintro e w' ⟨rfl, rfl⟩
  go_wp2_with fail
  refine hsf.mono ?_
  rintro e w' ⟨rfl, rfl⟩
  clear hlen hlsn hsf
  go_wp2_with fail
  refine hpin.mono ?_
  rintro e w12 ⟨v12, ks12, rfl, hks12, hown12, hb12⟩
  obtain rfl := hks12.uniq HKP.out.1
  rw [HKP.out.2] at hown12
  obtain ⟨A12, c12, rfl, -⟩ := own_form hown12
  have S12 : Aside (Below w11.heap.size w11 w12) := ⟨hb12⟩
  have hP12 := S11.out.1.below hb12
  have hfrm := cframes_any a11 P11 L5 D5 w12 hP12 K11.out.1.wf
  rw [S11.out.2.2.1.gp, K11.out.2.2.2, show ((1 : Nat) : Int) = 1 from rfl] at hfrm
  have hdir := cDirty_any a11 P11 L5 D5 w12 hP12 K11.out.1.wf HM.out.1
  rw [S11.out.2.2.1.gp] at hdir
  clear hks12 hown12 hb12 hpin hP12
  rw [show ([(1 : Int)]).length = 1 from rfl]
  go_wp2_with fail
  refine hfrm.mono ?_
  rintro e w' ⟨rfl, rfl⟩
  clear hfrm
  go_wp2_with fail
  refine hdir.mono ?_
  rintro e w13 ⟨v13, ks13, rfl, hks13, hown13, hb13⟩
  rw [dirtyL_nil K11.out.1.wf K11.out.2.2.1] at hown13
  obtain ⟨A13, c13, rfl⟩ := own_form_n hown13
  have hP13 := (S11.out.1.below S12.out).below hb13
  have hfl := cflush_any a11 P11 L5 D5 ks13 w13 hP13 K11.out.1.ok K11.out.1.wf hks13 HM.out.1 K11.out.1.log (by have := K5.out.2.2.2.2.2.1; omega)
  rw [S11.out.2.2.1.gp] at hfl
  have S13 : Aside (Below w11.heap.size w11 w13) := ⟨S12.out.trans (hb13.mono S12.out.size)⟩
  clear hks13 hown13 hb13 hdir hP13
  rw [show ([] : List (Int × Int)).length = 0 from rfl]
  go_wp2_with fail
  refine hfl.mono ?_
  rintro e w14 ⟨rfl, hP14, hF14⟩
  have S14 : Aside (Fr (aT a) w1 w14) := ⟨S11.out.2.2.1.fr (S11.out.2.1.trans (Fr.of_below S13.out (aT a)) (fun _ _ h => h)) hF14⟩
  clear hP14 hF14 hfl
  go_wp2_with fail
  go_ret
  exact ⟨rfl, S1'.out.2.2.2.trans (S14.out.below S1'.out.2.2.2.size fun b hb => S1'.out.1 b hb)⟩
end Go.Proofs.YthfidlhefkjpdaaGreatDoor
