/- The walk of the law PlainPaths. -/
import Derived.Test.YthidhdffiebbgaaGreatDoorFloatA
import Derived.Test.YthidhdffiebbgaaGreatDoorPlT
namespace Go.Proofs.YthidhdffiebbgaaGreatDoor
open Go.RowKit Go.Proofs.YthidhdffiebbgaaGreatDoor.Sk

attribute [local go_sem] run_store_complex

theorem maxE_nil : maxE [] = zE := rfl

theorem along0 (L : List Edg) : ∃ (m : Edg) (a b : Nat) (g : Int), alongA L 0 = (cells5 m a b, g) ∧
    (sumW L ≤ 70368744177664 → g = 0 ∧ m = maxE L ∧ a = floatOfInt .f64 (sumW L) ∧ b = floatOfInt .f64 L.length) ∧ (¬ sumW L ≤ 70368744177664 → g = 62) := by
  unfold alongA
  by_cases hL : L = []
  · subst hL
    rw [if_pos (by simp)]
    exact ⟨zE, 0, 0, 0, rfl, fun _ => ⟨rfl, rfl, by kernel_rfl, by kernel_rfl⟩, fun h => absurd (by decide) h⟩
  · rw [if_neg (by simp [hL])]
    by_cases hs : 70368744177664 < sumW L
    · rw [if_pos hs]
      exact ⟨zE, 0, 0, 62, rfl, fun h => by omega, fun _ => rfl⟩
    · rw [if_neg hs]
      exact ⟨_, _, _, 0, rfl, fun _ => ⟨rfl, rfl, rfl, rfl⟩, fun h => by omega⟩

theorem pathA_mem {V : List Int} {E : List Edg} {u v : Int} {L : List Edg} {c : Int} (h : PathA V E u v L c) : ∀ e ∈ L, e ∈ E := by
  by_cases hc : c = 0
  · subst hc
    exact fun e he => forestOf_sub E e ((pathA_ok h).2.2.1.sub e he)
  · rw [(pathA_no h hc).1]
    simp

theorem owns_cap {w : World} {base : Nat} {e : TypeId} {size n cap : Nat} {a : Option Addr} {xs : List Value} (h : w.ownsRow base e size (.slice a n cap) n xs) : n ≤ cap := by
  rcases h.2 with ⟨h1, h2⟩ | ⟨g, cap', cur, h1, _, _, h2, _⟩
  · omega
  · simp only [Value.slice.injEq] at h1
    omega

/-- what Path leaves, as a row that is read -/
theorem path_s {w w' : World} {V : List Int} {E : List Edg} {u v : Int} {e : Ending} (h : PathIdsPost w V E u v e w') (hE : ∀ e ∈ E, e.wf) :
    ∃ L c a cap, PathA V E u v L c ∧ L.length ≤ 2048 ∧ L.length ≤ cap ∧ e = .returned (.tuple #[.slice a L.length cap, .int .i64 c]) ∧ RdI w' (.slice a L.length cap) (L.map Edg.id) ∧ Below w.heap.size w w' := by
  obtain ⟨L, c, hPA, hl, pv, h1, h2, h3⟩ := h
  obtain ⟨a, cap, rfl, _⟩ := owns_form h2
  have hcap := owns_cap h2
  rw [List.length_map] at h1 h2 hcap
  refine ⟨L, c, a, cap, hPA, hl, hcap, h1, ?_, h3⟩
  have := rdI_own h2 (fun x hx => by
    obtain ⟨y, hy, rfl⟩ := List.mem_map.1 hx
    exact (hE y (pathA_mem hPA y hy)).1) (by omega)
  exact this

theorem rdI_take {w : World} {a : Option Addr} {n cap k : Nat} {zs : List Int} (h : RdI w (.slice a n cap) zs) (hk : k ≤ zs.length) : RdI w (.slice a k cap) (zs.take k) := by
  obtain ⟨a', cap', e, hwf, hlen, hc⟩ := h
  simp only [Value.slice.injEq] at e
  obtain ⟨rfl, rfl, rfl⟩ := e
  have hl : (zs.take k).length = k := by simp; omega
  refine ⟨a, cap, by rw [hl], fun x hx => hwf x (List.mem_of_mem_take hx), by rw [hl]; omega, fun h0 => ?_⟩
  obtain ⟨b, off, rfl, hb, hcc⟩ := hc (by omega)
  refine ⟨b, off, rfl, hb, fun j hj => ?_⟩
  rw [hcc j (by omega), List.getElem_take]

set_option maxRecDepth 100000 in
set_option maxHeartbeats 4000000 in
theorem plainPaths_any (n : Value) (V : List Int) (E : List Edg) (u v : Int) (w : World) (hn : NetAt w n V E) (hu : wf64 u) (hv : wf64 v) :
    Calls Tryz.prog 5 #[n, .int .i64 u, .int .i64 v] w fun e w' => e = .returned (.bool true) ∧ Below w.heap.size w w' := by
  obtain ⟨vs, es, rfl, hV, hE⟩ := hn.ex
  have hwf : ∀ e ∈ E, e.wf := by obtain ⟨_, _, _, h, _⟩ := hE; exact h
  have hb0 : Below w.heap.size w (w.alloc (.cells #[vs, es] 25)) := (Below.refl _ _).alloc (Nat.le_refl _) _
  have A : Aside (NetAt w (.agg #[vs, es]) V E ∧ Below w.heap.size w (w.alloc (.cells #[vs, es] 25)) ∧ ∀ e ∈ E, e.wf) := ⟨hn, hb0, hwf⟩
  clear hn hV hE hb0 hwf
  go_enter Tryz.func5, Tryz.ntmps5
  go_wp2_with fail
  refine (alive_any _).mono ?_
  rintro _ w1 ⟨rfl, hb1⟩
  have hB1 : Below w.heap.size w w1 := A.out.2.1.trans (hb1.mono (by simp))
  have n0 : w1.cell? ⟨w.heap.size, 0, none⟩ = some vs := by rw [bcell hb1 _ _ (by simp), World.cell?_alloc_at _ _ _ _ rfl]; rfl
  have n1 : w1.cell? ⟨w.heap.size, 1, none⟩ = some es := by rw [bcell hb1 _ _ (by simp), World.cell?_alloc_at _ _ _ _ rfl]; rfl
  have hz1 : w.heap.size < w1.heap.size := by have := hb1.size; simp at this; omega
  have B := aside' hB1
  clear hb1 hB1
  go_wp2_with fail
  refine (pathIds_any _ V E u v w1 (A.out.1.below B.out) hu hv).mono ?_
  intro e w2 hp
  obtain ⟨L, c, pa, pcap, hPA, hl, hcap, rfl, hpv, hb2⟩ := path_s hp A.out.2.2
  have m0 := (bcell hb2 _ 0 hz1).trans n0
  have m1 := (bcell hb2 _ 1 hz1).trans n1
  have hz2 : w.heap.size < w2.heap.size := Nat.lt_of_lt_of_le hz1 hb2.size
  have C := aside' (And.intro (B.out.trans (hb2.mono B.out.size)) (And.intro hPA hpv))
  clear hp hPA hpv hb2 n0 n1 B hz1
  go_wp2_with fail
  refine (pathIds_any _ V E v u w2 (A.out.1.below C.out.1) hv hu).mono ?_
  intro e w3 hq
  obtain ⟨L', c', qa, qcap, hQA, _, _, rfl, hqv, hb3⟩ := path_s hq A.out.2.2
  obtain ⟨rfl, rfl⟩ := pathA_one (pathA_back C.out.2.1) hQA
  have n0 := (bcell hb3 _ 0 hz2).trans m0
  have n1 := (bcell hb3 _ 1 hz2).trans m1
  have hz3 : w.heap.size < w3.heap.size := Nat.lt_of_lt_of_le hz2 hb3.size
  rw [List.length_reverse] at hqv ⊢
  have D := aside' (And.intro (C.out.1.trans (hb3.mono C.out.1.size)) (And.intro C.out.2.1 (And.intro (C.out.2.2.below hb3) hqv)))
  clear hq hQA hqv hb3 m0 m1 C hz2
  go_wp2_with fail
  refine (along_any _ V E u v w3 (A.out.1.below D.out.1) hu hv).mono ?_
  rintro e w4 ⟨L2, c2, hPA2, _, rfl, hb4⟩
  obtain ⟨rfl, rfl⟩ := pathA_one D.out.2.1 hPA2
  have m0 := (bcell hb4 _ 0 hz3).trans n0
  have m1 := (bcell hb4 _ 1 hz3).trans n1
  have hz4 : w.heap.size < w4.heap.size := Nat.lt_of_lt_of_le hz3 hb4.size
  have F := aside' (And.intro (D.out.1.trans (hb4.mono D.out.1.size)) (And.intro D.out.2.1 (And.intro (D.out.2.2.1.below hb4) (D.out.2.2.2.below hb4))))
  clear hPA2 hb4 n0 n1 D hz3
  by_cases hc : c = 0
  · subst hc
    obtain ⟨hck, hco, htr, hnd⟩ := pathA_ok F.out.2.1
    have hR := (checkA_in hck).1
    obtain ⟨m, a, b, g, hal, hle, hgt⟩ := along0 L
    rw [hal]
    have hb5 := F.out.1.alloc F.out.1.size (.cells (cells5 m a b) 50)
    have hj := joined_any _ V E u v (w4.alloc (.cells (cells5 m a b) 50)) (A.out.1.below hb5) hu hv
    have hjb : joinedB V E u v = true := by unfold joinedB; rw [if_pos hck]; exact connB_iff.2 hco
    rw [hjb, hck] at hj
    have n0 : (w4.alloc (.cells (cells5 m a b) 50)).cell? ⟨w.heap.size, 0, none⟩ = some vs := by rw [World.cell?_alloc_past _ _ _ hz4]; exact m0
    have n1 : (w4.alloc (.cells (cells5 m a b) 50)).cell? ⟨w.heap.size, 1, none⟩ = some es := by rw [World.cell?_alloc_past _ _ _ hz4]; exact m1
    have hp4 := F.out.2.2.1.below ((Below.refl w4.heap.size w4).alloc (Nat.le_refl _) (.cells (cells5 m a b) 50))
    have hq4 := F.out.2.2.2.below ((Below.refl w4.heap.size w4).alloc (Nat.le_refl _) (.cells (cells5 m a b) 50))
    have hz5 : w.heap.size < (w4.alloc (.cells (cells5 m a b) 50)).heap.size := by simp; omega
    have G := aside' (And.intro hb5 (And.intro (show BoxA (w4.alloc (.cells (cells5 m a b) 50)) w4.heap.size m a b from World.alloc_heap_new w4 (.cells (cells5 m a b) 50)) (And.intro hp4 (And.intro hq4 (And.intro htr (And.intro hnd hR))))))
    have hGal := aside' (And.intro hle hgt)
    unfold cells5 at hj n0 n1 hz5
    clear hb5 hp4 hq4 hal hle hgt hjb hck hco htr hnd hR F m0 m1 hz4
    unfold cells5
    go_wp2_with fail
    refine hj.mono ?_
    rintro _ w5 ⟨rfl, hb6⟩
    have m0 := (bcell hb6 _ 0 hz5).trans n0
    have m1 := (bcell hb6 _ 1 hz5).trans n1
    have hz6 : w.heap.size < w5.heap.size := Nat.lt_of_lt_of_le hz5 hb6.size
    have H := aside' (And.intro (G.out.1.trans (hb6.mono G.out.1.size)) (And.intro (G.out.2.1.below hb6) (And.intro (G.out.2.2.1.below hb6) (And.intro (G.out.2.2.2.1.below hb6) G.out.2.2.2.2))))
    have hwb : w4.heap.size < w5.heap.size := by
      have := hb6.size
      simp at this
      omega
    clear hb6 n0 n1 hz5 G hj
    go_wp2_with fail
    go_loopg [100, 15, 16] L.length (fun gg i at' s wr => ∃ (k : Nat) (x : Int), k + gg = L.length ∧ i = .int .i64 k ∧ at' = .int .i64 x ∧ s = .int .i64 (sumW (L.take k)) ∧ Below w5.heap.size w5 wr ∧ w5.heap.size < wr.heap.size ∧ BoxE wr w5.heap.size (maxE (L.take k)) ∧ Trail (forestOf E) u (L.take k) x)
    case atStart =>
      exact ⟨0, u, by omega, rfl, rfl, rfl, (Below.refl _ _).alloc (Nat.le_refl _) _, by simp, World.alloc_heap_new _ _, rfl⟩
    case round =>
      obtain ⟨k, x, hk, rfl, rfl, rfl, hbel, hsz, hbx, htk⟩ := hrel
      by_cases hlt : k < L.length
      · obtain ⟨h1, h2, h3, h4, h5, h6, h7⟩ := H.out
        obtain ⟨e, he⟩ : ∃ e, L[k] = e := ⟨_, rfl⟩
        have hstep := path_step h5 hlt htk
        rw [he] at hstep
        have heL : e ∈ L := he ▸ List.getElem_mem hlt
        have heE : e ∈ E := forestOf_sub E e (h5.sub e heL)
        have hok := h7.2.2.2.1 e heE
        have he12 := rises_ok h7.2.2.1 hok.2.2.1
        have hv12 := rises_ok h7.2.2.1 hok.2.2.2
        have hx12 : 1 ≤ x ∧ x ≤ 2147483647 := by rcases hstep.1 with h | h <;> omega
        have hsn : L.take (k + 1) = L.take k ++ [e] := by rw [List.take_succ_eq_append_getElem hlt, he]
        have hbw : Below w.heap.size w wr := h1.trans (hbel.mono h1.size)
        have hed := edgeOf_any _ V E e.id wr (A.out.1.below hbw)
        rw [edgeAt_in h7.2.2.2.2.2 heE] at hed
        have n0 := (bcell hbel _ 0 hz6).trans m0
        have n1 := (bcell hbel _ 1 hz6).trans m1
        have hpr := h3.below hbel
        have hqr := h4.below hbel
        have hs := sumW_snoc (L.take k) e
        rw [← hsn] at hs
        have hbd := sumW_bounds (V := V) (L.take (k + 1)) fun y hy => h7.2.2.2.1 y (forestOf_sub E y (h5.sub y (List.mem_of_mem_take hy)))
        have hle : (L.take (k + 1)).length ≤ 2048 := by rw [List.length_take]; omega
        obtain ⟨s, hse⟩ : ∃ s, sumW (L.take k) = s := ⟨_, rfl⟩
        rw [hse] at hs ⊢
        rw [hs] at hbd
        have hb2 : s + e.w ≤ 2251799813685248 := by omega
        have hb1 := hbd.1
        have hw0 := hok.1
        have hno : decide (e.id ∈ (L.map Edg.id).take k) = false := by
          rw [decide_eq_false_iff_not, ← List.map_take]
          intro h
          obtain ⟨y, hy, hyid⟩ := List.mem_map.1 h
          have hyL := List.mem_of_mem_take hy
          have hye : y = e := id_inj h7.2.2.2.2.2 (forestOf_sub E y (h5.sub y hyL)) heE hyid
          subst hye
          have hsp : L = L.take k ++ L[k] :: L.drop (k + 1) := by rw [← List.drop_eq_getElem_cons hlt, List.take_append_drop]
          rw [hsp, he] at h6
          exact (List.nodup_append.1 h6).2.2 y hy y (by simp) rfl
        obtain ⟨-, -, pb, poff, hpa, hpb, p0⟩ := hpr.get (k := k) (by simpa using hlt)
        subst hpa
        rw [List.getElem_map, he] at p0
        obtain ⟨mx, hmx⟩ : ∃ mx, maxE (L.take k) = mx := ⟨_, rfl⟩
        rw [hmx] at hbx
        have hmax : maxE (L.take (k + 1)) = if k = 0 then e else if aheadB mx e then e else mx := by
          by_cases hk0 : k = 0
          · subst hk0
            rw [if_pos rfl, hsn]
            rfl
          · rw [if_neg hk0, hsn, maxE_snoc (by intro h; have := congrArg List.length h; rw [List.length_take, List.length_nil] at this; omega), hmx, max_ahead]
        have Q := aside' (And.intro hbel (And.intro hstep.2 (And.intro hs (And.intro hmax (And.intro hk (And.intro hpr (And.intro hqr hbx)))))))
        have hends := hstep.1
        clear hbel hstep hs hse hmax hbd hle hpr hqr hbx htk hbw hsn heL heE hok h1 h2 h3 h4 h5 h6 h7 hmx
        go_wp2_with fail
        refine hed.mono ?_
        rintro _ w6 ⟨rfl, hb7⟩
        clear hed
        have hz7 : w5.heap.size < w6.heap.size := Nat.lt_of_lt_of_le hsz hb7.size
        have hbx6 : BoxE w6 w5.heap.size mx := (hb7.block _ hsz).trans Q.out.2.2.2.2.2.2.2
        have hp6 := Q.out.2.2.2.2.2.1.below hb7
        have hq6 := Q.out.2.2.2.2.2.2.1.below hb7
        obtain ⟨-, -, qb, qoff, hqa, hqb, q0⟩ := hq6.get (k := L.length - 1 - k) (by simp; omega)
        subst hqa
        have hqe : (L.reverse.map Edg.id)[L.length - 1 - k]'(by simp; omega) = e.id := by
          rw [List.getElem_map, List.getElem_reverse]
          have : L.length - 1 - (L.length - 1 - k) = k := by omega
          simp only [this, he]
        rw [hqe] at q0
        have hhas := has_ref (.slice (some ⟨pb, poff, none⟩) k pcap) ((L.map Edg.id).take k) e.id (w6.alloc (.cells #[.int .i64 e.id, .int .i64 e.u, .int .i64 e.v, .int .i64 e.w] 47)) ((rdI_take hp6 (by rw [List.length_map]; omega)).below ((Below.refl _ _).alloc (Nat.le_refl _) _))
        rw [hno] at hhas
        have hbxA : BoxE (w6.alloc (.cells #[.int .i64 e.id, .int .i64 e.u, .int .i64 e.v, .int .i64 e.w] 47)) w5.heap.size mx := ((World.grownBy_alloc _ _ none).block _ hz7 (by simp)).trans hbx6
        have hbyA : BoxE (w6.alloc (.cells #[.int .i64 e.id, .int .i64 e.u, .int .i64 e.v, .int .i64 e.w] 47)) w6.heap.size e := World.alloc_heap_new _ _
        obtain ⟨x0, x1, x2, x3⟩ := hbxA.cells
        obtain ⟨f0, f1, f2, f3⟩ := hbxA.frozen
        obtain ⟨z0, z1, z2, z3⟩ := hbx6.frozen
        obtain ⟨c0, c1, c2, c3⟩ := hbx6.cells
        have hx6 := aside' hbx6
        have hkc : k ≤ pcap := by omega
        have hkl : L.length - 1 - k < L.length := by omega
        have T := aside' (And.intro hb7 (And.intro hbxA hbyA))
        have hs7 := hb7.size
        unfold valE
        have hends2 : (e.u != x) = false ∨ ((e.u != x) = true ∧ (e.v != x) = false) := by
          by_cases h : e.u = x
          · left; simp [h]
          · right
            refine ⟨by simp [h], ?_⟩
            rcases hends with h' | h'
            · exact absurd h' h
            · simp [h']
        clear hends hbx6 hbxA hbyA hp6 hq6 hb7 hqe hno
        by_cases hk0 : k = 0
        · subst hk0
          simp only [Nat.add_zero, Nat.sub_zero] at p0 q0 hkl
          rcases hends2 with hu1 | ⟨hu1, hv1⟩
          all_goals (
            go_wp2_with (go_at_call 30; refine hhas.mono ?_; rintro _ _ ⟨rfl, rfl⟩)
            obtain ⟨r1, r2, r3, r4, r5, r6, r7, r8⟩ := Q.out
            obtain ⟨t1, t2, t3⟩ := T.out
            go_roundg (gk - 1)
            case rel =>
              refine ⟨0 + 1, e.u + e.v - x, by omega, by go_num, by go_num, by rw [r3], (set4_below e (r1.trans (t1.mono r1.size)) (Nat.le_refl _)).alloc ?_ _, ?_, ?_, r2⟩
              · rw [set4_size]
                omega
              · have := set4_size w6 w5.heap.size e
                unfold set4 at this
                rw [World.size_alloc, this]
                omega
              · rw [r4, if_pos trivial]
                exact ((World.grownBy_alloc (set4 w6 w5.heap.size e) _ none).block _ (by rw [set4_size]; omega) (by simp)).trans (set4_box hx6.out e)
            case measure => omega)
        · have hpos : 0 < k := by omega
          have hkb : ((k : Int) == 0) = false := by rw [beq_eq_false_iff_ne]; omega
          have hah := ahead_any mx e (w6.alloc (.cells #[.int .i64 e.id, .int .i64 e.u, .int .i64 e.v, .int .i64 e.w] 47))
          unfold valE at hah
          have hab : aheadB mx e = true ∨ aheadB mx e = false := by cases aheadB mx e <;> simp
          rcases hends2 with hu1 | ⟨hu1, hv1⟩
          all_goals (
            go_wp2_with (go_at_call 30; refine hhas.mono ?_; rintro _ _ ⟨rfl, rfl⟩)
            refine hah.mono ?_
            rintro _ w7 ⟨rfl, hg8⟩
            have hbx7 : BoxE w7 w5.heap.size mx := (hg8.block _ (by simp; omega) (by simp)).trans T.out.2.1
            have hby7 : BoxE w7 w6.heap.size e := (hg8.block _ (by simp) (by simp)).trans T.out.2.2
            obtain ⟨z0, z1, z2, z3⟩ := hbx7.frozen
            obtain ⟨y0, y1, y2, y3⟩ := hby7.cells
            obtain ⟨c0, c1, c2, c3⟩ := hbx7.cells
            have U := aside' (And.intro hbx7 hg8)
            have hs8 := hg8.size
            simp only [World.size_alloc] at hs8
            clear hbx7 hby7 hg8 hah hhas
            rcases hab with hab | hab
            · rw [hab]
              go_wp2_with fail
              obtain ⟨r1, r2, r3, r4, r5, r6, r7, r8⟩ := Q.out
              obtain ⟨t1, t2, t3⟩ := T.out
              obtain ⟨u1, u2⟩ := U.out
              have hb8 : Below w5.heap.size w5 w7 := ((r1.trans (t1.mono r1.size)).alloc (by omega) _).grown u2 (by first | (simp; done) | (simp; omega)) (by simp)
              go_roundg (gk - 1)
              case rel =>
                refine ⟨k + 1, e.u + e.v - x, by omega, by go_num, by go_num, by rw [r3], set4_below e hb8 (Nat.le_refl _), ?_, ?_, r2⟩
                · have := set4_size w7 w5.heap.size e
                  unfold set4 at this
                  rw [this]
                  omega
                · rw [r4, if_neg hk0, hab]
                  exact set4_box u1 e
              case measure => omega
            · rw [hab]
              go_wp2_with fail
              obtain ⟨r1, r2, r3, r4, r5, r6, r7, r8⟩ := Q.out
              obtain ⟨t1, t2, t3⟩ := T.out
              obtain ⟨u1, u2⟩ := U.out
              have hb8 : Below w5.heap.size w5 w7 := ((r1.trans (t1.mono r1.size)).alloc (by omega) _).grown u2 (by first | (simp; done) | (simp; omega)) (by simp)
              go_roundg (gk - 1)
              case rel =>
                refine ⟨k + 1, e.u + e.v - x, by omega, by go_num, by go_num, by rw [r3], hb8, by omega, ?_, r2⟩
                rw [r4, if_neg hk0, hab]
                exact u1
              case measure => omega)
      · have hkk : k = L.length := by omega
        subst hkk
        rw [List.take_length] at hbx htk ⊢
        obtain ⟨h1, h2, h3, h4, h5, h6, h7⟩ := H.out
        have hxv : (x != v) = false := by rw [trail_end htk h5]; simp
        have hA := BoxA.below h2 hbel
        obtain ⟨⟨x0, x1, x2, x3, x4⟩, _⟩ := hA.cells
        obtain ⟨y0, y1, y2, y3⟩ := hbx.cells
        have hs0 := (sumW_bounds (V := V) L fun y hy => h7.2.2.2.1 y (forestOf_sub E y (h5.sub y hy)))
        have U := aside' (h1.trans (hbel.mono h1.size))
        obtain ⟨g1, g2⟩ := hGal.out
        obtain ⟨s, hse⟩ : ∃ s, sumW L = s := ⟨_, rfl⟩
        rw [hse] at hs0 g1 g2 ⊢
        have hs1 := hs0.1
        have hs2 : s ≤ 2251799813685248 := by omega
        by_cases hsm : s ≤ 70368744177664
        · obtain ⟨rfl, rfl, rfl, rfl⟩ := g1 hsm
          have he47 := fun w => eql47 (maxE L) w
          have he48 := fun w => eql48 (a := s) (b := L.length) hs1 (by omega) w
          unfold valE at he47
          clear g1 g2 hA hbx htk hs0 h1 h2 h3 h4 h5 h6 h7 hbel hse
          go_wp2_with fail
          go_ret
          exact ⟨rfl, U.out⟩
        · obtain rfl := g2 (by omega)
          clear g1 g2 hA hbx htk hs0 h1 h2 h3 h4 h5 h6 h7 hbel hse
          go_wp2_with fail
          go_ret
          exact ⟨rfl, U.out⟩
  · obtain ⟨hL, hno⟩ := pathA_no F.out.2.1 hc
    subst hL
    have he : alongA [] c = (cells5 zE 0 0, c) := by unfold alongA; rw [if_pos (by simp)]
    rw [he]
    have hc0 : (c == 0) = false := by simp [hc]
    have hc1 : (c != 0) = true := by simp [hc]
    have hb5 := F.out.1.alloc F.out.1.size (.cells (cells5 zE 0 0) 50)
    have hj := joined_any _ V E u v (w4.alloc (.cells (cells5 zE 0 0) 50)) (A.out.1.below hb5) hu hv
    have n0 : (w4.alloc (.cells (cells5 zE 0 0) 50)).cell? ⟨w.heap.size, 0, none⟩ = some vs := by rw [World.cell?_alloc_past _ _ _ hz4]; exact m0
    have n1 : (w4.alloc (.cells (cells5 zE 0 0) 50)).cell? ⟨w.heap.size, 1, none⟩ = some es := by rw [World.cell?_alloc_past _ _ _ hz4]; exact m1
    have G := aside' (And.intro hb5 (World.alloc_heap_new w4 (.cells (cells5 zE 0 0) 50)))
    have he50 := eql50_zero
    unfold cells5 zE at hj n0 n1 he50
    clear hb5 he hc
    unfold cells5 zE
    simp only [List.length_nil, List.reverse_nil] at *
    obtain ⟨y, hy⟩ : ∃ y, joinedB V E u v = y := ⟨_, rfl⟩
    obtain ⟨k, hk⟩ : ∃ k, checkA V E [u, v] = k := ⟨_, rfl⟩
    have hy0 : k = 0 → y = false := fun h0 => by
      rw [← hy]
      unfold joinedB
      rw [if_pos (hk.trans h0), Bool.eq_false_iff]
      exact fun h => hno (hk.trans h0) (connB_iff.1 h)
    rw [hy, hk] at hj
    have fin : ∀ w5, Below (w4.alloc (.cells #[.int .i64 0, .int .i64 0, .int .i64 0, .int .i64 0, .complex .f64 0 0] 50)).heap.size (w4.alloc (.cells #[.int .i64 0, .int .i64 0, .int .i64 0, .int .i64 0, .complex .f64 0 0] 50)) w5 → BoxA w5 w4.heap.size zE 0 0 ∧ Below w.heap.size w w5 := fun w5 hb =>
      ⟨BoxA.below (show BoxA _ w4.heap.size zE 0 0 from G.out.2) hb, G.out.1.trans (hb.mono G.out.1.size)⟩
    clear hno hy hk
    by_cases hk0 : k = 0
    · obtain rfl := hy0 hk0
      subst hk0
      clear hy0
      go_wp2_with fail
      refine hj.mono ?_
      rintro _ w5 ⟨rfl, hb6⟩
      obtain ⟨h1, h2⟩ := fin w5 hb6
      obtain ⟨⟨x0, x1, x2, x3, x4⟩, _⟩ := h1.cells
      have H := aside' h2
      simp only [zE] at x0 x1 x2 x3
      clear hb6 h1 h2 fin hj
      go_wp2_with fail
      go_ret
      exact ⟨rfl, H.out⟩
    · have hk1 : (k == 0) = false := by simp [hk0]
      have hk2 : (k != 0) = true := by simp [hk0]
      clear hy0 hk0
      go_wp2_with fail
      refine hj.mono ?_
      rintro _ w5 ⟨rfl, hb6⟩
      obtain ⟨h1, h2⟩ := fin w5 hb6
      obtain ⟨⟨x0, x1, x2, x3, x4⟩, _⟩ := h1.cells
      have H := aside' h2
      simp only [zE] at x0 x1 x2 x3
      clear hb6 h1 h2 fin hj
      go_wp2_with fail
      go_ret
      exact ⟨rfl, H.out⟩

end Go.Proofs.YthidhdffiebbgaaGreatDoor
