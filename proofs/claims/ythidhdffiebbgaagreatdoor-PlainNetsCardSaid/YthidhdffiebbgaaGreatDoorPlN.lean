/- The walks of path and Path. -/
import Derived.Test.YthidhdffiebbgaaGreatDoorPlM
import Derived.Test.YthidhdffiebbgaaGreatDoorPathA
namespace Go.Proofs.YthidhdffiebbgaaGreatDoor
open Go.RowKit Go.Proofs.YthidhdffiebbgaaGreatDoor.Sk
open Go.Sort (HoldsK putRowK holdsK_putRowK holdsK_ahead size_putRowK)

/-- what path answers -/
def PathA (V : List Int) (E : List Edg) (u v : Int) (L : List Edg) (c : Int) : Prop :=
  (checkA V E [u, v] = 0 → (Conn E u v → c = 0 ∧ Trail (forestOf E) u L v ∧ L.Nodup) ∧ (¬ Conn E u v → c = 61 ∧ L = [])) ∧ (checkA V E [u, v] ≠ 0 → c = checkA V E [u, v] ∧ L = [])

def PathPost (w : World) (V : List Int) (E : List Edg) (u v : Int) (e : Ending) (w' : World) : Prop :=
  ∃ pv L c, e = .returned (.tuple #[pv, .int .i64 c]) ∧ RdE w' pv L ∧ PathA V E u v L c ∧ L.length ≤ 2048 ∧ Below w.heap.size w w'

theorem checkA_in {V : List Int} {E : List Edg} {qs : List Int} (h : checkA V E qs = 0) : Right V E ∧ ∀ x ∈ qs, x ∈ V := by
  by_cases hR : Right V E
  · refine ⟨hR, ?_⟩
    by_cases hq : ∀ x ∈ qs, x ∈ V
    · exact hq
    · rw [checkA_out hR hq] at h; omega
  · rw [checkA_no hR] at h; omega

set_option maxRecDepth 100000 in
set_option maxHeartbeats 2000000 in
theorem path_any (n : Value) (V : List Int) (E : List Edg) (u v : Int) (w : World) (hn : NetAt w n V E) (hu : wf64 u) (hv : wf64 v) :
    Calls Tryz.prog 51 #[n, .int .i64 u, .int .i64 v] w (PathPost w V E u v) := by
  obtain ⟨vs, es, rfl, hV, hE⟩ := hn.ex
  have hb0 : Below w.heap.size w ((w.alloc (.cells #[vs, es] 25)).alloc (.cells #[.int .i64 u, .int .i64 v] 3)) := ((Below.refl _ _).alloc (Nat.le_refl _) _).alloc (by simp) _
  have hn0 := hn.below hb0
  have hq := rdI_two (w.alloc (.cells #[vs, es] 25)) u v hu hv
  simp only [World.size_alloc] at hq
  have hwf : ∀ e ∈ E, e.wf := by obtain ⟨_, _, _, h, _⟩ := hE; exact h
  have A : Aside (NetAt w (.agg #[vs, es]) V E ∧ (∀ e ∈ E, e.wf)) := ⟨hn, hwf⟩
  clear hn hV hE hwf
  go_enter Tryz.func51, Tryz.ntmps51
  go_wp2_with fail
  refine (checkA_any _ _ V E [u, v] _ hn0 hq (by simp)).mono ?_
  rintro _ w1 ⟨rfl, hb1⟩
  have hB1 : Below w.heap.size w w1 := hb0.trans (hb1.mono (by simp; omega))
  by_cases hr : checkA V E [u, v] = 0
  · obtain ⟨hR, hin⟩ := checkA_in hr
    have huV : u ∈ V := hin u (by simp)
    have hvV : v ∈ V := hin v (by simp)
    have n0 : w1.cell? ⟨w.heap.size, 0, none⟩ = some vs := by rw [bcell hb1 _ _ (by simp; omega), World.cell?_alloc_past _ _ _ (by simp), World.cell?_alloc_at _ _ _ _ rfl]; rfl
    have n1 : w1.cell? ⟨w.heap.size, 1, none⟩ = some es := by rw [bcell hb1 _ _ (by simp; omega), World.cell?_alloc_past _ _ _ (by simp), World.cell?_alloc_at _ _ _ _ rfl]; rfl
    have hre := reach_any _ V E u w1 (A.out.1.below hB1) hR huV
    have B : Aside (Right V E ∧ Below w.heap.size w w1 ∧ checkA V E [u, v] = 0 ∧ u ∈ V ∧ v ∈ V) := ⟨hR, hB1, hr, huV, hvV⟩
    rw [hr]
    clear hn0 hb0 hb1 hB1 hr hR hq hin huV hvV
    go_wp2_with fail
    refine hre.mono ?_
    rintro _ w2 ⟨sb, nn, ov, ord, M, D, rfl, hsb, hM, hO, hBf, hcl, hVo, hol, hb2⟩
    have hB2 : Below w.heap.size w w2 := B.out.2.1.trans (hb2.mono B.out.2.1.size)
    have look := hM.look_ok Tryz.underlying3 Tryz.underlying138 (Tryz.zeroValue142 _) hv
    have hall := hBf.all hcl
    have hzz : w.heap.size ≤ w2.heap.size := hB2.size
    cases hMv : M v with
    | none =>
      simp only [encS, hMv, Option.map_none, Option.getD_none, Option.isSome_none] at look
      have hno : ¬ Conn E u v := fun h => (hBf.dom v).2 ((hall v).2 ((forest_conn E u v).2 h)) hMv
      have K2 : Aside (PathA V E u v [] 61 ∧ Below w.heap.size w w2) := ⟨⟨fun _ => ⟨fun h => absurd h hno, fun _ => ⟨rfl, rfl⟩⟩, fun h => absurd B.out.2.2.1 h⟩, hB2⟩
      clear hM hO hBf hcl hVo hb2 hB2 hall hre
      go_wp2_with fail
      go_ret2
      exact ⟨_, [], 61, rfl, RdE.nil _, K2.out.1, by simp, K2.out.2.alloc hzz _⟩
    | some x =>
      obtain ⟨ex, sx⟩ := x
      simp only [encS, hMv, Option.map_some, Option.getD_some, Option.isSome_some, stepV] at look
      have hyes : Conn E u v := (forest_conn E u v).1 ((hall v).1 ((hBf.dom v).1 (by rw [hMv]; simp)))
      have K2 : Aside (Below w.heap.size w w2 ∧ w1.heap.size ≤ sb ∧ MapAt Tryz.prog 3 w2 sb nn (encS M) ∧ Bfs (forestOf E) u ord M D ∧ (∀ x ∈ ord, x ∈ V) ∧ ord.length ≤ 2048 ∧ Conn E u v ∧ v ∈ ord) := ⟨hB2, hsb, hM, hBf, hVo, hol, hyes, (hBf.dom v).1 (by rw [hMv]; simp)⟩
      have hsz2 : sb < w2.heap.size := hM.lt
      clear hM hO hBf hcl hVo hb2 hB2 hall hre hol hyes hsb
      go_wp2_with fail
      go_loopg [2, 13] (D v) (fun g x o wr => ∃ (y : Int) (out : List Edg) (e : Edg) (s : Int), g = D y ∧ x = .int .i64 y ∧ Back (forestOf E) u M D v y out ∧ M y = some (e, s) ∧ out.length + D y = D v ∧ Below w2.heap.size w2 wr ∧
        wr.ownsRow w2.heap.size 47 4 o out.length (out.flatMap encE))
      case atStart => exact ⟨v, [], ex, sx, rfl, rfl, Back.start _ _ _ _ _, hMv, by simp, (Below.refl _ _).alloc (Nat.le_refl _) _, World.ownsRow_nil _ _ _ _⟩
      case round =>
        obtain ⟨y, out, e, s, hg, rfl, hBk, hMy, hol, hbel, hO⟩ := hrel
        obtain ⟨k1, k2, k3, k4, k5, k6, k7, k8⟩ := K2.out
        obtain ⟨b1, b2, b3, b4, b5⟩ := B.out
        have hyo : y ∈ ord := (k4.dom y).1 (by rw [hMy]; simp)
        have hyV := k5 y hyo
        have hy12 := rises_ok b1.2.2.1 hyV
        have hdv := k4.deep v k8
        by_cases hyu : y = u
        · subst hyu
          have hL : ∀ x ∈ out, x.wf := fun x hx => A.out.2 x (forestOf_sub E x (hBk.way.sub x hx))
          have hPA : PathA V E y v out.reverse 0 := ⟨fun _ => ⟨fun _ => ⟨rfl, hBk.way.back, nodup_back hBk.nodup⟩, fun h => absurd k7 h⟩, fun h => absurd b3 h⟩
          have hol2 : out.length ≤ 2048 := by omega
          rcases Nat.eq_zero_or_pos out.length with h0 | h0
          · obtain rfl : out = [] := List.length_eq_zero_iff.1 h0
            obtain ⟨oa, ocap, rfl, _⟩ := owns_form hO
            have R : Aside (PathA V E y v [] 0 ∧ Below w.heap.size w wr) := ⟨hPA, k1.trans (hbel.mono k1.size)⟩
            clear hO hbel hBk hPA hL k1 k2 k3 k4 k5 k6 k7 k8 b1 b2 b3 b4 b5
            go_wp2_with (go_at_call 82; refine (Tryz.slices_Reverse_edges_empty _ _ _).mono ?_; rintro _ _ ⟨rfl, rfl⟩)
            go_ret2
            exact ⟨_, [], 0, rfl, ⟨_, _, rfl, by simp, by simp, by simp⟩, R.out.1, by simp, R.out.2⟩
          · obtain ⟨oa, ocap, rfl, hh⟩ := owns_form hO
            obtain ⟨gb, rfl⟩ := hh h0
            have hlt := hO.lt gb rfl
            have hK := holdsK_of_owns hO
            have hrev := Tryz.slices_Reverse_edges encE (fun _ => rfl) encE_one gb 0 ocap out.toArray wr hK (by simp; omega)
            simp only [List.size_toArray] at hrev
            have R : Aside (PathA V E y v out.reverse 0 ∧ Below w.heap.size w wr ∧ w.heap.size ≤ gb ∧ gb < wr.heap.size ∧ HoldsK encE 4 wr gb 0 out.toArray ∧ ∀ x ∈ out, x.wf) := ⟨hPA, k1.trans (hbel.mono k1.size), by omega, hlt.2, hK, hL⟩
            clear hO hbel hBk hPA hL k1 k2 k3 k4 k5 k6 k7 k8 b1 b2 b3 b4 b5 hlt hK hh
            go_wp2_with (go_at_call 82; refine hrev.mono ?_; rintro _ w4 ⟨rfl, q, hw4⟩)
            go_ret2
            obtain ⟨r1, r2, r3, r4, r5, r6⟩ := R.out
            subst hw4
            refine ⟨_, out.reverse, 0, rfl, ?_, r1, by simp; omega, ?_⟩
            · have hx := rdE_of_holds (w := putRowK encE 4 (Go.Sort.ahead wr q) gb 0 out.toArray.reverse) (g := gb) (cap := ocap) (E := out.reverse) (by
                have := holdsK_putRowK encE 4 (Go.Sort.ahead wr q) gb 0 out.toArray out.toArray.reverse (holdsK_ahead encE 4 wr q gb 0 _ r5) (by simp)
                simpa using this) (by rw [size_putRowK]; exact r4) (fun x hx => r6 x (List.mem_reverse.1 hx)) (by simp; omega)
              simpa using hx
            · have := below_sortK (q := q) (d := out.toArray.reverse) (os := #[]) r2 r3 r2.size
              simpa [sortWorldK] using this
        · have hfl := field142_0
          have look := (k3.below hbel hsz2).look Tryz.underlying3 Tryz.underlying138 (Tryz.zeroValue142 _) (by unfold wf64; omega : wf64 y)
          simp only [encS, hMy, Option.map_some, Option.getD_some, stepV] at look
          obtain ⟨h1, h2, h3, ep, sp, h4, h5⟩ := Back.step k4 hBk hMy hyu
          have hp12 := rises_ok b1.2.2.1 (k5 _ h2)
          obtain ⟨p, hp⟩ : ∃ p, e.u + e.v - y = p := ⟨_, rfl⟩
          rw [hp] at h1 h2 h3 h4 hp12
          have hok := b1.2.2.2.1 e (forestOf_sub E e (h1.way.sub e (by simp)))
          have he1 := rises_ok b1.2.2.1 hok.2.2.1
          have he2 := rises_ok b1.2.2.1 hok.2.2.2
          have hbs := hbel.size
          obtain ⟨i1, hi1, hy0, hy1, hy2⟩ := info_parts info47
          obtain ⟨a13, cap13, hu13, _⟩ := owns_form hO
          subst hu13
          have hol2 : out.length ≤ 2047 := by omega
          have R : Aside (Back (forestOf E) u M D v p (out ++ [e]) ∧ D y = D p + 1 ∧ M p = some (ep, sp) ∧ Below w2.heap.size w2 wr ∧ out.length + D y = D v ∧ gk = D y) := ⟨h1, h3, h4, hbel, hol, hg⟩
          have hne : (y != u) = true := by simp [hyu]
          clear h1 h2 h3 h4 h5 hok hbel hol k1 k2 k3 k4 k5 k6 k7 k8 b1 b2 b3 b4 b5 hBk hMy hyu hdv hyo hyV hg
          go_wp2_with (first
            | (at_builtin; refine wpList_append_own_at _ rfl (.tmp 44) (.tmp 46) 23 rfl w2.heap.size 47 i1 (.agg #[.int .i64 0, .int .i64 0, .int .i64 0, .int .i64 0]) 4 32 Tryz.underlying23 hi1 hy0 hy1 hy2 rfl (by decide) _ _ _ rfl ((hO.alloc _).alloc _) ⟨wr.heap.size + 1, 0, none⟩ 1 1 (encE e) rfl rfl (by simpa using cell_four_new (wr.alloc (.cells #[.int .i64 e.id, .int .i64 e.u, .int .i64 e.v, .int .i64 e.w] 47)) e) (encE_one e) (by unfold maxLen; omega) (by omega) (by simp; omega) ?_; intro v' w3 hown' hgrow hnil hloc; obtain ⟨g', cap', rfl⟩ := owns_succ hown'; have hnb : some wr.heap.size ≠ (Value.slice a13 out.length cap13).ownBlock := (fun h => (by have := (hO.lt _ h.symm).2; omega)); have q1 : w3.cell? ⟨wr.heap.size, 1, none⟩ = some (.int .i64 e.u) := hgrow.cell (by rw [World.cell?_alloc_past _ _ _ (by simp), World.cell?_alloc_at _ _ _ _ rfl]; rfl) hnb; have q2 : w3.cell? ⟨wr.heap.size, 2, none⟩ = some (.int .i64 e.v) := hgrow.cell (by rw [World.cell?_alloc_past _ _ _ (by simp), World.cell?_alloc_at _ _ _ _ rfl]; rfl) hnb)
            | fail)
          obtain ⟨r1, r2, r3, r4, r5, r6⟩ := R.out
          go_roundg (D p)
          case rel =>
            exact ⟨p, out ++ [e], ep, sp, rfl, rfl, r1, r3, by simp; omega, ((r4.alloc r4.size _).alloc (by simp; omega) _).grown hgrow (by simp; omega) (fun j hj => (hO.lt j hj).1), by rw [flat_snoc]; simpa using hown'⟩
          case measure => omega
  · have K2 : Aside (PathA V E u v [] (checkA V E [u, v]) ∧ Below w.heap.size w w1) := ⟨⟨fun h => absurd h hr, fun _ => ⟨rfl, rfl⟩⟩, hB1⟩
    obtain ⟨c, hc⟩ : ∃ c, checkA V E [u, v] = c := ⟨_, rfl⟩
    have hcA : Aside (checkA V E [u, v] = c) := hc
    rw [hc]
    rw [hc] at hr
    have hne : (c != 0) = true := by simp [hr]
    clear hn0 hb0 hb1 hB1 hr hc hq
    go_wp2_with fail
    go_ret2
    exact ⟨_, [], c, rfl, RdE.nil _, hcA.out ▸ K2.out.1, by simp, K2.out.2⟩

end Go.Proofs.YthidhdffiebbgaaGreatDoor
