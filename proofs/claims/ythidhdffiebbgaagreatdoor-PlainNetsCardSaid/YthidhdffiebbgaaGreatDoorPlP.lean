/- The walks of slices.MaxFunc at edges and of Along. -/
import Derived.Test.YthidhdffiebbgaaGreatDoorPlO
import Derived.Laws.Cover2
import Derived.Laws.Cover3
namespace Go.Proofs.YthidhdffiebbgaaGreatDoor
open Go.RowKit Go.Proofs.YthidhdffiebbgaaGreatDoor.Sk

theorem less_grown (x y : Edg) (w : World) : Calls Tryz.prog 54 #[valE x, valE y] w fun e w' => e = .returned (.int .i64 (lessI x y)) ∧ w.grownBy w' none := by
  refine (less_any x y w).mono ?_
  rintro _ _ ⟨rfl, q, os, rfl⟩
  refine ⟨rfl, rfl, rfl, rfl, by simp [Go.Sort.grow], fun k hk _ => ?_⟩
  exact Go.Sort.heap_grow_old (w.drewN q) os hk

/-- the greater of two, the first of alike -/
def maxStep (m e : Edg) : Edg := if 0 < lessI e m then e else m
def maxE (L : List Edg) : Edg := L.tail.foldl maxStep (L.headD zE)
theorem maxE_snoc {L : List Edg} (h : L ≠ []) (e : Edg) : maxE (L ++ [e]) = maxStep (maxE L) e := by
  cases L with
  | nil => exact absurd rfl h
  | cons a l => simp [maxE]

/-- an edge laid over another one -/
def set4 (w : World) (B : Nat) (e : Edg) : World :=
  (((w.setCell ⟨B, 0, none⟩ (.int .i64 e.id)).setCell ⟨B, 1, none⟩ (.int .i64 e.u)).setCell ⟨B, 2, none⟩ (.int .i64 e.v)).setCell ⟨B, 3, none⟩ (.int .i64 e.w)
theorem set4_box {w : World} {B : Nat} {m : Edg} (h : BoxE w B m) (e : Edg) : BoxE (set4 w B e) B e := by
  have h0 := heap_setCell_same w B 0 _ 47 (.int .i64 e.id) h
  have h1 := heap_setCell_same _ B 1 _ 47 (.int .i64 e.u) h0
  have h2 := heap_setCell_same _ B 2 _ 47 (.int .i64 e.v) h1
  have h3 := heap_setCell_same _ B 3 _ 47 (.int .i64 e.w) h2
  exact h3
theorem set4_other (w : World) (B : Nat) (e : Edg) (k : Nat) (h : k ≠ B) : (set4 w B e).heap[k]? = w.heap[k]? := by
  unfold set4
  rw [heap_setCell_other _ _ _ _ h, heap_setCell_other _ _ _ _ h, heap_setCell_other _ _ _ _ h, heap_setCell_other _ _ _ _ h]
theorem set4_size (w : World) (B : Nat) (e : Edg) : (set4 w B e).heap.size = w.heap.size := by
  unfold set4
  simp
theorem set4_below {a w : World} {B b : Nat} (e : Edg) (h : Below B a w) (hp : B ≤ b) : Below B a (set4 w b e) :=
  (((h.setCell (p := ⟨b, 0, none⟩) hp _).setCell (p := ⟨b, 1, none⟩) hp _).setCell (p := ⟨b, 2, none⟩) hp _).setCell (p := ⟨b, 3, none⟩) hp _

set_option maxRecDepth 100000 in
set_option maxHeartbeats 1000000 in
theorem maxFunc_any (v : Value) (L : List Edg) (w : World) (hL : RdE w v L) (hne : L ≠ []) :
    Calls Tryz.prog 53 #[v, .func (.func 54) #[] #[]] w fun e w' => e = .returned (valE (maxE L)) ∧ Below w.heap.size w w' := by
  have h0 : 0 < L.length := List.length_pos_iff.2 hne
  obtain ⟨a, cap, rfl, _, hlen, _⟩ := id hL
  obtain ⟨_, _, b, off, rfl, hb, c0, c1, c2, c3⟩ := hL.get h0
  obtain ⟨e0, he0⟩ : ∃ e0, L[0] = e0 := ⟨_, rfl⟩
  rw [he0] at c0 c1 c2 c3
  have hm0 : maxE (L.take 1) = e0 := by
    cases L with
    | nil => exact absurd rfl hne
    | cons x l => simp at he0; subst he0; simp [maxE]
  simp only [Nat.zero_mul, Nat.add_zero] at c0 c1 c2 c3
  have A : Aside (RdE w (.slice (some ⟨b, off, none⟩) L.length cap) L ∧ maxE (L.take 1) = e0 ∧ L ≠ []) := ⟨hL, hm0, hne⟩
  have hlt1 : (L.length : Int) ≥ 1 := by omega
  clear hL hne he0 hm0
  unfold valE
  go_enter Tryz.func53, Tryz.ntmps53
  go_wp2_with fail
  go_loopg [6] (L.length - 1) (fun g i wr => ∃ k : Nat, k + g = L.length ∧ 1 ≤ k ∧ i = .int .i64 k ∧ BoxE wr (w.heap.size + 1) (maxE (L.take k)) ∧ Below w.heap.size w wr ∧ w.heap.size + 2 ≤ wr.heap.size ∧
    wr.heap[w.heap.size]? = some (.cells #[.int .i64 0, .int .i64 0, .int .i64 0, .int .i64 0] 47 (0, 0)))
  case atStart =>
    refine ⟨1, by omega, by omega, rfl, ?_, ((Below.refl _ _).alloc (Nat.le_refl _) _).alloc (by simp) _, by simp, ?_⟩
    · rw [A.out.2.1]
      have := World.alloc_heap_new (w.alloc (.cells #[.int .i64 0, .int .i64 0, .int .i64 0, .int .i64 0] 47)) (.cells #[.int .i64 e0.id, .int .i64 e0.u, .int .i64 e0.v, .int .i64 e0.w] 47)
      rw [World.size_alloc] at this
      exact this
    · rw [(World.grownBy_alloc _ _ none).block _ (by simp) (by simp)]
      exact World.alloc_heap_new _ _
  case round =>
    obtain ⟨k, hk, hk1, rfl, hbx, hbel, hsz, hb4⟩ := hrel
    have hbox := hbx.cells
    obtain ⟨x0, x1, x2, x3⟩ := hbox
    by_cases hlt : k < L.length
    · obtain ⟨_, hew, b', off', e1, _, g0, g1, g2, g3⟩ := (A.out.1.below hbel).get hlt
      injection e1 with e1
      injection e1 with e1 e2 _
      subst e1 e2
      obtain ⟨e, hx⟩ : ∃ e, L[k] = e := ⟨_, rfl⟩
      rw [hx] at g0 g1 g2 g3 hew
      have hsnoc : L.take (k + 1) = L.take k ++ [e] := by rw [List.take_succ_eq_append_getElem hlt, hx]
      have hms := maxE_snoc (L := L.take k) (by intro h; have := congrArg List.length h; rw [List.length_take, List.length_nil] at this; omega) e
      rw [← hsnoc] at hms
      obtain ⟨m, hm⟩ : ∃ m, maxE (L.take k) = m := ⟨_, rfl⟩
      rw [hm] at x0 x1 x2 x3 hbx hms
      have hls := less_grown e m
      unfold valE at hls
      have hzb : b < wr.heap.size := by omega
      have D : Aside (Below w.heap.size w wr ∧ maxE (L.take (k + 1)) = maxStep m e ∧ BoxE wr (w.heap.size + 1) m ∧ wr.heap[w.heap.size]? = some (.cells #[.int .i64 0, .int .i64 0, .int .i64 0, .int .i64 0] 47 (0, 0))) := ⟨hbel, hms, hbx, hb4⟩
      have hbx2 : ∀ w', wr.grownBy w' none → BoxE w' (w.heap.size + 1) m := fun w' h => (h.block _ (by omega) (by simp)).trans hbx
      clear hbel hms hbx hb4 hx hsnoc hm
      by_cases hgt : 0 < lessI e m
      rotate_left
      · have hle : Aside (¬ 0 < lessI e m) := hgt
        go_wp2_with fail
        go_region_held3 (fun w' => w'.cell? ⟨b, off + k * 4, none⟩ = some (.int .i64 e.id) ∧ w'.cell? ⟨b, off + k * 4 + 1, none⟩ = some (.int .i64 e.u) ∧ w'.cell? ⟨b, off + k * 4 + 2, none⟩ = some (.int .i64 e.v) ∧ w'.cell? ⟨b, off + k * 4 + 3, none⟩ = some (.int .i64 e.w) ∧
            w'.cell? ⟨w.heap.size + 1, 0, none⟩ = some (.int .i64 m.id) ∧ w'.cell? ⟨w.heap.size + 1, 1, none⟩ = some (.int .i64 m.u) ∧ w'.cell? ⟨w.heap.size + 1, 2, none⟩ = some (.int .i64 m.v) ∧ w'.cell? ⟨w.heap.size + 1, 3, none⟩ = some (.int .i64 m.w))
          (first
            | go_keep
            | (go_split_ands; refine ⟨hgr.cell ?_ (by simp), hgr.cell ?_ (by simp), hgr.cell ?_ (by simp), hgr.cell ?_ (by simp), hgr.cell ?_ (by simp), hgr.cell ?_ (by simp), hgr.cell ?_ (by simp), hgr.cell ?_ (by simp)⟩ <;> assumption))
          ((go_at_call 54; refine (hls _).mono ?_; rintro _ w3 ⟨rfl, hgr⟩))
        rename_i hH
        clear hH
        go_wp2_with fail
        obtain ⟨d1, d2, d3, d4⟩ := D.out
        have hg2 : wr.grownBy w3 none := ⟨hgr.os, hgr.tape, hgr.output, hgr.size, hgr.block⟩
        have hgs := hg2.size
        go_roundg (gk - 1)
        case rel =>
          refine ⟨k + 1, by omega, by omega, by go_num, ?_, d1.grown hg2 d1.size (by simp), by omega, (hg2.block _ (by omega) (by simp)).trans d4⟩
          rw [d2, maxStep, if_neg (show ¬ 0 < lessI e m by have := hle.out; omega)]
          exact hbx2 w3 hg2
        case measure => omega
      go_wp2_with fail
      go_region_held3 (fun w' => w'.cell? ⟨b, off + k * 4, none⟩ = some (.int .i64 e.id) ∧ w'.cell? ⟨b, off + k * 4 + 1, none⟩ = some (.int .i64 e.u) ∧ w'.cell? ⟨b, off + k * 4 + 2, none⟩ = some (.int .i64 e.v) ∧ w'.cell? ⟨b, off + k * 4 + 3, none⟩ = some (.int .i64 e.w) ∧
          w'.cell? ⟨w.heap.size + 1, 0, none⟩ = some (.int .i64 m.id) ∧ w'.cell? ⟨w.heap.size + 1, 1, none⟩ = some (.int .i64 m.u) ∧ w'.cell? ⟨w.heap.size + 1, 2, none⟩ = some (.int .i64 m.v) ∧ w'.cell? ⟨w.heap.size + 1, 3, none⟩ = some (.int .i64 m.w))
        (first
          | go_keep
          | (go_split_ands; refine ⟨hgr.cell ?_ (by simp), hgr.cell ?_ (by simp), hgr.cell ?_ (by simp), hgr.cell ?_ (by simp), hgr.cell ?_ (by simp), hgr.cell ?_ (by simp), hgr.cell ?_ (by simp), hgr.cell ?_ (by simp)⟩ <;> assumption))
        ((go_at_call 54; refine (hls _).mono ?_; rintro _ w3 ⟨rfl, hgr⟩))
      rename_i hH
      obtain ⟨q0, q1, q2, q3, q4, q5, q6, q7⟩ := hH
      have hb3 : BoxE w3 (w.heap.size + 1) m := hbx2 w3 ⟨hgr.os, hgr.tape, hgr.output, hgr.size, hgr.block⟩
      have hfz : ∀ i, w3.frozen? ⟨w.heap.size + 1, i, none⟩ = false := fun i => by
        have h' : w3.heap[w.heap.size + 1]? = _ := hb3
        simp [World.frozen?, h']
      have f0 := hfz 0
      have f1 := hfz 1
      have f2 := hfz 2
      have f3 := hfz 3
      clear hfz
      go_wp2_with fail
      obtain ⟨d1, d2, d3, d4⟩ := D.out
      have hg2 : wr.grownBy w3 none := ⟨hgr.os, hgr.tape, hgr.output, hgr.size, hgr.block⟩
      have hgs := hg2.size
      go_roundg (gk - 1)
      case rel =>
        refine ⟨k + 1, by omega, by omega, by go_num, ?_, set4_below e (d1.grown hg2 d1.size (by simp)) (by omega), ?_, ?_⟩
        · rw [d2, maxStep, if_pos hgt]
          exact set4_box hb3 e
        · have := set4_size w3 (w.heap.size + 1) e
          unfold set4 at this
          omega
        · exact (set4_other w3 (w.heap.size + 1) e _ (by omega)).trans ((hg2.block _ (by omega) (by simp)).trans d4)
      case measure => omega
    · have hkk : k = L.length := by omega
      subst hkk
      rw [List.take_length] at x0 x1 x2 x3
      have hfz : ∀ i, wr.frozen? ⟨w.heap.size, i, none⟩ = false := fun i => by simp [World.frozen?, hb4]
      have hcz : wr.cell? ⟨w.heap.size, 0, none⟩ = some (.int .i64 0) ∧ wr.cell? ⟨w.heap.size, 1, none⟩ = some (.int .i64 0) ∧ wr.cell? ⟨w.heap.size, 2, none⟩ = some (.int .i64 0) ∧ wr.cell? ⟨w.heap.size, 3, none⟩ = some (.int .i64 0) := by simp [World.cell?, hb4]
      obtain ⟨z0, z1, z2, z3⟩ := hcz
      have f0 := hfz 0
      have f1 := hfz 1
      have f2 := hfz 2
      have f3 := hfz 3
      have D : Aside (Below w.heap.size w wr ∧ wr.heap[w.heap.size]? = some (.cells #[.int .i64 0, .int .i64 0, .int .i64 0, .int .i64 0] 47 (0, 0))) := ⟨hbel, hb4⟩
      clear hfz hbel hb4 hbx
      go_wp2_with fail
      obtain ⟨d1, d2⟩ := D.out
      refine bodyPost_ret (results_cell_row rfl _ _ w.heap.size 47 #[.int .i64 (maxE L).id, .int .i64 (maxE L).u, .int .i64 (maxE L).v, .int .i64 (maxE L).w] (0, 0) _ rfl (set4_box (m := zE) (show BoxE wr w.heap.size zE from d2) (maxE L)) Tryz.underlying47 rfl (by kernel_rfl)) rfl ?_
      exact ⟨rfl, set4_below (maxE L) d1 (Nat.le_refl _)⟩

end Go.Proofs.YthidhdffiebbgaaGreatDoor
