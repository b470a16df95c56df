/- The walk of Along. -/
import Derived.Test.YthidhdffiebbgaaGreatDoorPlP
import Derived.Laws.ResultCell
namespace Go.Proofs.YthidhdffiebbgaaGreatDoor
open Go.RowKit Go.Proofs.YthidhdffiebbgaaGreatDoor.Sk

theorem run_store_complex (P : Program) (w : World) (a : Addr) (m : Mode) (k : FloatKind) (x y : Nat) : (store a (.complex k x y) m).run P w = stored P w a (.complex k x y) m := run_store P w a _ m rfl
attribute [local go_sem] run_store_complex

/-- an Agg -/
def cells5 (m : Edg) (a b : Nat) : Array Value := #[.int .i64 m.id, .int .i64 m.u, .int .i64 m.v, .int .i64 m.w, .complex .f64 a b]
def BoxA (W : World) (B : Nat) (m : Edg) (a b : Nat) : Prop := W.heap[B]? = some (.cells (cells5 m a b) 50 (0, 0))
def set5 (w : World) (B : Nat) (e : Edg) (a b : Nat) : World :=
  ((((w.setCell ⟨B, 0, none⟩ (.int .i64 e.id)).setCell ⟨B, 1, none⟩ (.int .i64 e.u)).setCell ⟨B, 2, none⟩ (.int .i64 e.v)).setCell ⟨B, 3, none⟩ (.int .i64 e.w)).setCell ⟨B, 4, none⟩ (.complex .f64 a b)
theorem set5_box {w : World} {B : Nat} {m : Edg} {c d : Nat} (h : BoxA w B m c d) (e : Edg) (a b : Nat) : BoxA (set5 w B e a b) B e a b := by
  have h0 := heap_setCell_same w B 0 _ 50 (.int .i64 e.id) h
  have h1 := heap_setCell_same _ B 1 _ 50 (.int .i64 e.u) h0
  have h2 := heap_setCell_same _ B 2 _ 50 (.int .i64 e.v) h1
  have h3 := heap_setCell_same _ B 3 _ 50 (.int .i64 e.w) h2
  have h4 := heap_setCell_same _ B 4 _ 50 (.complex .f64 a b) h3
  exact h4
theorem set5_below {a w : World} {B b : Nat} (e : Edg) (x y : Nat) (h : Below B a w) (hp : B ≤ b) : Below B a (set5 w b e x y) :=
  ((((h.setCell (p := ⟨b, 0, none⟩) hp _).setCell (p := ⟨b, 1, none⟩) hp _).setCell (p := ⟨b, 2, none⟩) hp _).setCell (p := ⟨b, 3, none⟩) hp _).setCell (p := ⟨b, 4, none⟩) hp _
theorem BoxA.cells {W : World} {B : Nat} {m : Edg} {a b : Nat} (h : BoxA W B m a b) : (W.cell? ⟨B, 0, none⟩ = some (.int .i64 m.id) ∧ W.cell? ⟨B, 1, none⟩ = some (.int .i64 m.u) ∧ W.cell? ⟨B, 2, none⟩ = some (.int .i64 m.v) ∧ W.cell? ⟨B, 3, none⟩ = some (.int .i64 m.w) ∧ W.cell? ⟨B, 4, none⟩ = some (.complex .f64 a b)) ∧
    (W.frozen? ⟨B, 0, none⟩ = false ∧ W.frozen? ⟨B, 1, none⟩ = false ∧ W.frozen? ⟨B, 2, none⟩ = false ∧ W.frozen? ⟨B, 3, none⟩ = false ∧ W.frozen? ⟨B, 4, none⟩ = false) := by
  have h' : W.heap[B]? = _ := h
  simp [World.cell?, World.frozen?, h', cells5]

theorem results_agg (fn : Func) (h : fn.results = #[.cell 6 50, .tmp 7]) (tmps : Array Value) (w : World) (B : Nat) (m : Edg) (a b : Nat) (hp : tmps.getD 6 undef = .pointer (some ⟨B, 0, none⟩)) (hb : BoxA w B m a b) :
    (results fn tmps).run Tryz.prog w = .ok (.tuple #[.agg (cells5 m a b), tmps.getD 7 undef]) w := by
  rw [results_cell_tmp h, hp]
  simp [asAddr, run_loadVar_row w B 50 50 (cells5 m a b) (0, 0) _ hb Tryz.underlying50 rfl (by kernel_rfl), Result.andThen]

/-- what Along answers, from a path and its error -/
def alongA (L : List Edg) (c : Int) : Array Value × Int :=
  if c ≠ 0 ∨ L = [] then (cells5 zE 0 0, c) else if 70368744177664 < sumW L then (cells5 zE 0 0, 62) else (cells5 (maxE L) (floatOfInt .f64 (sumW L)) (floatOfInt .f64 L.length), 0)

def AlongPost (w : World) (V : List Int) (E : List Edg) (u v : Int) (e : Ending) (w' : World) : Prop :=
  ∃ L c, PathA V E u v L c ∧ L.length ≤ 2048 ∧ e = .returned (.tuple #[.agg (alongA L c).1, .int .i64 (alongA L c).2]) ∧ Below w.heap.size w w'

set_option maxRecDepth 100000 in
set_option maxHeartbeats 1000000 in
theorem along_any (n : Value) (V : List Int) (E : List Edg) (u v : Int) (w : World) (hn : NetAt w n V E) (hu : wf64 u) (hv : wf64 v) :
    Calls Tryz.prog 21 #[n, .int .i64 u, .int .i64 v] w (AlongPost w V E u v) := by
  obtain ⟨vs, es, rfl, hV, hE⟩ := hn.ex
  have hb0 : Below w.heap.size w ((w.alloc (.cells #[vs, es] 25)).alloc (.cells (cells5 zE 0 0) 50)) := ((Below.refl _ _).alloc (Nat.le_refl _) _).alloc (by simp) _
  have hp := path_any _ V E u v _ (hn.below hb0) hu hv
  have hx0 : BoxA ((w.alloc (.cells #[vs, es] 25)).alloc (.cells (cells5 zE 0 0) 50)) (w.heap.size + 1) zE 0 0 := by
    have := World.alloc_heap_new (w.alloc (.cells #[vs, es] 25)) (.cells (cells5 zE 0 0) 50)
    rw [World.size_alloc] at this
    exact this
  have A : Aside (Below w.heap.size w ((w.alloc (.cells #[vs, es] 25)).alloc (.cells (cells5 zE 0 0) 50)) ∧ BoxA ((w.alloc (.cells #[vs, es] 25)).alloc (.cells (cells5 zE 0 0) 50)) (w.heap.size + 1) zE 0 0) := ⟨hb0, hx0⟩
  clear hn hV hE hb0 hx0
  unfold cells5 zE at hp
  go_enter Tryz.func21, Tryz.ntmps21
  go_wp2_with fail
  refine hp.mono ?_
  rintro _ w2 ⟨pv, L, c, rfl, hL, hPA, hl, hb⟩
  have hB2 : Below w.heap.size w w2 := A.out.1.trans (hb.mono (by simp; omega))
  have hx2 : BoxA w2 (w.heap.size + 1) zE 0 0 := (hb.block _ (by simp)).trans A.out.2
  obtain ⟨pa, pcap, rfl, _, hlen, _⟩ := id hL
  obtain ⟨⟨x0, x1, x2, x3, x4⟩, f0, f1, f2, f3, f4⟩ := hx2.cells
  by_cases hc : c = 0
  · subst hc
    rcases Nat.eq_zero_or_pos L.length with h0 | h0
    · obtain rfl : L = [] := List.length_eq_zero_iff.1 h0
      have R : Aside (PathA V E u v [] 0 ∧ Below w.heap.size w w2 ∧ BoxA w2 (w.heap.size + 1) zE 0 0) := ⟨hPA, hB2, hx2⟩
      clear hL hPA hb hB2 hx2 hp
      go_wp2_with fail
      obtain ⟨r1, r2, r3⟩ := R.out
      refine bodyPost_ret (results_agg _ rfl _ _ (w.heap.size + 1) zE 0 0 rfl (set5_box r3 zE 0 0)) rfl ?_
      exact ⟨[], 0, r1, by simp, by simp [alongA], set5_below zE 0 0 r2 (by omega)⟩
    · have hck : checkA V E [u, v] = 0 := Classical.byContradiction fun h => by have := (hPA.2 h).1; omega
      have hR := (checkA_in hck).1
      have hco : Conn E u v := Classical.byContradiction fun h => by have := ((hPA.1 hck).2 h).1; omega
      obtain ⟨_, htr, _⟩ := (hPA.1 hck).1 hco
      have hok : ∀ e ∈ L, okE V e := fun e he => hR.2.2.2.1 e (forestOf_sub E e (htr.sub e he))
      have hLne : L ≠ [] := fun h => by rw [h] at h0; simp at h0
      have C : Aside (RdE w2 (.slice pa L.length pcap) L ∧ Below w.heap.size w w2 ∧ PathA V E u v L 0 ∧ BoxA w2 (w.heap.size + 1) zE 0 0 ∧ (∀ e ∈ L, okE V e) ∧ L ≠ [] ∧ L.length ≤ 2048) := ⟨hL, hB2, hPA, hx2, hok, hLne, hl⟩
      have hl0 : ((L.length : Int) == 0) = false := by rw [beq_eq_false_iff_ne]; omega
      have hz2 : w.heap.size + 2 ≤ w2.heap.size := by have := hb.size; simpa using this
      clear hL hPA hb hB2 hx2 hp hck hR hco htr hok hLne x0 x1 x2 x3 x4 f0 f1 f2 f3 f4
      go_wp2_with fail
      go_loopg [31, 10] L.length (fun g i s wr => ∃ k : Nat, k + g = L.length ∧ i = .int .i64 k ∧ s = .int .i64 (sumW (L.take k)) ∧ Below w2.heap.size w2 wr)
      case atStart => exact ⟨0, by omega, rfl, rfl, Below.refl _ _⟩
      case round =>
        obtain ⟨k, hk, rfl, rfl, hbel⟩ := hrel
        by_cases hlt : k < L.length
        · obtain ⟨_, hew, b, off, rfl, hb, g0, g1, g2, g3⟩ := (C.out.1.below hbel).get hlt
          obtain ⟨e, hx⟩ : ∃ e, L[k] = e := ⟨_, rfl⟩
          rw [hx] at g0 g1 g2 g3 hew
          have hsnoc : L.take (k + 1) = L.take k ++ [e] := by rw [List.take_succ_eq_append_getElem hlt, hx]
          have hs := sumW_snoc (L.take k) e
          rw [← hsnoc] at hs
          have hbd := sumW_bounds (V := V) (L.take (k + 1)) fun e he => C.out.2.2.2.2.1 e (List.mem_of_mem_take he)
          have hle : (L.take (k + 1)).length ≤ 2048 := by simp; omega
          obtain ⟨s, hse⟩ : ∃ s, sumW (L.take k) = s := ⟨_, rfl⟩
          rw [hse] at hs ⊢
          rw [hs] at hbd
          have hb2 : s + e.w ≤ 2251799813685248 := by omega
          have hb1 := hbd.1
          have D : Aside (Below w2.heap.size w2 wr ∧ sumW (L.take (k + 1)) = s + e.w) := ⟨hbel, hs⟩
          clear hbel hs hse hx hbd hsnoc hle hew
          go_wp2_with fail
          obtain ⟨d1, d2⟩ := D.out
          go_roundg (gk - 1)
          case rel => exact ⟨k + 1, by omega, by go_num, by rw [d2], d1.alloc d1.size _⟩
          case measure => omega
        · have hkk : k = L.length := by omega
          subst hkk
          rw [List.take_length]
          have hx3 : BoxA wr (w.heap.size + 1) zE 0 0 := (hbel.block _ (by omega)).trans C.out.2.2.2.1
          obtain ⟨⟨x0, x1, x2, x3, x4⟩, f0, f1, f2, f3, f4⟩ := hx3.cells
          have hbs := hbel.size
          have D : Aside (Below w2.heap.size w2 wr ∧ BoxA wr (w.heap.size + 1) zE 0 0) := ⟨hbel, hx3⟩
          by_cases hgt : 70368744177664 < sumW L
          · obtain ⟨s, hs⟩ : ∃ s, sumW L = s := ⟨_, rfl⟩
            have hS : Aside (sumW L = s) := hs
            rw [hs] at hgt ⊢
            clear hbel hx3 hs
            go_wp2_with fail
            obtain ⟨c1, c2, c3, c4, c5, c6, c7⟩ := C.out
            refine bodyPost_ret (results_agg _ rfl _ _ (w.heap.size + 1) zE 0 0 rfl (set5_box D.out.2 zE 0 0)) rfl ?_
            refine ⟨L, 0, c3, c7, ?_, set5_below zE 0 0 (c2.trans (D.out.1.mono c2.size)) (by omega)⟩
            have : alongA L 0 = (cells5 zE 0 0, 62) := by unfold alongA; rw [if_neg (by simp [c6]), hS.out, if_pos (by omega)]
            rw [this]; rfl
          · have hmf := maxFunc_any (.slice pa L.length pcap) L wr (C.out.1.below hbel) C.out.2.2.2.2.2.1
            unfold valE at hmf
            obtain ⟨s, hs⟩ : ∃ s, sumW L = s := ⟨_, rfl⟩
            have hS : Aside (sumW L = s) := hs
            rw [hs] at hgt ⊢
            clear hbel hx3 hs x0 x1 x2 x3 x4 f0 f1 f2 f3 f4
            go_wp2_with fail
            refine hmf.mono ?_
            rintro _ w4 ⟨rfl, hb4⟩
            have hx4 : BoxA w4 (w.heap.size + 1) zE 0 0 := (hb4.block _ (by omega)).trans D.out.2
            obtain ⟨⟨x0, x1, x2, x3, x4⟩, f0, f1, f2, f3, f4⟩ := hx4.cells
            have R : Aside (Below wr.heap.size wr w4 ∧ BoxA w4 (w.heap.size + 1) zE 0 0) := ⟨hb4, hx4⟩
            clear hb4 hx4 hmf
            go_wp2_with fail
            obtain ⟨c1, c2, c3, c4, c5, c6, c7⟩ := C.out
            refine bodyPost_ret (results_agg _ rfl _ _ (w.heap.size + 1) (maxE L) (floatOfInt .f64 s) (floatOfInt .f64 L.length) rfl (set5_box R.out.2 (maxE L) (floatOfInt .f64 s) (floatOfInt .f64 L.length))) rfl ?_
            refine ⟨L, 0, c3, c7, ?_, set5_below (maxE L) _ _ ((c2.trans (D.out.1.mono c2.size)).trans (R.out.1.mono (by omega))) (by omega)⟩
            have : alongA L 0 = (cells5 (maxE L) (floatOfInt .f64 s) (floatOfInt .f64 L.length), 0) := by unfold alongA; rw [if_neg (by simp [c6]), hS.out, if_neg (by omega)]
            rw [this]; rfl
  · have hL0 : L = [] := by
      by_cases hck : checkA V E [u, v] = 0
      · by_cases hco : Conn E u v
        · exact absurd ((hPA.1 hck).1 hco).1 hc
        · exact ((hPA.1 hck).2 hco).2
      · exact (hPA.2 hck).2
    subst hL0
    have hne : (c != 0) = true := by simp [hc]
    have R : Aside (PathA V E u v [] c ∧ Below w.heap.size w w2 ∧ BoxA w2 (w.heap.size + 1) zE 0 0) := ⟨hPA, hB2, hx2⟩
    clear hL hPA hb hB2 hx2 hp hc
    go_wp2_with fail
    obtain ⟨r1, r2, r3⟩ := R.out
    refine bodyPost_ret (results_agg _ rfl _ _ (w.heap.size + 1) zE 0 0 rfl (set5_box r3 zE 0 0)) rfl ?_
    exact ⟨[], c, r1, by simp, by simp [alongA], set5_below zE 0 0 r2 (by omega)⟩

end Go.Proofs.YthidhdffiebbgaaGreatDoor
