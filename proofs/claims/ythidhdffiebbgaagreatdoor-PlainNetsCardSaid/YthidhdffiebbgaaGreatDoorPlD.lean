/- The walks of package plain, fourth part: check, Joined. -/
import Derived.Test.YthidhdffiebbgaaGreatDoorPlC
import Derived.Test.YthidhdffiebbgaaGreatDoorPlA
namespace Go.Proofs.YthidhdffiebbgaaGreatDoor
open Go.RowKit Go.Proofs.YthidhdffiebbgaaGreatDoor.Sk

def checkA (V : List Int) (E : List Edg) (qs : List Int) : Int := if Right V E then (if ∀ x ∈ qs, x ∈ V then 0 else 51) else 60
theorem checkA_no {V : List Int} {E : List Edg} {qs : List Int} (h : ¬ Right V E) : checkA V E qs = 60 := if_neg h
theorem checkA_ok {V : List Int} {E : List Edg} {qs : List Int} (h : Right V E) (k : ∀ x ∈ qs, x ∈ V) : checkA V E qs = 0 := by unfold checkA; rw [if_pos h, if_pos k]
theorem checkA_out {V : List Int} {E : List Edg} {qs : List Int} (h : Right V E) (k : ¬ ∀ x ∈ qs, x ∈ V) : checkA V E qs = 51 := by unfold checkA; rw [if_pos h, if_neg k]

set_option maxRecDepth 100000 in
set_option maxHeartbeats 1000000 in
theorem checkA_any (n q : Value) (V : List Int) (E : List Edg) (qs : List Int) (w : World) (hn : NetAt w n V E) (hq : RdI w q qs) (hq8 : qs.length ≤ 2048) :
    Calls Tryz.prog 40 #[n, q] w fun e w' => e = .returned (.int .i64 (checkA V E qs)) ∧ Below w.heap.size w w' := by
  obtain ⟨vs, es, rfl, hV, hE⟩ := hn.ex
  have hb0 : Below w.heap.size w (w.alloc (.cells #[vs, es] 25)) := (Below.refl _ _).alloc (Nat.le_refl _) _
  have hn0 := hn.below hb0
  have A : Aside (NetAt w (.agg #[vs, es]) V E ∧ RdI w q qs) := ⟨hn, hq⟩
  clear hn hV hE
  go_enter Tryz.func40, Tryz.ntmps40
  go_wp2_with fail
  refine (check_any _ V E _ hn0).mono ?_
  rintro _ w1 ⟨rfl, hb1⟩
  have hB1 : Below w.heap.size w w1 := hb0.trans (hb1.mono (by simp))
  by_cases hr : Right V E
  · have n0 : w1.cell? ⟨w.heap.size, 0, none⟩ = some vs := by rw [bcell hb1 _ _ (by simp), World.cell?_alloc_at _ _ _ _ rfl]; rfl
    have n1 : w1.cell? ⟨w.heap.size, 1, none⟩ = some es := by rw [bcell hb1 _ _ (by simp), World.cell?_alloc_at _ _ _ _ rfl]; rfl
    have hz1 : w.heap.size + 1 ≤ w1.heap.size := by have := hb1.size; simpa using this
    rw [checkN_ok hr]
    obtain ⟨qa, qcap, rfl, _, _, _⟩ := hq
    have B : Aside (Right V E ∧ Below w.heap.size w w1 ∧ w.heap.size + 1 ≤ w1.heap.size ∧ w1.cell? ⟨w.heap.size, 0, none⟩ = some vs ∧ w1.cell? ⟨w.heap.size, 1, none⟩ = some es) := ⟨hr, hB1, hz1, n0, n1⟩
    clear hn0 hb0 hb1 hB1 hr hz1 n0 n1
    go_wp2_with fail
    go_loopg [15] qs.length (fun g i wr => ∃ k : Nat, k + g = qs.length ∧ i = .int .i64 k ∧ Below w.heap.size w wr ∧ w.heap.size + 1 ≤ wr.heap.size ∧
      wr.cell? ⟨w.heap.size, 0, none⟩ = some vs ∧ wr.cell? ⟨w.heap.size, 1, none⟩ = some es ∧ ∀ x ∈ qs.take k, x ∈ V)
    case atStart => exact ⟨0, by omega, rfl, B.out.2.1, B.out.2.2.1, B.out.2.2.2.1, B.out.2.2.2.2, by simp⟩
    case round =>
      obtain ⟨k, hk, rfl, hbel, hsz, hc0, hc1, hall⟩ := hrel
      by_cases hlt : k < qs.length
      · obtain ⟨_, _, b, off, rfl, hb, g0⟩ := (A.out.2.below hbel).get hlt
        obtain ⟨x, hx⟩ : ∃ x, qs[k] = x := ⟨_, rfl⟩
        rw [hx] at g0
        have D : Aside (Below w.heap.size w wr ∧ k + gk = qs.length) := ⟨hbel, hk⟩
        by_cases hxV : x ∈ V
        · have hd : decide (x ∈ V) = true := by simp [hxV]
          have C : Aside (∀ x ∈ qs.take (k + 1), x ∈ V) := fun y hy => by
            rw [List.take_succ_eq_append_getElem hlt, List.mem_append, List.mem_singleton] at hy
            rcases hy with hy | rfl
            · exact hall y hy
            · rw [hx]; exact hxV
          clear hall hxV hbel hx hk
          go_wp2_with fail
          refine (has_any _ V E _ _ (A.out.1.below D.out.1) B.out.1.2.2.1.le).mono ?_
          rintro _ w2 ⟨rfl, hb2⟩
          have F : Aside (Below w.heap.size w w2 ∧ w.heap.size + 1 ≤ w2.heap.size ∧ w2.cell? ⟨w.heap.size, 0, none⟩ = some vs ∧ w2.cell? ⟨w.heap.size, 1, none⟩ = some es) :=
            ⟨D.out.1.trans (hb2.mono (by omega)), by have := hb2.size; omega, by rw [bcell hb2 _ _ (by omega)]; exact hc0, by rw [bcell hb2 _ _ (by omega)]; exact hc1⟩
          clear hb2
          go_wp2_with fail
          obtain ⟨f1, f2, f3, f4⟩ := F.out
          go_roundg (gk - 1)
          case rel => exact ⟨k + 1, by have := D.out.2; omega, by go_num, f1, f2, f3, f4, C.out⟩
          case measure => have := D.out.2; omega
        · have hd : decide (x ∈ V) = false := by simp [hxV]
          have C : Aside (¬ ∀ x ∈ qs, x ∈ V) := fun h => hxV (hx ▸ h _ (List.getElem_mem hlt))
          clear hall hxV hbel hx hk
          go_wp2_with fail
          refine (has_any _ V E _ _ (A.out.1.below D.out.1) B.out.1.2.2.1.le).mono ?_
          rintro _ w2 ⟨rfl, hb2⟩
          have F : Aside (Below w.heap.size w w2) := D.out.1.trans (hb2.mono (by omega))
          clear hb2
          go_wp2_with fail
          go_ret
          exact ⟨by rw [checkA_out B.out.1 C.out]; rfl, F.out⟩
      · have hkk : k = qs.length := by omega
        subst hkk
        rw [List.take_length] at hall
        have D : Aside (Below w.heap.size w wr ∧ ∀ x ∈ qs, x ∈ V) := ⟨hbel, hall⟩
        clear hall hbel
        go_wp2_with fail
        go_ret
        exact ⟨by rw [checkA_ok B.out.1 D.out.2]; rfl, D.out.1⟩
  · have B : Aside (¬ Right V E ∧ Below w.heap.size w w1) := ⟨hr, hB1⟩
    rw [checkN_no hr]
    clear hn0 hb0 hb1 hB1 hr
    go_wp2_with fail
    go_ret
    exact ⟨by rw [checkA_no B.out.1]; rfl, B.out.2⟩

end Go.Proofs.YthidhdffiebbgaaGreatDoor
