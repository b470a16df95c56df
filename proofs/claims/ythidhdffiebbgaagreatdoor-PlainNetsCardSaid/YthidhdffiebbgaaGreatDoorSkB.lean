/- Own layer: slices of ints and of edges that are only read; nets. -/
import Derived.Test.YthidhdffiebbgaaGreatDoorSkA
namespace Go.Proofs.YthidhdffiebbgaaGreatDoor.Sk
open Go.RowKit

/-- The slice v reads as the numbers zs. -/
def RdI (w : World) (v : Value) (zs : List Int) : Prop :=
  ∃ a cap, v = .slice a zs.length cap ∧ (∀ x ∈ zs, wf64 x) ∧ zs.length * 8 ≤ 140737488351232 ∧
    (0 < zs.length → ∃ b off, a = some ⟨b, off, none⟩ ∧ b < w.heap.size ∧ ∀ j (h : j < zs.length), w.cell? ⟨b, off + j, none⟩ = some (.int .i64 zs[j]))

theorem RdI.below {w w' : World} {v : Value} {zs : List Int} (h : RdI w v zs) (hb : Below w.heap.size w w') : RdI w' v zs := by
  obtain ⟨a, cap, h1, h2, h3, h4⟩ := h
  refine ⟨a, cap, h1, h2, h3, fun h0 => ?_⟩
  obtain ⟨b, off, e, hlt, hc⟩ := h4 h0
  exact ⟨b, off, e, Nat.lt_of_lt_of_le hlt hb.size, fun j hj => (hb.cell (p := ⟨b, off + j, none⟩) hlt).trans (hc j hj)⟩

theorem RdI.nil (w : World) : RdI w (.slice none 0 0) [] := ⟨none, 0, rfl, by simp, by simp, by simp⟩

structure Edg where
  id : Int
  u : Int
  v : Int
  w : Int
deriving DecidableEq

def encE (e : Edg) : List Value := [.int .i64 e.id, .int .i64 e.u, .int .i64 e.v, .int .i64 e.w]
def Edg.wf (e : Edg) : Prop := wf64 e.id ∧ wf64 e.u ∧ wf64 e.v ∧ wf64 e.w

/-- The slice v reads as the edges es. -/
def RdE (w : World) (v : Value) (es : List Edg) : Prop :=
  ∃ a cap, v = .slice a es.length cap ∧ (∀ e ∈ es, e.wf) ∧ es.length * 32 ≤ 140737488351232 ∧
    (0 < es.length → ∃ b off, a = some ⟨b, off, none⟩ ∧ b < w.heap.size ∧ ∀ j (h : j < es.length),
      w.cell? ⟨b, off + j * 4, none⟩ = some (.int .i64 es[j].id) ∧ w.cell? ⟨b, off + j * 4 + 1, none⟩ = some (.int .i64 es[j].u) ∧
      w.cell? ⟨b, off + j * 4 + 2, none⟩ = some (.int .i64 es[j].v) ∧ w.cell? ⟨b, off + j * 4 + 3, none⟩ = some (.int .i64 es[j].w))

theorem RdE.below {w w' : World} {v : Value} {es : List Edg} (h : RdE w v es) (hb : Below w.heap.size w w') : RdE w' v es := by
  obtain ⟨a, cap, h1, h2, h3, h4⟩ := h
  refine ⟨a, cap, h1, h2, h3, fun h0 => ?_⟩
  obtain ⟨b, off, e, hlt, hc⟩ := h4 h0
  refine ⟨b, off, e, Nat.lt_of_lt_of_le hlt hb.size, fun j hj => ?_⟩
  obtain ⟨c1, c2, c3, c4⟩ := hc j hj
  exact ⟨(hb.cell (p := ⟨b, off + j * 4, none⟩) hlt).trans c1, (hb.cell (p := ⟨b, off + j * 4 + 1, none⟩) hlt).trans c2, (hb.cell (p := ⟨b, off + j * 4 + 2, none⟩) hlt).trans c3, (hb.cell (p := ⟨b, off + j * 4 + 3, none⟩) hlt).trans c4⟩

theorem RdE.nil (w : World) : RdE w (.slice none 0 0) [] := ⟨none, 0, rfl, by simp, by simp, by simp⟩

theorem RdE.get {w : World} {a : Option Addr} {n cap : Nat} {es : List Edg} (h : RdE w (.slice a n cap) es) {k : Nat} (hk : k < es.length) : n = es.length ∧ es[k].wf ∧ ∃ b off, a = some ⟨b, off, none⟩ ∧ b < w.heap.size ∧
    w.cell? ⟨b, off + k * 4, none⟩ = some (.int .i64 es[k].id) ∧ w.cell? ⟨b, off + k * 4 + 1, none⟩ = some (.int .i64 es[k].u) ∧
    w.cell? ⟨b, off + k * 4 + 2, none⟩ = some (.int .i64 es[k].v) ∧ w.cell? ⟨b, off + k * 4 + 3, none⟩ = some (.int .i64 es[k].w) := by
  obtain ⟨a', cap', e, hwf, _, hc⟩ := h
  simp only [Value.slice.injEq] at e
  obtain ⟨rfl, rfl, rfl⟩ := e
  obtain ⟨b, off, rfl, hb, hcc⟩ := hc (by omega)
  exact ⟨rfl, hwf _ (List.getElem_mem hk), b, off, rfl, hb, hcc k hk⟩

theorem RdI.get {w : World} {a : Option Addr} {n cap : Nat} {es : List Int} (h : RdI w (.slice a n cap) es) {k : Nat} (hk : k < es.length) : n = es.length ∧ wf64 es[k] ∧ ∃ b off, a = some ⟨b, off, none⟩ ∧ b < w.heap.size ∧
    w.cell? ⟨b, off + k, none⟩ = some (.int .i64 es[k]) := by
  obtain ⟨a', cap', e, hwf, _, hc⟩ := h
  simp only [Value.slice.injEq] at e
  obtain ⟨rfl, rfl, rfl⟩ := e
  obtain ⟨b, off, rfl, hb, hcc⟩ := hc (by omega)
  exact ⟨rfl, hwf _ (List.getElem_mem hk), b, off, rfl, hb, hcc k hk⟩

/-- The value of a net: two slices. -/
structure NetAt (w : World) (n : Value) (V : List Int) (E : List Edg) : Prop where
  intro ::
  ex : ∃ vs es, n = .agg #[vs, es] ∧ RdI w vs V ∧ RdE w es E

theorem NetAt.below {w w' : World} {n : Value} {V : List Int} {E : List Edg} (h : NetAt w n V E) (hb : Below w.heap.size w w') : NetAt w' n V E := by
  obtain ⟨vs, es, h1, h2, h3⟩ := h.ex
  exact ⟨⟨vs, es, h1, h2.below hb, h3.below hb⟩⟩

theorem bcell {B : Nat} {W w1 : World} (hb : Below B W w1) : (∀ b o, b < B → w1.cell? ⟨b, o, none⟩ = W.cell? ⟨b, o, none⟩) := fun b o h => hb.cell (p := ⟨b, o, none⟩) h

/-- ids: from 1 to the greatest -/
def okId (k : Int) : Prop := 1 ≤ k ∧ k ≤ 2147483647
theorem okId.wf {k : Int} (h : okId k) : wf64 k := by unfold wf64; obtain ⟨h1, h2⟩ := h; omega
instance (k : Int) : Decidable (okId k) := by unfold okId; infer_instance
/-- ids that rise -/
def Rises (zs : List Int) : Prop := (∀ x ∈ zs, okId x) ∧ zs.Pairwise (· < ·)
instance (zs : List Int) : Decidable (Rises zs) := by unfold Rises; infer_instance

theorem rises_take_succ {zs : List Int} {k : Nat} (hk : k < zs.length) (h : Rises (zs.take k)) :
    Rises (zs.take (k + 1)) ↔ okId zs[k] ∧ (0 < k → ∀ y, zs[k - 1]? = some y → y < zs[k]) := by
  have e : zs.take (k + 1) = zs.take k ++ [zs[k]] := by rw [List.take_succ_eq_append_getElem hk]
  constructor
  · rintro ⟨h1, h2⟩
    rw [e] at h1 h2
    refine ⟨h1 zs[k] (List.mem_append_right _ (List.mem_singleton.2 rfl)), fun h0 y hy => ?_⟩
    rw [List.pairwise_append] at h2
    refine h2.2.2 _ ?_ _ (List.mem_singleton.2 rfl)
    rw [List.mem_take_iff_getElem]
    obtain ⟨h3, rfl⟩ := List.getElem?_eq_some_iff.1 hy
    exact ⟨k - 1, by omega, rfl⟩
  · rintro ⟨h1, h2⟩
    rw [e]
    refine ⟨fun x hx => ?_, ?_⟩
    · rcases List.mem_append.1 hx with hx | hx
      · exact h.1 x hx
      · rw [List.mem_singleton.1 hx]; exact h1
    · rw [List.pairwise_append]
      refine ⟨h.2, List.pairwise_singleton _ _, fun x hx y hy => ?_⟩
      rw [List.mem_singleton.1 hy]
      rw [List.mem_take_iff_getElem] at hx
      obtain ⟨i, hi, rfl⟩ := hx
      have hi' : i < k := by omega
      have hlast := h2 (by omega) (zs[k - 1]'(by omega)) (List.getElem?_eq_getElem _)
      by_cases hik : i = k - 1
      · subst hik; exact hlast
      · have hp := h.2
        rw [List.pairwise_iff_getElem] at hp
        have := hp i (k - 1) (by simp; omega) (by simp; omega) (by omega)
        simp only [List.getElem_take] at this
        omega

theorem rises_of_take {zs : List Int} {k : Nat} (h : Rises zs) : Rises (zs.take k) :=
  ⟨fun x hx => h.1 x (List.mem_of_mem_take hx), h.2.sublist (List.take_sublist _ _)⟩

/-- an edge whose weight and ends are right -/
def okE (V : List Int) (e : Edg) : Prop := 0 ≤ e.w ∧ e.w ≤ 1099511627776 ∧ e.u ∈ V ∧ e.v ∈ V
instance (V : List Int) (e : Edg) : Decidable (okE V e) := by unfold okE; infer_instance
/-- a right net -/
def Right (V : List Int) (E : List Edg) : Prop := V.length ≤ 2048 ∧ E.length ≤ 2048 ∧ Rises V ∧ (∀ e ∈ E, okE V e) ∧ Rises (E.map Edg.id)
instance (V : List Int) (E : List Edg) : Decidable (Right V E) := by unfold Right; infer_instance

def checkN (V : List Int) (E : List Edg) : Int := if Right V E then 0 else 60
theorem checkN_ok {V : List Int} {E : List Edg} (h : Right V E) : checkN V E = 0 := if_pos h
theorem checkN_no {V : List Int} {E : List Edg} (h : ¬ Right V E) : checkN V E = 60 := if_neg h

theorem Rises.le {zs : List Int} (h : Rises zs) : zs.Pairwise (· ≤ ·) := h.2.imp (fun h => Int.le_of_lt h)

/-- An owned row of numbers reads as they are. -/
theorem rdI_of_owns {w : World} {base g n cap : Nat} {zs : List Int} (h : w.ownsRow base 3 1 (.slice (some ⟨g, 0, none⟩) n cap) n (zs.map (Value.int .i64))) (hwf : ∀ x ∈ zs, wf64 x) (hlen : n * 8 ≤ 140737488351232) : RdI w (.slice (some ⟨g, 0, none⟩) n cap) zs := by
  have hl : zs.length = n := by have := h.1; simpa using this
  subst hl
  refine ⟨_, cap, rfl, hwf, hlen, fun _ => ⟨g, 0, rfl, (h.lt g rfl).2, fun j hj => ?_⟩⟩
  rw [Nat.zero_add, h.cellAt j (by omega)]
  simp [hj]

end Go.Proofs.YthidhdffiebbgaaGreatDoor.Sk
