/- Rows of edges for the sort's words; slices.SortedFunc at edges. -/
import Derived.Test.YthidhdffiebbgaaGreatDoorOrder
import Derived.Test.YthidhdffiebbgaaGreatDoorPlG
import Derived.Test.YthidhdffiebbgaaGreatDoorPlH
import Derived.Test.YthidhdffiebbgaaGreatDoorSkC
namespace Go.Proofs.YthidhdffiebbgaaGreatDoor
open Go.RowKit Go.Proofs.YthidhdffiebbgaaGreatDoor.Sk Go.Shelf
open Go.Sort hiding Below

instance : Inhabited Edg := ⟨⟨0, 0, 0, 0⟩⟩

theorem less_lays (blk off size : Nat) (w : World) : CmpLays Tryz.prog 54 #[] encE 4 lessI blk off size w :=
  fun _ _ _ _ x y => less_any x y _

theorem lt_less (x y : Edg) : ltOf lessI x y = decide (x.w < y.w ∨ x.w = y.w ∧ x.id < y.id) := by
  unfold ltOf lessI orI cmpI
  rw [Bool.eq_iff_iff]
  simp only [decide_eq_true_eq]
  split <;> split <;> (try split) <;> (try split) <;> omega

theorem less_swo : SWO (ltOf lessI) where
  irrefl x := by rw [lt_less]; simp
  trans x y z h1 h2 := by rw [lt_less] at *; simp at *; omega
  ntrans x y z h1 h2 := by rw [lt_less] at *; simp at *; omega

theorem encE_len (e : Edg) : (encE e).length = 4 := rfl

theorem flat_get : ∀ (E : List Edg) (t : Nat), t < E.length * 4 → (E.flatMap encE)[t]? = some ((encE E[t / 4]!)[t % 4]!)
  | [], t, h => by simp at h
  | e :: E, t, h => by
    rw [List.flatMap_cons]
    by_cases ht : t < 4
    · rw [List.getElem?_append_left (by simpa [encE] using ht)]
      have : t / 4 = 0 := by omega
      have h2 : t % 4 = t := by omega
      rw [this, h2]
      simp only [List.getElem!_cons_zero]
      rw [getElem!_pos _ _ (by simpa [encE] using ht), List.getElem?_eq_getElem]
    · rw [List.getElem?_append_right (by simp [encE]; omega), encE_len]
      have := flat_get E (t - 4) (by simp at h; omega)
      rw [this]
      have h1 : t / 4 = (t - 4) / 4 + 1 := by omega
      have h2 : t % 4 = (t - 4) % 4 := by omega
      rw [h1, h2]
      simp

theorem flatK_eq (E : List Edg) (t : Nat) (h : t < E.length * 4) : (flatK encE 4 E.toArray)[t]! = (encE E[t / 4]!)[t % 4]! := by
  rw [get_flatK _ _ _ _ (by simpa using h)]
  rw [show E.toArray[t / 4]! = E[t / 4]! by simp]

theorem holdsK_of_owns {w : World} {base g cap : Nat} {E : List Edg} (h : w.ownsRow base 47 4 (.slice (some ⟨g, 0, none⟩) E.length cap) E.length (E.flatMap encE)) : HoldsK encE 4 w g 0 E.toArray := by
  intro t ht
  have ht' : t < E.length * 4 := by simpa using ht
  rcases h.2 with ⟨e0, _⟩ | ⟨g', cap', cur, e0, hb, hg, hn, hm, hs, hta⟩
  · cases e0
  · injection e0 with e1 _ e3
    injection e1 with e1
    injection e1 with e1 _ _
    subst e1
    refine ⟨?_, by simp [World.frozen?, hg]⟩
    have e1 : (cur.toList.take (E.length * 4))[t]? = (E.flatMap encE)[t]? := by rw [hta]
    rw [List.getElem?_take, if_pos ht', Array.getElem?_toList, flat_get E t ht'] at e1
    simp only [World.cell?, hg, Nat.zero_add]
    simp only [Option.isSome_none, Bool.false_eq_true, if_false]
    rw [e1, id, flatK_eq E t ht']

theorem rdE_of_holds {w : World} {g cap : Nat} {E : List Edg} (h : HoldsK encE 4 w g 0 E.toArray) (hg : g < w.heap.size) (hwf : ∀ e ∈ E, e.wf) (hlen : E.length * 32 ≤ 140737488351232) : RdE w (.slice (some ⟨g, 0, none⟩) E.length cap) E := by
  refine ⟨_, cap, rfl, hwf, hlen, fun _ => ⟨g, 0, rfl, hg, fun j hj => ?_⟩⟩
  have key : ∀ i, i < 4 → w.cell? ⟨g, 0 + j * 4 + i, none⟩ = some ((encE E[j])[i]!) := fun i hi => by
    have := (h (j * 4 + i) (by simp; omega)).1
    rw [← Nat.add_assoc] at this
    rw [this, id, flatK_eq E _ (by omega)]
    have h1 : (j * 4 + i) / 4 = j := by omega
    have h2 : (j * 4 + i) % 4 = i := by omega
    rw [h1, h2, getElem!_pos E j hj]
  exact ⟨key 0 (by omega), key 1 (by omega), key 2 (by omega), key 3 (by omega)⟩

theorem rdE_of_owns {w : World} {base : Nat} {v : Value} {E : List Edg} (h : w.ownsRow base 47 4 v E.length (E.flatMap encE)) (hwf : ∀ e ∈ E, e.wf) (hlen : E.length * 32 ≤ 140737488351232) : RdE w v E := by
  rcases Nat.eq_zero_or_pos E.length with h0 | h0
  · have : E = [] := List.length_eq_zero_iff.1 h0
    subst this
    obtain ⟨a, cap, rfl, _⟩ := owns_form h
    exact ⟨a, cap, rfl, by simp, by simp, by simp⟩
  · obtain ⟨a, cap, rfl, hh⟩ := owns_form h
    obtain ⟨gb, rfl⟩ := hh h0
    exact rdE_of_holds (holdsK_of_owns h) (h.lt gb rfl).2 hwf hlen

theorem below_sortK {B : Nat} {w0 w : World} {g q : Nat} {d : Array Edg} {os : Array Obj} (h : Below B w0 w) (hg : B ≤ g) (hB : B ≤ w.heap.size) : Below B w0 (sortWorldK encE 4 w g 0 q d os) := by
  refine ⟨h.os, h.tape, h.output, ?_, fun k hk => ?_⟩
  · have := size_sortWorldK_c (w := w) (enc := encE) (k := 4) (blk := g) (off := 0) q d os
    exact Nat.le_trans h.size this
  · rw [← h.block k hk]
    unfold sortWorldK
    rw [heap_grow_old _ _ (by simp [putRowK]; omega)]
    simp [putRowK, putRow, Sort.mapBlock, Sort.ahead, Array.getElem?_modify, show g ≠ k by omega]

/-- edges in order -/
def InOrder (S : List Edg) : Prop := S.Pairwise fun x y => x.w < y.w ∨ x.w = y.w ∧ x.id ≤ y.id

theorem inOrder_of {d d' : Array Edg} (h : Sort.SortedIn (ltOf lessI) 0 d.size d') (hs : d'.size = d.size) : InOrder d'.toList := by
  unfold InOrder
  rw [List.pairwise_iff_getElem]
  intro i j hi hj hij
  have hi' : i < d'.size := by simpa using hi
  have hj' : j < d'.size := by simpa using hj
  have := h i j (Nat.zero_le _) hij (by omega)
  rw [lt_less, getElem!_pos d' j hj', getElem!_pos d' i hi'] at this
  simp only [decide_eq_false_iff_not] at this
  simp only [Array.getElem_toList]
  omega

theorem perm_of {d d' : Array Edg} (h : Sort.PermIn 0 d.size d d') : d'.toList.Perm d.toList := by
  have := h.2.2
  rw [Array.extract_size] at this
  rw [← h.1, Array.extract_size] at this
  exact this

set_option maxRecDepth 100000 in
set_option maxHeartbeats 1000000 in
theorem sortedFunc_any (Bs : Nat) (sv : Value) (E : List Edg) (w w₀ : World) (hI : RdE w₀ sv E) (hb : Below w₀.heap.size w₀ w) (hBs : Bs < w.heap.size) (hc : w.cell? ⟨Bs, 0, none⟩ = some sv) :
    Calls Tryz.prog 76 #[.func (.func 102) #[] #[.pointer (some ⟨Bs, 0, none⟩)], .func (.func 54) #[] #[]] w fun e W' => ∃ v S, e = .returned v ∧ RdE W' v S ∧ S.Perm E ∧ InOrder S ∧ Below w.heap.size w W' := by
  have hcol := collect_any Bs sv E w w₀ hI hb hBs hc
  have hE : Aside ((∀ e ∈ E, e.wf) ∧ E.length * 32 ≤ 140737488351232) := by
    obtain ⟨_, _, _, h1, h2, _⟩ := hI
    exact ⟨h1, h2⟩
  clear hI hb hBs hc
  go_enter Tryz.func76, Tryz.ntmps76
  go_wp2_with (go_at_call 100; refine hcol.mono ?_; rintro _ w1 ⟨v, rfl, h1, h2, h3⟩)
  clear hcol
  rcases Nat.eq_zero_or_pos E.length with h0 | h0
  · obtain rfl : E = [] := List.length_eq_zero_iff.1 h0
    obtain rfl := h2.2 rfl
    have B : Aside (Below w.heap.size w w1) := h3
    clear h1 h2 h3 h0
    go_wp2_with (go_at_call 101; refine (Tryz.slices_SortFunc_edges_none _ _ _ _).mono ?_; rintro _ _ ⟨rfl, rfl⟩)
    go_ret
    exact ⟨_, [], rfl, RdE.nil _, .rfl, List.Pairwise.nil, B.out⟩
  · obtain ⟨a, cap, rfl, hh⟩ := owns_form h1
    obtain ⟨gb, rfl⟩ := hh h0
    have hlt := h1.lt gb rfl
    have hK := holdsK_of_owns h1
    have eg : ∀ args w, (callFunc 54 args).run Tryz.prog w = .ok (.enter 54 args) w := enters_of Tryz.func54 (by kernel_rfl) rfl
    have hsort := Tryz.slices_SortFunc_edges encE (fun _ => rfl) encE_one lessI less_swo 54 #[] gb 0 cap E.toArray w1 eg (less_lays _ _ _ _) hK hlt.2 (by have := hE.out.2; simp; omega)
    simp only [List.size_toArray] at hsort
    have B : Aside (Below w.heap.size w w1 ∧ (w.heap.size ≤ gb ∧ gb < w1.heap.size) ∧ HoldsK encE 4 w1 gb 0 E.toArray) := ⟨h3, hlt, hK⟩
    clear h1 h2 h3 h0 hh hK eg hlt
    go_wp2_with (go_at_call 101; refine hsort.mono ?_; rintro _ w2 ⟨rfl, d', q, os, hp, hs, hw⟩)
    clear hsort
    have C : Aside (Sort.PermIn 0 E.toArray.size E.toArray d' ∧ Sort.SortedIn (ltOf lessI) 0 E.toArray.size d' ∧ w2 = sortWorldK encE 4 w1 gb 0 q d' os) := ⟨by simpa using hp, by simpa using hs, hw⟩
    clear hp hs hw
    go_wp2
    go_ret
    obtain ⟨hb, hlt, hK⟩ := B.out
    obtain ⟨hp, hs, rfl⟩ := C.out
    obtain ⟨hwf, hlen⟩ := hE.out
    have hperm : d'.toList.Perm E := by simpa using perm_of hp
    have hl : d'.toList.length = E.length := hperm.length_eq
    refine ⟨_, d'.toList, rfl, ?_, hperm, inOrder_of hs hp.1, below_sortK hb hlt.1 hb.size⟩
    rw [← hl]
    refine rdE_of_holds ?_ (Nat.lt_of_lt_of_le hlt.2 (size_sortWorldK_c _ _ _ _ _ _ _ _)) (fun e he => hwf e (hperm.mem_iff.1 he)) (by omega)
    have := holdsK_sortWorldK_c (w := w1) (enc := encE) (k := 4) (blk := gb) (off := 0) E.toArray d' q os hK hlt.2 hp.1
    simpa using this

end Go.Proofs.YthidhdffiebbgaaGreatDoor
