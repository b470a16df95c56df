/- Own layer: append of one number, of one edge, in straight code; a store into an own row; worlds that grow.
   The walks of the reference's place, ask and Sets.
   The walks of the reference's Joined and Trees.
   The walks of the reference's sorted and Taken.
   The walk of the reference's Taken: the forest.
   The walk of the reference's With.
   The walks of the reference's Forest, Weight, Sum, other and CopyInts. -/
import Derived.Test.YthidhdffiebbgaaGreatDoorPlM
import Derived.Test.YthidhdffiebbgaaGreatDoorNtMa
import Derived.Test.YthidhdffiebbgaaGreatDoorPfB
namespace Go.Proofs.YthidhdffiebbgaaGreatDoor
open Go.RowKit Go.Proofs.YthidhdffiebbgaaGreatDoor.Sk

/-- what one more number leaves -/
def AppI (base : Nat) (W : World) (v : Value) (zs : List Int) (z : Int) (v' : Value) (w' : World) : Prop :=
  ∃ g cap, v' = .slice (some ⟨g, 0, none⟩) (zs.length + 1) cap ∧ w'.ownsRow base 3 1 v' (zs.length + 1) ((zs ++ [z]).map (Value.int .i64)) ∧ W.grownBy w' v.ownBlock ∧ (v'.ownBlock = v.ownBlock ∨ v'.ownBlock = some W.heap.size)

theorem wpList_app_int {ops : Array Oper} {rest : List Oper} {o : Oper} {a : Act} {Q : Exit → Act → World → Prop} {W : World} (hgd : o.guard = none) (s x : Operand)
    (ho : o.op = .call { callee := .builtin .append, args := #[s, x], argTypes := #[22, 22] }) (base : Nat) (v : Value) (zs : List Int) (z : Int) (g : Nat) (n c : Nat) (hs : a.eval s = v)
    (hO : W.ownsRow base 3 1 v zs.length (zs.map (Value.int .i64))) (hx : a.eval x = .slice (some ⟨g, 0, none⟩) n c) (hn : n = 1) (hg : W.heap[g]? = some (.cells #[.int .i64 z] 3 (0, 0))) (hl : zs.length ≤ 1000000) (hb : base ≤ W.heap.size)
    (h : ∀ v' w', AppI base W v zs z v' w' → wpList Tryz.prog ops Q rest (a.put o.dst v') w') : wpList Tryz.prog ops Q (o :: rest) a W := by
  subst hn
  obtain ⟨i0, hi, hz0, hz1, hz2⟩ := info_parts info3
  refine wpList_append_own_at W hgd s x 22 ho base 3 i0 (.int .i64 0) 1 8 Tryz.underlying22 hi hz0 hz1 hz2 rfl (by decide) v zs.length _ hs hO ⟨g, 0, none⟩ 1 c [.int .i64 z] hx rfl
    (fun j u hj => ?_) (ints_oneCell .i64 [z]) (by unfold maxLen; omega) (by omega) hb (fun v' w' hown hgr _ hloc => ?_)
  · have := World.news_of_block (cs := #[.int .i64 z]) hg j u hj
    exact this
  · obtain ⟨g', cap', rfl⟩ := owns_succ hown
    exact h _ _ ⟨g', cap', rfl, by rw [List.map_append]; exact hown, hgr, hloc⟩

/-- what one more edge leaves -/
def AppE (base : Nat) (W : World) (v : Value) (es : List Edg) (e : Edg) (v' : Value) (w' : World) : Prop :=
  ∃ g cap, v' = .slice (some ⟨g, 0, none⟩) (es.length + 1) cap ∧ w'.ownsRow base 47 4 v' (es.length + 1) ((es ++ [e]).flatMap encE) ∧ W.grownBy w' v.ownBlock ∧ (v'.ownBlock = v.ownBlock ∨ v'.ownBlock = some W.heap.size)

theorem wpList_app_edge {ops : Array Oper} {rest : List Oper} {o : Oper} {a : Act} {Q : Exit → Act → World → Prop} {W : World} (hgd : o.guard = none) (s x : Operand)
    (ho : o.op = .call { callee := .builtin .append, args := #[s, x], argTypes := #[23, 23] }) (base : Nat) (v : Value) (es : List Edg) (e : Edg) (g : Nat) (n c : Nat) (hs : a.eval s = v)
    (hO : W.ownsRow base 47 4 v es.length (es.flatMap encE)) (hx : a.eval x = .slice (some ⟨g, 0, none⟩) n c) (hn : n = 1) (hg : BoxE W g e) (hl : es.length ≤ 1000000) (hb : base ≤ W.heap.size)
    (h : ∀ v' w', AppE base W v es e v' w' → wpList Tryz.prog ops Q rest (a.put o.dst v') w') : wpList Tryz.prog ops Q (o :: rest) a W := by
  subst hn
  obtain ⟨i0, hi, hz0, hz1, hz2⟩ := info_parts info47
  refine wpList_append_own_at W hgd s x 23 ho base 47 i0 _ 4 32 Tryz.underlying23 hi hz0 hz1 hz2 rfl (by decide) v es.length _ hs hO ⟨g, 0, none⟩ 1 c (encE e) hx rfl
    (fun j u hj => ?_) (encE_one e) (by unfold maxLen; omega) (by omega) hb (fun v' w' hown hgr _ hloc => ?_)
  · have := World.news_of_block hg j u hj
    exact this
  · obtain ⟨g', cap', rfl⟩ := owns_succ hown
    exact h _ _ ⟨g', cap', rfl, by rw [List.flatMap_append, show List.flatMap encE [e] = encE e from (by simp)]; exact hown, hgr, hloc⟩

theorem gr_below {B : Nat} {w W w' : World} {row : Option Nat} (h : Below B w W) (hg : W.grownBy w' row) (hB : B ≤ w.heap.size) (hr : ∀ b, row = some b → B ≤ b) : Below B w w' := h.grown hg (Nat.le_trans hB h.size) hr
theorem owns_ge {w : World} {base : Nat} {e : TypeId} {size n : Nat} {v : Value} {xs : List Value} (h : w.ownsRow base e size v n xs) : ∀ b, v.ownBlock = some b → base ≤ b := fun b hb => (h.lt b hb).1
theorem owns_belowW {w w' : World} {base : Nat} {e : TypeId} {size n : Nat} {v : Value} {xs : List Value} (h : w.ownsRow base e size v n xs) (hb : Below w.heap.size w w') : w'.ownsRow base e size v n xs :=
  h.kept (row := none) ⟨hb.os, hb.tape, hb.output, hb.size, fun j hj _ => hb.block j hj⟩ (by cases v.ownBlock <;> simp)
theorem set_grown (w : World) (b i : Nat) (v : Value) : w.grownBy (w.setCell ⟨b, i, none⟩ v) (some b) :=
  ⟨rfl, rfl, rfl, by simp [World.setCell], fun k _ hk => Below.heap_setCell _ _ _ _ (fun e => hk (by simp [e]))⟩
theorem bel_drew {B : Nat} {w W : World} (h : Below B w W) : Below B w W.drew := ⟨h.os, h.tape, h.output, h.size, fun j hj => h.block j hj⟩
theorem bel_drewN {B : Nat} {w W : World} (h : Below B w W) (q : Nat) : Below B w (W.drewN q) := ⟨h.os, h.tape, h.output, h.size, fun j hj => h.block j hj⟩
theorem bel_alloc {B : Nat} {w W : World} (h : Below B w W) (hB : B ≤ w.heap.size) (o : Obj) : Below B w (W.alloc o) := h.alloc (Nat.le_trans hB h.size) _

theorem q_same' {f : Nat} {args : Array Value} {W : World} {v : Value} {Q : World → Prop} (h : Calls Tryz.prog f args W fun e w' => e = .returned v ∧ W = w') (hq : Q W) : Calls Tryz.prog f args W fun e w' => e = .returned v ∧ Q w' :=
  h.mono fun _ _ ⟨h1, h2⟩ => ⟨h1, h2 ▸ hq⟩

end Go.Proofs.YthidhdffiebbgaaGreatDoor

namespace Go.Proofs.YthidhdffiebbgaaGreatDoor
open Go.BigFrame Go.RowKit Go.Proofs.YthidhdffiebbgaaGreatDoor.Sk

set_option maxHeartbeats 1000000 in
theorem place_at (v : Value) (V : List Int) (x : Int) (i : Nat) (w : World) (hI : RdI w v V) (hi : V[i]? = some x) (hno : ∀ j, j < i → V[j]? ≠ some x) :
    Calls Tryz.prog 45 #[v, .int .i64 x] w fun e w' => e = .returned (.int .i64 i) ∧ w = w' := by
  obtain ⟨a, cap, rfl, -, hlen, -⟩ := id hI
  have A : Aside (RdI w (.slice a V.length cap) V ∧ V[i]? = some x ∧ ∀ j, j < i → V[j]? ≠ some x) := ⟨hI, hi, hno⟩
  have hil : i < V.length := (List.getElem?_eq_some_iff.1 hi).1
  clear hI hi hno
  go_enter Tryz.func45, Tryz.ntmps45
  go_wp2_with fail
  go_loopg [5] i (fun g c wr => ∃ k : Nat, k + g = i ∧ c = .int .i64 k ∧ wr = w)
  case atStart => exact ⟨0, by omega, rfl, rfl⟩
  case round =>
    obtain ⟨k, hk, rfl, rfl⟩ := hrel
    have hlt : k < V.length := by omega
    obtain ⟨-, -, b, off, rfl, -, g0⟩ := A.out.1.get hlt
    obtain ⟨y, hy⟩ : ∃ y, V[k] = y := ⟨_, rfl⟩
    rw [hy] at g0
    have hyk : V[k]? = some y := by rw [List.getElem?_eq_getElem hlt, hy]
    by_cases he : k = i
    · subst he
      have hyx : (y == x) = true := by
        have := A.out.2.1
        rw [hyk] at this
        simpa using this
      clear hy hyk
      go_wp2_with fail
      go_ret
      exact ⟨rfl, rfl⟩
    · have hyx : (y == x) = false := by
        have := A.out.2.2 k (by omega)
        rw [hyk] at this
        simpa using this
      have hki : k < i := by omega
      clear hy hyk he
      go_wp2_with fail
      go_roundg (gk - 1)
      case rel => exact ⟨k + 1, by omega, by go_num, rfl⟩
      case measure => omega

/-- a vertex's place -/
theorem place_of {V : List Int} (hV : V.Nodup) {x : Int} (hx : x ∈ V) : ∃ i, i < V.length ∧ V[i]? = some x ∧ ∀ j, j < i → V[j]? ≠ some x := by
  obtain ⟨i, hi, hix⟩ := List.getElem_of_mem hx
  refine ⟨i, hi, by rw [List.getElem?_eq_getElem hi, hix], fun j hj h => ?_⟩
  obtain ⟨hj2, hjx⟩ := List.getElem?_eq_some_iff.1 h
  rw [List.Nodup, List.pairwise_iff_getElem] at hV
  exact hV j i hj2 hi hj (hjx.trans hix.symm)

theorem right_nodup {V : List Int} {E : List Edg} (hR : Right V E) : V.Nodup := hR.2.2.1.2.imp fun {a b} h (k : a = b) => by omega

set_option maxRecDepth 100000 in
set_option maxHeartbeats 1000000 in
theorem rask_any (n q : Value) (V : List Int) (E : List Edg) (qs : List Int) (w : World) (hn : NetAt w n V E) (hq : RdI w q qs) :
    Calls Tryz.prog 43 #[n, q] w fun e w' => e = .returned (.int .i64 (checkA V E qs)) ∧ Below w.heap.size w w' := by
  obtain ⟨vs, es, rfl, hV, hE⟩ := hn.ex
  obtain ⟨va, vcap, rfl, -, -, -⟩ := id hV
  obtain ⟨qa, qcap, rfl, -, hq8, -⟩ := id hq
  have hb0 : Below w.heap.size w (w.alloc (.cells #[.slice va V.length vcap, es] 25)) := (Below.refl _ _).alloc (Nat.le_refl _) _
  have hck := rcheck_any _ V E _ (hn.below hb0)
  have A : Aside (Below w.heap.size w (w.alloc (.cells #[.slice va V.length vcap, es] 25)) ∧ RdI w (.slice va V.length vcap) V ∧ RdI w (.slice qa qs.length qcap) qs) := ⟨hb0, hV, hq⟩
  clear hn hV hE hq hb0
  go_enter Tryz.func43, Tryz.ntmps43
  go_wp2_with fail
  refine hck.mono ?_
  rintro _ w1 ⟨rfl, hb1⟩
  have n0 : w1.cell? ⟨w.heap.size, 0, none⟩ = some (.slice va V.length vcap) := by rw [bcell hb1 _ _ (by simp), World.cell?_alloc_at _ _ _ _ rfl]; rfl
  have B := aside' (A.out.1.trans (hb1.mono (by simp)))
  clear hb1 hck
  by_cases hR : Right V E
  · rw [checkN_ok hR]
    have R := aside' hR
    clear hR
    go_wp2_with fail
    go_loopg [6] qs.length (fun g i wr => ∃ (k q : Nat), k + g = qs.length ∧ i = .int .i64 k ∧ (∀ y ∈ qs.take k, y ∈ V) ∧ wr = w1.drewN q)
    case atStart => exact ⟨0, 0, by omega, rfl, by simp, rfl⟩
    case round =>
      obtain ⟨k, q, hk, rfl, hall, rfl⟩ := hrel
      by_cases hlt : k < qs.length
      · obtain ⟨-, -, b, off, hqa, -, g0⟩ := (A.out.2.2.below B.out).get hlt
        subst hqa
        obtain ⟨y, hy⟩ : ∃ y, qs[k] = y := ⟨_, rfl⟩
        rw [hy] at g0
        have hsn : qs.take (k + 1) = qs.take k ++ [y] := by rw [List.take_succ_eq_append_getElem hlt, hy]
        have HAS : Aside (∀ W, Below w1.heap.size w1 W → ∀ b, decide (y ∈ V) = b → Calls Tryz.prog 30 #[.slice va V.length vcap, .int .i64 y] W fun e w' => e = .returned (.bool b) ∧ W = w') := fun W hW b hb => by
          have := has_ref (.slice va V.length vcap) V y W ((A.out.2.1.below B.out).below hW)
          rw [hb] at this
          exact this
        by_cases hyV : y ∈ V
        · have hd : decide (y ∈ V) = true := by simp [hyV]
          have K := aside' (show ∀ z ∈ qs.take (k + 1), z ∈ V from fun z hz => by
            rw [hsn, List.mem_append, List.mem_singleton] at hz
            rcases hz with hz | rfl
            · exact hall z hz
            · exact hyV)
          clear hall hsn hy hyV
          go_wp2_with fail
          go_big_quiet ((go_at_call 30; exact q_same' (HAS.out _ (bel_drewN (Below.refl _ _) _) true hd) ⟨_, rfl⟩))
          go_wp2_with fail
          go_roundg (gk - 1)
          case rel => exact ⟨k + 1, _, by omega, by go_num, K.out, rfl⟩
          case measure => omega
        · have hd : decide (y ∈ V) = false := by simp [hyV]
          have K := aside' (show checkA V E qs = 51 from checkA_out R.out fun h => hyV (h y (hy ▸ List.getElem_mem hlt)))
          clear hall hsn hy hyV
          go_wp2_with fail
          go_big_quiet ((go_at_call 30; exact q_same' (HAS.out _ (bel_drewN (Below.refl _ _) _) false hd) ⟨_, rfl⟩))
          go_wp2_with fail
          go_ret
          exact ⟨by rw [K.out]; rfl, bel_drewN (bel_drewN B.out _) _⟩
      · have K := aside' (show checkA V E qs = 0 from checkA_ok R.out (by rw [List.take_of_length_le (by omega)] at hall; exact hall))
        clear hall
        go_wp2_with fail
        go_ret
        exact ⟨by rw [K.out]; rfl, bel_drewN B.out _⟩
  · have K := aside' (show checkA V E qs = 60 from checkA_no hR)
    rw [checkN_no hR]
    clear hR
    go_wp2_with fail
    go_ret
    exact ⟨by rw [K.out]; rfl, B.out⟩

/-- a row of numbers, partly relabelled -/
def rowAt (S : List Int) (a b : Int) (j : Nat) : List Int := relab (S.take j) a b ++ S.drop j
theorem rowAt_zero (S : List Int) (a b : Int) : rowAt S a b 0 = S := by simp [rowAt, relab]
theorem rowAt_all (S : List Int) (a b : Int) : rowAt S a b S.length = relab S a b := by simp [rowAt]
theorem rowAt_len (S : List Int) (a b : Int) (j : Nat) : (rowAt S a b j).length = S.length := by simp [rowAt, relab]; omega
theorem rowAt_get {S : List Int} {a b : Int} {j : Nat} (hj : j < S.length) : (rowAt S a b j)[j]? = S[j]? := by
  unfold rowAt
  have h1 : (relab (S.take j) a b).length = j := by rw [relab_len, List.length_take]; omega
  rw [List.getElem?_append_right (by omega), h1, List.getElem?_drop]
  simp
theorem rowAt_set {S : List Int} {a b : Int} {j : Nat} (hj : j < S.length) (hb : S[j]? = some b) : (rowAt S a b j).set j a = rowAt S a b (j + 1) := by
  obtain ⟨_, hb'⟩ := List.getElem?_eq_some_iff.1 hb
  unfold rowAt
  have h1 : (relab (S.take j) a b).length = j := by rw [relab_len, List.length_take]; omega
  rw [List.set_append, if_neg (by omega), h1, Nat.sub_self, List.drop_eq_getElem_cons hj, List.set_cons_zero, List.take_succ_eq_append_getElem hj, hb']
  simp [relab]
theorem rowAt_skip {S : List Int} {a b y : Int} {j : Nat} (hj : j < S.length) (hy : S[j]? = some y) (hne : y ≠ b) : rowAt S a b j = rowAt S a b (j + 1) := by
  obtain ⟨_, hy'⟩ := List.getElem?_eq_some_iff.1 hy
  unfold rowAt
  rw [List.drop_eq_getElem_cons hj, List.take_succ_eq_append_getElem hj, hy']
  simp [relab, hne]

theorem empty_row (w : World) (e size : Nat) : (w.alloc (.cells #[] e)).ownsRow w.heap.size e size (.slice (some ⟨w.heap.size, 0, none⟩) 0 0) 0 [] := by
  have h := World.ownsRow_lit (base := w.heap.size) (e := e) (size := size) w #[] 0 (by simp) (by unfold maxLen; omega) (by simp)
  simpa using h

/-- what Sets leaves -/
def SetsPost (w : World) (V : List Int) (E : List Edg) (e : Ending) (w' : World) : Prop :=
  ∃ v S, e = .returned v ∧ Lab V E S ∧ Low S ∧ w'.ownsRow w.heap.size 3 1 v S.length (S.map (Value.int .i64)) ∧ Below w.heap.size w w'

theorem nums_wf {n : Nat} (hn : n ≤ 1000000) : ∀ x ∈ nums n, wf64 x := fun x hx => by
  simp only [nums, List.mem_map, List.mem_range] at hx
  obtain ⟨i, hi, rfl⟩ := hx
  unfold wf64
  simp
  omega

set_option maxRecDepth 100000 in
set_option maxHeartbeats 2000000 in
theorem sets_any (vs es : Value) (V : List Int) (E : List Edg) (w : World) (hV : RdI w vs V) (hE : RdE w es E) (hR : Right V E) :
    Calls Tryz.prog 44 #[vs, es] w (SetsPost w V E) := by
  obtain ⟨va, vcap, rfl, -, -, -⟩ := id hV
  obtain ⟨ea, ecap, rfl, -, he32, -⟩ := id hE
  have hVl : V.length ≤ 2048 := hR.1
  have A : Aside (RdI w (.slice va V.length vcap) V ∧ RdE w (.slice ea E.length ecap) E ∧ Right V E) := ⟨hV, hE, hR⟩
  clear hV hE hR
  go_enter Tryz.func44, Tryz.ntmps44
  go_wp2_with fail
  go_loopg [6, 5] V.length (fun g i o wr => ∃ k : Nat, k + g = V.length ∧ i = .int .i64 k ∧ wr.ownsRow w.heap.size 3 1 o k ((nums k).map (Value.int .i64)) ∧ Below w.heap.size w wr)
  case atStart => exact ⟨0, by omega, rfl, empty_row w 3 1, (Below.refl _ _).alloc (Nat.le_refl _) _⟩
  case round =>
    obtain ⟨k, hk, rfl, hO, hbel⟩ := hrel
    by_cases hlt : k < V.length
    · obtain ⟨oa, ocap, rfl, -⟩ := owns_form hO
      have K := aside' (And.intro hO hbel)
      have hO' := hO
      have hnl := nums_len k
      clear hO hbel
      go_wp2_with (at_builtin; refine wpList_app_int rfl (.tmp 19) (.tmp 21) rfl w.heap.size (.slice oa k ocap) (nums k) (k : Int) wr.heap.size 1 1 rfl (by rw [hnl]; exact hO'.alloc _) rfl rfl (World.alloc_heap_new _ _) (by rw [hnl]; omega) (by have := K.out.2.size; simp; omega) ?_; intro v' w3 happ; obtain ⟨g', cap', rfl, h1, h2, -⟩ := happ)
      rw [nums_len] at *
      go_roundg (gk - 1)
      case rel => exact ⟨k + 1, by omega, by go_num, by rw [nums_succ]; exact h1, gr_below (bel_alloc K.out.2 (Nat.le_refl _) _) h2 (Nat.le_refl _) (owns_ge K.out.1)⟩
      case measure => omega
    · have hkk : k = V.length := by omega
      subst hkk
      obtain ⟨oa, ocap, rfl, hob⟩ := owns_form hO
      have K := aside' (And.intro hO (And.intro hbel (And.intro (Lab.start (right_nodup A.out.2.2)) (Low.start V.length))))
      clear hO hbel
      go_wp2_with fail
      go_loopg [7] E.length (fun g i wx => ∃ (k : Nat) (S : List Int), k + g = E.length ∧ i = .int .i64 k ∧ S.length = V.length ∧ Lab V (E.take k) S ∧ Low S ∧ wx.ownsRow w.heap.size 3 1 (.slice oa V.length ocap) V.length (S.map (Value.int .i64)) ∧ Below w.heap.size w wx)
      case atStart => exact ⟨0, nums V.length, by omega, rfl, nums_len _, K.out.2.2.1, K.out.2.2.2, K.out.1, K.out.2.1⟩
      case round =>
        obtain ⟨k, S, hk, rfl, hSl, hLab, hLow, hO, hbel⟩ := hrel
        obtain ⟨gk_outer, hgko⟩ : ∃ q, q = gk := ⟨_, rfl⟩
        rw [← hgko] at hk
        by_cases hlt : k < E.length
        · obtain ⟨-, -, eb, eoff, hea, -, g0, g1, g2, g3⟩ := (A.out.2.1.below hbel).get hlt
          subst hea
          obtain ⟨e, he⟩ : ∃ e, E[k] = e := ⟨_, rfl⟩
          rw [he] at g0 g1 g2 g3
          have hok := A.out.2.2.2.2.2.1 e (he ▸ List.getElem_mem hlt)
          obtain ⟨iu, hiu, hiu1, hiu2⟩ := place_of (right_nodup A.out.2.2) hok.2.2.1
          obtain ⟨iv, hiv, hiv1, hiv2⟩ := place_of (right_nodup A.out.2.2) hok.2.2.2
          obtain ⟨ob, rfl⟩ := hob (by omega)
          obtain ⟨a, ha⟩ : ∃ a, S[iu]? = some a := ⟨_, List.getElem?_eq_getElem (by omega)⟩
          obtain ⟨b, hb⟩ : ∃ b, S[iv]? = some b := ⟨_, List.getElem?_eq_getElem (by omega)⟩
          have ca : wr.cell? ⟨ob, iu, none⟩ = some (.int .i64 a) := by rw [hO.cellAt iu (by omega), List.getElem?_map, ha]; rfl
          have cb : wr.cell? ⟨ob, iv, none⟩ = some (.int .i64 b) := by rw [hO.cellAt iv (by omega), List.getElem?_map, hb]; rfl
          have PU : Aside (∀ W, Below wr.heap.size wr W → Calls Tryz.prog 45 #[.slice va V.length vcap, .int .i64 e.u] W fun r w' => r = .returned (.int .i64 iu) ∧ W = w') := fun W hW => place_at _ V e.u iu W (A.out.1.below (hbel.trans (hW.mono hbel.size))) hiu1 hiu2
          have PV : Aside (∀ W, Below wr.heap.size wr W → Calls Tryz.prog 45 #[.slice va V.length vcap, .int .i64 e.v] W fun r w' => r = .returned (.int .i64 iv) ∧ W = w') := fun W hW => place_at _ V e.v iv W (A.out.1.below (hbel.trans (hW.mono hbel.size))) hiv1 hiv2
          have hsn : E.take (k + 1) = E.take k ++ [e] := by rw [List.take_succ_eq_append_getElem hlt, he]
          have J1 := aside' (And.intro hLab (And.intro hLow (And.intro hO (And.intro hbel (And.intro hsn (And.intro hiu1 (And.intro hiv1 (And.intro ha (And.intro hb (And.intro hk hSl))))))))))
          clear hLab hLow hO hbel hsn hiu1 hiv1 hiu2 hiv2 ha hb hok he hk hob hSl
          by_cases hab : a = b
          · subst hab
            have J2 := aside' (show Lab V (E.take k ++ [e]) S ∧ Low S from ⟨by have := J1.out.1.join (a := a) (b := a) J1.out.2.2.2.2.2.1 J1.out.2.2.2.2.2.2.1 (.inl ⟨J1.out.2.2.2.2.2.2.2.1, J1.out.2.2.2.2.2.2.2.2.1⟩); rw [relab_self] at this; exact this, J1.out.2.1⟩)
            go_wp2_with fail
            go_big_quiet (first
              | (go_at_call 45; with_reducible exact q_same' (PU.out _ (bel_drewN (Below.refl _ _) _)) ⟨_, rfl⟩)
              | (go_at_call 45; with_reducible exact q_same' (PV.out _ (bel_drewN (Below.refl _ _) _)) ⟨_, rfl⟩))
            clear ca cb g0 g1 g2 g3
            go_wp2_with fail
            go_loopg [11] 0 (fun g c wy => g = 0 ∧ c = .int .i64 0 ∧ ∃ q, wy = wr.drewN q)
            case atStart => exact ⟨rfl, rfl, _, rfl⟩
            case round =>
              obtain ⟨rfl, rfl, q, rfl⟩ := hrel
              go_wp2_with fail
              go_roundg (gk_outer - 1)
              case rel => exact ⟨k + 1, S, by have := J1.out.2.2.2.2.2.2.2.2.2.1; omega, by go_num, J1.out.2.2.2.2.2.2.2.2.2.2, by rw [J1.out.2.2.2.2.1]; exact J2.out.1, J2.out.2, owns_belowW J1.out.2.2.1 (bel_drewN (Below.refl _ _) _), bel_drewN J1.out.2.2.2.1 _⟩
              case measure => have := J1.out.2.2.2.2.2.2.2.2.2.1; omega
          · by_cases hba : b < a
            · have hne : (b == a) = false := by simp; omega
              have hne2 : (b != a) = true := by simp; omega
              have J2 := aside' (show Lab V (E.take k ++ [e]) (relab S b a) ∧ Low (relab S b a) from ⟨J1.out.1.join J1.out.2.2.2.2.2.1 J1.out.2.2.2.2.2.2.1 (.inr ⟨J1.out.2.2.2.2.2.2.2.1, J1.out.2.2.2.2.2.2.2.2.1⟩), J1.out.2.1.join J1.out.2.2.2.2.2.2.2.2.1 J1.out.2.2.2.2.2.2.2.1 (by omega)⟩)
              clear hab
              go_wp2_with fail
              go_big_quiet (first
                | (go_at_call 45; with_reducible exact q_same' (PU.out _ (bel_drewN (Below.refl _ _) _)) ⟨_, rfl⟩)
                | (go_at_call 45; with_reducible exact q_same' (PV.out _ (bel_drewN (Below.refl _ _) _)) ⟨_, rfl⟩))
              clear ca cb g0 g1 g2 g3
              go_wp2_with fail
              go_loopg [11] V.length (fun g c wy => ∃ (j : Nat), j + g = V.length ∧ c = .int .i64 j ∧ wy.ownsRow w.heap.size 3 1 (.slice (some ⟨ob, 0, none⟩) V.length ocap) V.length ((rowAt S b a j).map (Value.int .i64)) ∧ Below w.heap.size w wy)
              case atStart => exact ⟨0, by omega, rfl, by rw [rowAt_zero]; exact owns_belowW J1.out.2.2.1 (bel_drewN (Below.refl _ _) _), bel_drewN J1.out.2.2.2.1 _⟩
              case round =>
                obtain ⟨j, hj, rfl, hO, hbel⟩ := hrel
                by_cases hlj : j < V.length
                · have hSl : j < S.length := by rw [J1.out.2.2.2.2.2.2.2.2.2.2]; exact hlj
                  obtain ⟨y, hy⟩ : ∃ y, S[j]? = some y := ⟨_, List.getElem?_eq_getElem hSl⟩
                  have cy : wr.cell? ⟨ob, j, none⟩ = some (.int .i64 y) := by rw [hO.cellAt j (by omega), List.getElem?_map, rowAt_get hSl, hy]; rfl
                  have hfz := hO.frozenAt j
                  have hst := hO.stored j (.int .i64 b)
                  by_cases hyb : y = a
                  · have hyt : (y == a) = true := by simp [hyb]
                    have R := aside' (And.intro (show (wr.setCell ⟨ob, j, none⟩ (.int .i64 b)).ownsRow w.heap.size 3 1 (.slice (some ⟨ob, 0, none⟩) V.length ocap) V.length ((rowAt S b a (j + 1)).map (Value.int .i64)) from by rw [← rowAt_set hSl (hyb ▸ hy), List.map_set]; exact hst.1) (hbel.setCell (p := ⟨ob, j, none⟩) (hO.lt ob rfl).1 (.int .i64 b)))
                    clear hO hbel hst hyb hy hSl
                    go_wp2_with fail
                    go_roundg (gk - 1)
                    case rel => exact ⟨j + 1, by omega, by go_num, R.out.1, R.out.2⟩
                    case measure => omega
                  · have hyt : (y == a) = false := by simp [hyb]
                    have R := aside' (And.intro (rowAt_skip (a := b) hSl hy hyb ▸ hO) hbel)
                    clear hO hbel hst hyb hy hSl
                    go_wp2_with fail
                    go_roundg (gk - 1)
                    case rel => exact ⟨j + 1, by omega, by go_num, R.out.1, R.out.2⟩
                    case measure => omega
                · have hjj : j = S.length := by rw [J1.out.2.2.2.2.2.2.2.2.2.2]; omega
                  rw [hjj, rowAt_all] at hO
                  have R := aside' (And.intro hO hbel)
                  clear hO hbel hjj
                  go_wp2_with fail
                  go_roundg (gk_outer - 1)
                  case rel => exact ⟨k + 1, relab S b a, by have := J1.out.2.2.2.2.2.2.2.2.2.1; omega, by go_num, by rw [relab_len]; exact J1.out.2.2.2.2.2.2.2.2.2.2, by rw [J1.out.2.2.2.2.1]; exact J2.out.1, J2.out.2, R.out.1, R.out.2⟩
                  case measure => have := J1.out.2.2.2.2.2.2.2.2.2.1; omega
            · have hne : (a == b) = false := by simp; omega
              have hne2 : (a != b) = true := by simp; omega
              have J2 := aside' (show Lab V (E.take k ++ [e]) (relab S a b) ∧ Low (relab S a b) from ⟨J1.out.1.join J1.out.2.2.2.2.2.1 J1.out.2.2.2.2.2.2.1 (.inl ⟨J1.out.2.2.2.2.2.2.2.1, J1.out.2.2.2.2.2.2.2.2.1⟩), J1.out.2.1.join J1.out.2.2.2.2.2.2.2.1 J1.out.2.2.2.2.2.2.2.2.1 (by omega)⟩)
              clear hab
              go_wp2_with fail
              go_big_quiet (first
                | (go_at_call 45; with_reducible exact q_same' (PU.out _ (bel_drewN (Below.refl _ _) _)) ⟨_, rfl⟩)
                | (go_at_call 45; with_reducible exact q_same' (PV.out _ (bel_drewN (Below.refl _ _) _)) ⟨_, rfl⟩))
              clear ca cb g0 g1 g2 g3
              go_wp2_with fail
              go_loopg [11] V.length (fun g c wy => ∃ (j : Nat), j + g = V.length ∧ c = .int .i64 j ∧ wy.ownsRow w.heap.size 3 1 (.slice (some ⟨ob, 0, none⟩) V.length ocap) V.length ((rowAt S a b j).map (Value.int .i64)) ∧ Below w.heap.size w wy)
              case atStart => exact ⟨0, by omega, rfl, by rw [rowAt_zero]; exact owns_belowW J1.out.2.2.1 (bel_drewN (Below.refl _ _) _), bel_drewN J1.out.2.2.2.1 _⟩
              case round =>
                obtain ⟨j, hj, rfl, hO, hbel⟩ := hrel
                by_cases hlj : j < V.length
                · have hSl : j < S.length := by rw [J1.out.2.2.2.2.2.2.2.2.2.2]; exact hlj
                  obtain ⟨y, hy⟩ : ∃ y, S[j]? = some y := ⟨_, List.getElem?_eq_getElem hSl⟩
                  have cy : wr.cell? ⟨ob, j, none⟩ = some (.int .i64 y) := by rw [hO.cellAt j (by omega), List.getElem?_map, rowAt_get hSl, hy]; rfl
                  have hfz := hO.frozenAt j
                  have hst := hO.stored j (.int .i64 a)
                  by_cases hyb : y = b
                  · have hyt : (y == b) = true := by simp [hyb]
                    have R := aside' (And.intro (show (wr.setCell ⟨ob, j, none⟩ (.int .i64 a)).ownsRow w.heap.size 3 1 (.slice (some ⟨ob, 0, none⟩) V.length ocap) V.length ((rowAt S a b (j + 1)).map (Value.int .i64)) from by rw [← rowAt_set hSl (hyb ▸ hy), List.map_set]; exact hst.1) (hbel.setCell (p := ⟨ob, j, none⟩) (hO.lt ob rfl).1 (.int .i64 a)))
                    clear hO hbel hst hyb hy hSl
                    go_wp2_with fail
                    go_roundg (gk - 1)
                    case rel => exact ⟨j + 1, by omega, by go_num, R.out.1, R.out.2⟩
                    case measure => omega
                  · have hyt : (y == b) = false := by simp [hyb]
                    have R := aside' (And.intro (rowAt_skip (a := a) hSl hy hyb ▸ hO) hbel)
                    clear hO hbel hst hyb hy hSl
                    go_wp2_with fail
                    go_roundg (gk - 1)
                    case rel => exact ⟨j + 1, by omega, by go_num, R.out.1, R.out.2⟩
                    case measure => omega
                · have hjj : j = S.length := by rw [J1.out.2.2.2.2.2.2.2.2.2.2]; omega
                  rw [hjj, rowAt_all] at hO
                  have R := aside' (And.intro hO hbel)
                  clear hO hbel hjj
                  go_wp2_with fail
                  go_roundg (gk_outer - 1)
                  case rel => exact ⟨k + 1, relab S a b, by have := J1.out.2.2.2.2.2.2.2.2.2.1; omega, by go_num, by rw [relab_len]; exact J1.out.2.2.2.2.2.2.2.2.2.2, by rw [J1.out.2.2.2.2.1]; exact J2.out.1, J2.out.2, R.out.1, R.out.2⟩
                  case measure => have := J1.out.2.2.2.2.2.2.2.2.2.1; omega
        · have hkk : k = E.length := by omega
          subst hkk
          rw [List.take_length] at hLab
          have J1 := aside' (show SetsPost w V E (.returned (.slice oa V.length ocap)) wr from ⟨_, S, rfl, hLab, hLow, by rw [hSl]; exact hO, hbel⟩)
          clear hLab hLow hO hbel
          go_wp2_with fail
          go_ret
          exact J1.out

end Go.Proofs.YthidhdffiebbgaaGreatDoor

namespace Go.Proofs.YthidhdffiebbgaaGreatDoor
open Go.BigFrame Go.RowKit Go.Proofs.YthidhdffiebbgaaGreatDoor.Sk

set_option maxRecDepth 100000 in
set_option maxHeartbeats 1000000 in
theorem rjoined_any (n : Value) (V : List Int) (E : List Edg) (u v : Int) (w : World) (hn : NetAt w n V E) (hu : wf64 u) (hv : wf64 v) :
    Calls Tryz.prog 13 #[n, .int .i64 u, .int .i64 v] w fun e w' => e = .returned (.tuple #[.bool (joinedB V E u v), .int .i64 (checkA V E [u, v])]) ∧ Below w.heap.size w w' := by
  obtain ⟨vs, es, rfl, hV, hE⟩ := hn.ex
  obtain ⟨va, vcap, rfl, -, -, -⟩ := id hV
  obtain ⟨ea, ecap, rfl, -, -, -⟩ := id hE
  have hb0 : Below w.heap.size w ((w.alloc (.cells #[.slice va V.length vcap, .slice ea E.length ecap] 25)).alloc (.cells #[.int .i64 u, .int .i64 v] 3)) := ((Below.refl _ _).alloc (Nat.le_refl _) _).alloc (by simp) _
  have hn0 := hn.below hb0
  have hq := rdI_two (w.alloc (.cells #[.slice va V.length vcap, .slice ea E.length ecap] 25)) u v hu hv
  simp only [World.size_alloc] at hq
  have hask := rask_any _ _ V E [u, v] _ hn0 hq
  have A : Aside (Below w.heap.size w ((w.alloc (.cells #[.slice va V.length vcap, .slice ea E.length ecap] 25)).alloc (.cells #[.int .i64 u, .int .i64 v] 3)) ∧ RdI w (.slice va V.length vcap) V ∧ RdE w (.slice ea E.length ecap) E) := ⟨hb0, hV, hE⟩
  clear hn hV hE hb0 hn0 hq
  go_enter Tryz.func13, Tryz.ntmps13
  go_wp2_with fail
  refine hask.mono ?_
  rintro _ w1 ⟨rfl, hb1⟩
  have n0 : w1.cell? ⟨w.heap.size, 0, none⟩ = some (.slice va V.length vcap) := by rw [bcell hb1 _ _ (by simp; omega), World.cell?_alloc_past _ _ _ (by simp), World.cell?_alloc_at _ _ _ _ rfl]; rfl
  have n1 : w1.cell? ⟨w.heap.size, 1, none⟩ = some (.slice ea E.length ecap) := by rw [bcell hb1 _ _ (by simp; omega), World.cell?_alloc_past _ _ _ (by simp), World.cell?_alloc_at _ _ _ _ rfl]; rfl
  have hz1 : w.heap.size < w1.heap.size := by have := hb1.size; simp at this; omega
  have B := aside' (A.out.1.trans (hb1.mono (by simp; omega)))
  clear hb1 hask
  obtain ⟨c, hc⟩ : ∃ c, checkA V E [u, v] = c := ⟨_, rfl⟩
  rw [hc]
  by_cases hc0 : c = 0
  · subst hc0
    have hR := (checkA_in hc).1
    have huV := (checkA_in hc).2 u (by simp)
    have hvV := (checkA_in hc).2 v (by simp)
    obtain ⟨iu, hiu, hiu1, hiu2⟩ := place_of (right_nodup hR) huV
    obtain ⟨iv, hiv, hiv1, hiv2⟩ := place_of (right_nodup hR) hvV
    have C := aside' (And.intro hc (And.intro hR (And.intro hiu1 (And.intro hiu2 (And.intro hiv1 hiv2)))))
    have hset := sets_any _ _ V E w1 (A.out.2.1.below B.out) (A.out.2.2.below B.out) hR
    clear hc hR huV hvV hiu1 hiu2 hiv1 hiv2
    go_wp2_with fail
    refine hset.mono ?_
    rintro _ w2 ⟨sv, S, rfl, hLab, hLow, hO, hb2⟩
    have m0 := (bcell hb2 _ 0 hz1).trans n0
    have hSl := hLab.len
    obtain ⟨sa, scap, rfl, hsb⟩ := owns_form hO
    obtain ⟨sb, rfl⟩ := hsb (by omega)
    obtain ⟨a, ha⟩ : ∃ a, S[iu]? = some a := ⟨_, List.getElem?_eq_getElem (by omega)⟩
    obtain ⟨b, hb⟩ : ∃ b, S[iv]? = some b := ⟨_, List.getElem?_eq_getElem (by omega)⟩
    have ca : w2.cell? ⟨sb, iu, none⟩ = some (.int .i64 a) := by rw [hO.cellAt iu (by omega), List.getElem?_map, ha]; rfl
    have cb : w2.cell? ⟨sb, iv, none⟩ = some (.int .i64 b) := by rw [hO.cellAt iv (by omega), List.getElem?_map, hb]; rfl
    have hiuS : iu < S.length := by omega
    have hivS : iv < S.length := by omega
    have hB2 := B.out.trans (hb2.mono B.out.size)
    have hj : (a == b) = joinedB V E u v := by
      unfold joinedB
      rw [if_pos C.out.1, Bool.eq_iff_iff, connB_iff, ← hLab.same iu iv u v C.out.2.2.1 C.out.2.2.2.2.1, ha, hb]
      simp
    have PU : Aside (∀ W, Below w2.heap.size w2 W → Calls Tryz.prog 45 #[.slice va V.length vcap, .int .i64 u] W fun r w' => r = .returned (.int .i64 iu) ∧ W = w') := fun W hW => place_at _ V u iu W (A.out.2.1.below (hB2.trans (hW.mono hB2.size))) C.out.2.2.1 C.out.2.2.2.1
    have PV : Aside (∀ W, Below w2.heap.size w2 W → Calls Tryz.prog 45 #[.slice va V.length vcap, .int .i64 v] W fun r w' => r = .returned (.int .i64 iv) ∧ W = w') := fun W hW => place_at _ V v iv W (A.out.2.1.below (hB2.trans (hW.mono hB2.size))) C.out.2.2.2.2.1 C.out.2.2.2.2.2
    have D := aside' (And.intro hB2 hj)
    clear hB2 hj hLab hLow hO hb2 ha hb hset hSl hsb n0 n1
    go_wp2_with fail
    go_big_quiet (first
      | (go_at_call 45; with_reducible exact q_same' (PU.out _ (bel_drewN (Below.refl _ _) _)) ⟨_, rfl⟩)
      | (go_at_call 45; with_reducible exact q_same' (PV.out _ (bel_drewN (Below.refl _ _) _)) ⟨_, rfl⟩))
    go_wp2_with fail
    go_ret2
    exact ⟨by rw [← D.out.2, C.out.1]; rfl, bel_drewN D.out.1 _⟩
  · have hc1 : (c != 0) = true := by simp [hc0]
    have C := aside' (And.intro (show joinedB V E u v = false from by unfold joinedB; rw [if_neg (by rw [hc]; exact hc0)]) hc)
    clear hc hc0
    go_wp2_with fail
    go_ret2
    exact ⟨by rw [C.out.1, C.out.2]; rfl, B.out⟩

/-- a list that was made since comes behind the others -/
theorem ll_add {w W w' : World} {base : Nat} {outv s v' : Value} {svs : List Value} {gs : List (List Int)} {g : List Int} (h : OwnsLL w base outv svs gs) (hbw : Below w.heap.size w W) (hs : W.ownsRow w.heap.size 3 1 s g.length (g.map (Value.int .i64)))
    (hv : w'.ownsRow base 22 1 v' (gs.length + 1) (svs ++ [s])) (hg : W.grownBy w' outv.ownBlock) (hloc : v'.ownBlock = outv.ownBlock ∨ v'.ownBlock = some W.heap.size) (hb : base ≤ w.heap.size) : OwnsLL w' base v' (svs ++ [s]) (gs ++ [g]) := by
  have hlt : ∀ (i : Nat) (t : Value) (b : Nat), svs[i]? = some t → t.ownBlock = some b → b < w.heap.size := fun i t b ht hb => (h.lt_in ht hb).2
  have hout : ∀ b, outv.ownBlock = some b → b < w.heap.size := fun b hb => (h.lt_out hb).2
  have hsb : ∀ b, s.ownBlock = some b → w.heap.size ≤ b ∧ b < W.heap.size := fun b hb => hs.lt b hb
  have hWs := hbw.size
  have idx : ∀ (i : Nat) (t : Value), (svs ++ [s])[i]? = some t → svs[i]? = some t ∨ (i = svs.length ∧ t = s) := fun i t ht => by
    by_cases hi : i < svs.length
    · rw [List.getElem?_append_left hi] at ht
      exact .inl ht
    · rw [List.getElem?_append_right (by omega)] at ht
      have : i - svs.length = 0 := by
        refine Classical.byContradiction fun hne => ?_
        rw [List.getElem?_eq_none (by simp; omega)] at ht
        cases ht
      rw [this] at ht
      exact .inr ⟨by omega, by simpa using ht.symm⟩
  refine ⟨by simpa using hv, by simp [h.len], fun i t z ht hz => ?_, fun i j t r hij ht hr b hb1 hb2 => ?_, fun i t ht b hb1 hb2 => ?_⟩
  · rcases idx i t ht with ht' | ⟨rfl, rfl⟩
    · have hi : i < gs.length := by rw [← h.len]; exact (List.getElem?_eq_some_iff.1 ht').1
      rw [List.getElem?_append_left hi] at hz
      have h1 := (h.inner i t z ht' hz).kept (row := none) (w' := W) ⟨hbw.os, hbw.tape, hbw.output, hbw.size, fun j hj _ => hbw.block j hj⟩ (by cases t.ownBlock <;> simp)
      refine h1.kept hg ?_
      cases hbt : t.ownBlock with
      | none => exact .inl rfl
      | some b => exact .inr fun e => h.away i t ht' b e.symm hbt
    · rw [List.getElem?_append_right (by rw [h.len]; exact Nat.le_refl _), h.len, Nat.sub_self] at hz
      simp only [List.getElem?_cons_zero, Option.some.injEq] at hz
      subst hz
      have h1 : w'.ownsRow w.heap.size 3 1 t g.length (g.map (Value.int .i64)) := hs.kept hg (by
        cases hbt : t.ownBlock with
        | none => exact .inl rfl
        | some b => exact .inr fun e => by have := (hsb b hbt).1; have := hout b e.symm; omega)
      exact owns_mono h1 hb
  · rcases idx i t ht with ht' | ⟨rfl, rfl⟩ <;> rcases idx j r hr with hr' | ⟨rfl, rfl⟩
    · exact h.apart i j t r hij ht' hr' b hb1 hb2
    · have := hlt i t b ht' hb1; have := (hsb b hb2).1; omega
    · have := hlt j r b hr' hb2; have := (hsb b hb1).1; omega
    · exact hij rfl
  · rcases hloc with hl | hl
    · rw [hl] at hb1
      rcases idx i t ht with ht' | ⟨rfl, rfl⟩
      · exact h.away i t ht' b hb1 hb2
      · have := hout b hb1; have := (hsb b hb2).1; omega
    · rw [hl] at hb1
      cases hb1
      rcases idx i t ht with ht' | ⟨rfl, rfl⟩
      · have := hlt i t _ ht' hb2; omega
      · have := (hsb _ hb2).2; omega

theorem ll_empty (w : World) : OwnsLL (w.alloc (.cells #[] 22)) w.heap.size (.slice (some ⟨w.heap.size, 0, none⟩) 0 0) [] [] where
  outer := empty_row w 22 1
  len := rfl
  inner i s g h := by simp at h
  apart i j s t _ h := by simp at h
  away i s h := by simp at h

theorem ll_below {w w' : World} {base : Nat} {outv : Value} {svs : List Value} {gs : List (List Int)} (h : OwnsLL w base outv svs gs) (hb : Below w.heap.size w w') : OwnsLL w' base outv svs gs :=
  h.kept (row := none) ⟨hb.os, hb.tape, hb.output, hb.size, fun j hj _ => hb.block j hj⟩ (fun b e => by cases e) (fun b s e => by cases e)

theorem ll_base {w : World} {base base' : Nat} {outv : Value} {svs : List Value} {gs : List (List Int)} (h : OwnsLL w base outv svs gs) (hb : base' ≤ base) : OwnsLL w base' outv svs gs :=
  ⟨owns_mono h.outer hb, h.len, fun i s g hs hg => owns_mono (h.inner i s g hs hg) hb, h.apart, h.away⟩

/-- what one more list leaves -/
theorem wpList_app_list {ops : Array Oper} {rest : List Oper} {o : Oper} {a : Act} {Q : Exit → Act → World → Prop} {W : World} (hgd : o.guard = none) (s x : Operand)
    (ho : o.op = .call { callee := .builtin .append, args := #[s, x], argTypes := #[57, 57] }) (base : Nat) (v : Value) (m : Nat) (svs : List Value) (z : Value) (g : Nat) (n c : Nat) (hs : a.eval s = v)
    (hO : W.ownsRow base 22 1 v m svs) (hx : a.eval x = .slice (some ⟨g, 0, none⟩) n c) (hn : n = 1) (hg : W.heap[g]? = some (.cells #[z] 22 (0, 0))) (hz : z.oneCell' = true) (hl : m ≤ 1000000) (hb : base ≤ W.heap.size)
    (h : ∀ v' w', w'.ownsRow base 22 1 v' (m + 1) (svs ++ [z]) → W.grownBy w' v.ownBlock → (v'.ownBlock = v.ownBlock ∨ v'.ownBlock = some W.heap.size) → wpList Tryz.prog ops Q rest (a.put o.dst v') w') : wpList Tryz.prog ops Q (o :: rest) a W := by
  subst hn
  obtain ⟨i0, hi, hz0, hz1, hz2⟩ := info_parts info22
  refine wpList_append_own_at W hgd s x 57 ho base 22 i0 _ 1 24 Tryz.underlying57 hi hz0 hz1 hz2 rfl (by decide) v m svs hs hO ⟨g, 0, none⟩ 1 c [z] hx rfl
    (fun j u hj => ?_) (fun u hu => by rw [List.mem_singleton] at hu; rw [hu]; exact hz) (by unfold maxLen; omega) (by omega) hb (fun v' w' hown hgr _ hloc => ?_)
  · exact World.news_of_block (cs := #[z]) hg j u hj
  · exact h _ _ hown hgr hloc

/-- the list of a set, as far as it has come -/
noncomputable def listTo (V : List Int) (E : List Edg) (x : Int) (k j : Nat) : List Int := ((V.take j).drop k).filter (connB E x)
theorem listTo_start (V : List Int) (E : List Edg) (x : Int) (k : Nat) : listTo V E x k k = [] := by
  unfold listTo
  rw [List.drop_of_length_le (by rw [List.length_take]; omega)]
  rfl
theorem listTo_snoc {V : List Int} {E : List Edg} {x y : Int} {k j : Nat} (hkj : k ≤ j) (hj : V[j]? = some y) : listTo V E x k (j + 1) = if connB E x y then listTo V E x k j ++ [y] else listTo V E x k j := by
  obtain ⟨hlt, hy⟩ := List.getElem?_eq_some_iff.1 hj
  unfold listTo
  rw [List.take_succ_eq_append_getElem hlt, hy, List.drop_append_of_le_length (by rw [List.length_take]; omega), List.filter_append]
  by_cases hc : connB E x y = true
  · rw [if_pos hc]
    simp [hc]
  · rw [if_neg hc]
    simp [hc]
theorem listTo_len (V : List Int) (E : List Edg) (x : Int) (k j : Nat) : (listTo V E x k j).length ≤ V.length := by
  unfold listTo
  refine Nat.le_trans (List.length_filter_le _ _) ?_
  rw [List.length_drop, List.length_take]
  omega

set_option maxRecDepth 100000 in
set_option maxHeartbeats 2000000 in
theorem rtrees_any (n : Value) (V : List Int) (E : List Edg) (w : World) (hn : NetAt w n V E) : Calls Tryz.prog 26 #[n] w (TreesPost w V E) := by
  obtain ⟨vs, es, rfl, hV, hE⟩ := hn.ex
  obtain ⟨va, vcap, rfl, -, -, -⟩ := id hV
  obtain ⟨ea, ecap, rfl, -, -, -⟩ := id hE
  have hb0 : Below w.heap.size w (w.alloc (.cells #[.slice va V.length vcap, .slice ea E.length ecap] 25)) := (Below.refl _ _).alloc (Nat.le_refl _) _
  have hck := rcheck_any _ V E _ (hn.below hb0)
  have A : Aside (Below w.heap.size w (w.alloc (.cells #[.slice va V.length vcap, .slice ea E.length ecap] 25)) ∧ RdI w (.slice va V.length vcap) V ∧ RdE w (.slice ea E.length ecap) E) := ⟨hb0, hV, hE⟩
  clear hn hV hE hb0
  go_enter Tryz.func26, Tryz.ntmps26
  go_wp2_with fail
  refine hck.mono ?_
  rintro _ w1 ⟨rfl, hb1⟩
  have n0 : w1.cell? ⟨w.heap.size, 0, none⟩ = some (.slice va V.length vcap) := by rw [bcell hb1 _ _ (by simp), World.cell?_alloc_at _ _ _ _ rfl]; rfl
  have n1 : w1.cell? ⟨w.heap.size, 1, none⟩ = some (.slice ea E.length ecap) := by rw [bcell hb1 _ _ (by simp), World.cell?_alloc_at _ _ _ _ rfl]; rfl
  have hz1 : w.heap.size < w1.heap.size := by have := hb1.size; simp at this; omega
  have B := aside' (A.out.1.trans (hb1.mono (by simp)))
  clear hb1 hck
  by_cases hR : Right V E
  · rw [checkN_ok hR]
    have R := aside' hR
    have hset := sets_any _ _ V E w1 (A.out.2.1.below B.out) (A.out.2.2.below B.out) hR
    have hVl := hR.1
    clear hR
    go_wp2_with fail
    refine hset.mono ?_
    rintro _ w2 ⟨sv, S, rfl, hLab, hLow, hO, hb2⟩
    have m0 := (bcell hb2 _ 0 hz1).trans n0
    have hSl := hLab.len
    have hz2 : w.heap.size < w2.heap.size := Nat.lt_of_lt_of_le hz1 hb2.size
    obtain ⟨sa, scap, rfl, hsb⟩ := owns_form hO
    have hSw : ∀ x ∈ S, wf64 x := fun x hx => by
      have := hLab.rng x hx
      unfold wf64
      omega
    have hSr : RdI w2 (.slice sa S.length scap) S := rdI_own hO hSw (by omega)
    have C := aside' (And.intro (B.out.trans (hb2.mono B.out.size)) (And.intro hLab (And.intro hLow hSr)))
    have hSlen : S.length ≤ 2048 := by omega
    clear hLab hLow hO hb2 hset n0 n1 hSr hSw hsb
    go_wp2_with fail
    go_loopg [7, 6] V.length (fun g i o wr => ∃ (k : Nat) (svs : List Value), k + g = V.length ∧ i = .int .i64 k ∧ OwnsLL wr w2.heap.size o svs (treesTo V E k) ∧ Below w2.heap.size w2 wr)
    case atStart => exact ⟨0, [], by omega, rfl, ll_empty w2, (Below.refl _ _).alloc (Nat.le_refl _) _⟩
    case round =>
      obtain ⟨k, svs, hk, rfl, hLL, hbel⟩ := hrel
      obtain ⟨gk_outer, hgko⟩ : ∃ q, q = gk := ⟨_, rfl⟩
      rw [← hgko] at hk
      have x0 := (bcell hbel _ 0 hz2).trans m0
      have hz3 : w.heap.size < wr.heap.size := Nat.lt_of_lt_of_le hz2 hbel.size
      by_cases hlt : k < V.length
      · obtain ⟨oa, ocap, rfl, -⟩ := owns_form hLL.outer
        have hkS : k < S.length := by omega
        obtain ⟨-, -, sb, soff, hse, -, s0⟩ := (C.out.2.2.2.below hbel).get hkS
        subst hse
        obtain ⟨y, hy⟩ : ∃ y, S[k] = y := ⟨_, rfl⟩
        rw [hy] at s0
        have hyk : S[k]? = some y := by rw [List.getElem?_eq_getElem hkS, hy]
        obtain ⟨x, hx⟩ : ∃ x, V[k]? = some x := ⟨_, List.getElem?_eq_getElem hlt⟩
        have hTl : (treesTo V E k).length ≤ V.length := by
          unfold treesTo
          rw [List.length_map]
          have := firsts_le E (V.take k)
          rw [List.length_take] at this
          omega
        by_cases hown : y = (k : Int)
        · obtain ⟨wo, rfl⟩ : ∃ wo, wo = wr := ⟨_, rfl⟩
          have hyb : (y == (k : Int)) = true := by simp [hown]
          have J := aside' (And.intro hLL (And.intro hbel (And.intro hk (And.intro (hown ▸ hyk) (And.intro hx hTl)))))
          clear hLL hbel hk hown hyk hx hTl hy
          go_wp2_with fail
          go_loopg [9, 8] (V.length - k) (fun g c l wx => ∃ (j : Nat), k ≤ j ∧ j + g = V.length ∧ c = .int .i64 j ∧ wx.ownsRow wo.heap.size 3 1 l (listTo V E x k j).length ((listTo V E x k j).map (Value.int .i64)) ∧ Below wo.heap.size wo wx)
          case atStart => exact ⟨k, Nat.le_refl _, by omega, rfl, by rw [listTo_start]; exact empty_row wo 3 1, (Below.refl _ _).alloc (Nat.le_refl _) _⟩
          case round =>
            obtain ⟨j, hkj, hj, rfl, hO, hbx⟩ := hrel
            have y0 := (bcell hbx _ 0 hz3).trans x0
            have hz4 : w.heap.size < wr.heap.size := Nat.lt_of_lt_of_le hz3 hbx.size
            obtain ⟨la, lcap, rfl, -⟩ := owns_form hO
            have hLl := listTo_len V E x k j
            have hb2x := J.out.2.1.trans (hbx.mono J.out.2.1.size)
            by_cases hlj : j < V.length
            · have hjS : j < S.length := by omega
              obtain ⟨-, -, sb2, soff2, hse2, -, t0⟩ := (C.out.2.2.2.below hb2x).get hjS
              simp only [Option.some.injEq, Addr.mk.injEq] at hse2
              obtain ⟨rfl, rfl, -⟩ := hse2
              obtain ⟨z, hz⟩ : ∃ z, S[j] = z := ⟨_, rfl⟩
              rw [hz] at t0
              have hzj : S[j]? = some z := by rw [List.getElem?_eq_getElem hjS, hz]
              obtain ⟨-, -, vb, voff, hve, -, v0⟩ := ((A.out.2.1.below (C.out.1.trans (hb2x.mono C.out.1.size)))).get hlj
              subst hve
              obtain ⟨q, hq⟩ : ∃ q, V[j] = q := ⟨_, rfl⟩
              rw [hq] at v0
              have hqj : V[j]? = some q := by rw [List.getElem?_eq_getElem hlj, hq]
              have hcn := C.out.2.1.same k j x q J.out.2.2.2.2.1 hqj
              rw [J.out.2.2.2.1, hzj] at hcn
              have hls := listTo_snoc (E := E) (x := x) hkj hqj
              by_cases hzk : z = (k : Int)
              · have hzb : (z == (k : Int)) = true := by simp [hzk]
                rw [if_pos (connB_iff.2 (hcn.1 (by rw [hzk])))] at hls
                obtain ⟨l, hl⟩ : ∃ l, listTo V E x k j = l := ⟨_, rfl⟩
                rw [hl] at hO hls hLl ⊢
                have M := aside' (And.intro hls (And.intro hO (And.intro hbx (And.intro hj hkj))))
                have hO' := hO
                clear hls hO hbx hb2x hzk hcn hqj hzj hz hq hl hj
                go_wp2_with (at_builtin; refine wpList_app_int rfl (.tmp 49) (.tmp 55) rfl wo.heap.size (.slice la l.length lcap) l q wr.heap.size 1 1 rfl (hO'.alloc _) rfl rfl (World.alloc_heap_new _ _) (by omega) (by have := M.out.2.2.1.size; simp; omega) ?_; intro v' w3 happ; obtain ⟨g', cap', rfl, h1, h2, -⟩ := happ)
                go_roundg (gk - 1)
                case rel =>
                  refine ⟨j + 1, by omega, by have := M.out.2.2.2.1; omega, by go_num, ?_, gr_below (bel_alloc M.out.2.2.1 (Nat.le_refl _) _) h2 (Nat.le_refl _) (owns_ge M.out.2.1)⟩
                  rw [M.out.1, List.length_append]
                  exact h1
                case measure => have := M.out.2.2.2.1; omega
              · have hzb : (z == (k : Int)) = false := by simp [hzk]
                rw [if_neg (fun h => hzk (by have := hcn.2 (connB_iff.1 h); simpa using this.symm))] at hls
                have M := aside' (And.intro hls (And.intro hO (And.intro hbx (And.intro hj hkj))))
                clear hls hO hbx hb2x hzk hcn hqj hzj hz hq hj
                go_wp2_with fail
                go_roundg (gk - 1)
                case rel => exact ⟨j + 1, by omega, by have := M.out.2.2.2.1; omega, by go_num, by rw [M.out.1]; exact M.out.2.1, M.out.2.2.1⟩
                case measure => have := M.out.2.2.2.1; omega
            · have hjj : j = V.length := by omega
              subst hjj
              have hfull : listTo V E x k V.length = V.filter (connB E x) := by
                unfold listTo
                rw [List.take_length]
                exact filter_from C.out.2.1 C.out.2.2.1 J.out.2.2.2.2.1 J.out.2.2.2.1
              rw [hfull] at hO hLl ⊢
              have M := aside' (And.intro hO (And.intro hbx (treesTo_own C.out.2.1 C.out.2.2.1 J.out.2.2.2.2.1 J.out.2.2.2.1)))
              have hLL := ll_below J.out.1 hbx
              clear hO hbx hb2x hfull
              go_wp2_with (at_builtin; refine wpList_app_list rfl (.tmp 57) (.tmp 59) rfl w2.heap.size (.slice oa (treesTo V E k).length ocap) (treesTo V E k).length svs (.slice la (V.filter (connB E x)).length lcap) wr.heap.size 1 1 rfl (hLL.outer.alloc _) rfl rfl (World.alloc_heap_new _ _) rfl (by have := J.out.2.2.2.2.2; omega) (by have := J.out.2.1.size; have := M.out.2.1.size; simp; omega) ?_; intro v' w3 hv' hg' hloc'; obtain ⟨g', cap', rfl⟩ := owns_succ hv')
              go_roundg (gk_outer - 1)
              case rel =>
                refine ⟨k + 1, svs ++ [.slice la (V.filter (connB E x)).length lcap], by have := J.out.2.2.1; omega, by go_num, ?_, gr_below (bel_alloc (J.out.2.1.trans (M.out.2.1.mono J.out.2.1.size)) (Nat.le_refl _) _) hg' (Nat.le_refl _) (owns_ge J.out.1.outer)⟩
                rw [M.out.2.2]
                exact ll_add J.out.1 (bel_alloc M.out.2.1 (Nat.le_refl _) _) (M.out.1.alloc _) hv' hg' hloc' J.out.2.1.size
              case measure => have := J.out.2.2.1; omega
        · have hyb : (y == (k : Int)) = false := by simp [hown]
          have J := aside' (And.intro hLL (And.intro hbel (And.intro hk (treesTo_not C.out.2.1 C.out.2.2.1 hx (by rw [hyk]; simpa using hown)))))
          clear hLL hbel hk hown hyk hx hTl hy
          go_wp2_with fail
          go_roundg (gk_outer - 1)
          case rel => exact ⟨k + 1, svs, by have := J.out.2.2.1; omega, by go_num, by rw [J.out.2.2.2]; exact J.out.1, J.out.2.1⟩
          case measure => have := J.out.2.2.1; omega
      · have hkk : k = V.length := by omega
        subst hkk
        rw [treesTo_all] at hLL
        obtain ⟨oa, ocap, rfl, -⟩ := owns_form hLL.outer
        have J := aside' (show TreesPost w V E (.returned (.tuple #[.slice oa (treesOf E V).length ocap, .int .i64 0])) wr from ⟨⟨_, svs, by rw [checkN_ok R.out], by
          rw [if_pos R.out]
          exact ll_base hLL C.out.1.size⟩, C.out.1.trans (hbel.mono C.out.1.size)⟩)
        clear hLL hbel
        go_wp2_with fail
        go_ret2
        exact J.out
  · rw [checkN_no hR]
    have K := aside' hR
    clear hR
    go_wp2_with fail
    go_ret2
    exact ⟨⟨_, [], by rw [checkN_no K.out]; rfl, by rw [if_neg K.out]; exact OwnsLL.nil _ _⟩, B.out⟩

end Go.Proofs.YthidhdffiebbgaaGreatDoor

namespace Go.Proofs.YthidhdffiebbgaaGreatDoor
open Go.BigFrame Go.RowKit Go.Proofs.YthidhdffiebbgaaGreatDoor.Sk

/-- what a call leaves that answers edges of its own -/
def EdgesPost (w : World) (F : List Edg) (e : Ending) (w' : World) : Prop :=
  ∃ v, e = .returned v ∧ w'.ownsRow w.heap.size 47 4 v F.length (F.flatMap encE) ∧ Below w.heap.size w w'

theorem sortedR_len (E : List Edg) : (sortedR E).length = E.length := (sortedR_perm E).length_eq
theorem insE_len (x : Edg) (l : List Edg) : (insE x l).length = l.length + 1 := by simpa using (insE_perm x l).length_eq

/-- how far the new row has come behind j of the old one's edges: p is x's place -/
def insTo (x : Edg) (l : List Edg) (p j : Nat) : List Edg := (insE x l).take (if p < j then j + 1 else j)

theorem insTo_before {x y : Edg} {l : List Edg} {p j : Nat} (hI : insE x l = l.take p ++ x :: l.drop p) (hp : p ≤ l.length) (hj : j < p) (hy : l[j]? = some y) : insTo x l p (j + 1) = insTo x l p j ++ [y] := by
  obtain ⟨hjl, hy'⟩ := List.getElem?_eq_some_iff.1 hy
  unfold insTo
  rw [if_neg (by omega), if_neg (by omega), hI, List.take_append_of_le_length (by rw [List.length_take]; omega), List.take_append_of_le_length (by rw [List.length_take]; omega), List.take_take, List.take_take,
    Nat.min_eq_left (by omega), Nat.min_eq_left (by omega), List.take_succ_eq_append_getElem hjl, hy']

theorem insTo_at {x : Edg} {l : List Edg} {p : Nat} (hI : insE x l = l.take p ++ x :: l.drop p) (hp : p ≤ l.length) : (insE x l).take (p + 1) = insTo x l p p ++ [x] := by
  unfold insTo
  have h1 : (l.take p).length = p := by rw [List.length_take]; omega
  rw [if_neg (by omega), hI]
  have e1 : p + 1 - p = 1 := by omega
  have a1 : (l.take p ++ x :: l.drop p).take (p + 1) = l.take p ++ [x] := by
    rw [List.take_append, h1, e1, List.take_of_length_le (by omega)]
    rfl
  have a2 : (l.take p ++ x :: l.drop p).take p = l.take p := by
    rw [List.take_append_of_le_length (by omega), List.take_of_length_le (by omega)]
  rw [a1, a2]

theorem insTo_behind {x y : Edg} {l : List Edg} {p j : Nat} (hI : insE x l = l.take p ++ x :: l.drop p) (hp : p ≤ l.length) (hj : p ≤ j) (hy : l[j]? = some y) : insTo x l p (j + 1) = (insE x l).take (j + 1) ++ [y] := by
  obtain ⟨hjl, hy'⟩ := List.getElem?_eq_some_iff.1 hy
  unfold insTo
  rw [if_pos (by omega)]
  have hlt : j + 1 < (insE x l).length := by rw [insE_len]; omega
  rw [List.take_succ_eq_append_getElem hlt]
  have : (insE x l)[j + 1]? = some y := by
    have h1 : (l.take p).length = p := by rw [List.length_take]; omega
    rw [hI, List.getElem?_append_right (by omega), h1]
    have e1 : j + 1 - p = (j - p) + 1 := by omega
    rw [e1, List.getElem?_cons_succ, List.getElem?_drop]
    have e2 : p + (j - p) = j := by omega
    rw [e2, hy]
  obtain ⟨_, h2⟩ := List.getElem?_eq_some_iff.1 this
  rw [h2]

theorem insTo_len (x : Edg) (l : List Edg) (p j : Nat) : (insTo x l p j).length ≤ l.length + 1 := by
  unfold insTo
  rw [List.length_take, insE_len]
  omega

set_option maxRecDepth 100000 in
set_option maxHeartbeats 2000000 in
theorem rsorted_any (es : Value) (E : List Edg) (w : World) (hE : RdE w es E) (hl : E.length ≤ 2048) : Calls Tryz.prog 80 #[es] w (EdgesPost w (sortedR E)) := by
  obtain ⟨ea, ecap, rfl, hwf, he32, -⟩ := id hE
  have A : Aside (RdE w (.slice ea E.length ecap) E ∧ ∀ e ∈ E, e.wf) := ⟨hE, hwf⟩
  clear hE hwf
  go_enter Tryz.func80, Tryz.ntmps80
  go_wp2_with fail
  go_loopg [4, 3] E.length (fun g i o wr => ∃ k : Nat, k + g = E.length ∧ i = .int .i64 k ∧ wr.ownsRow w.heap.size 47 4 o (sortedR (E.take k)).length ((sortedR (E.take k)).flatMap encE) ∧ Below w.heap.size w wr)
  case atStart => exact ⟨0, by omega, rfl, empty_row w 47 4, (Below.refl _ _).alloc (Nat.le_refl _) _⟩
  case round =>
    obtain ⟨k, hk, rfl, hO, hbel⟩ := hrel
    obtain ⟨gk_outer, hgko⟩ : ∃ q, q = gk := ⟨_, rfl⟩
    rw [← hgko] at hk
    obtain ⟨wo, rfl⟩ : ∃ wo, wo = wr := ⟨_, rfl⟩
    have hll := sortedR_len (E.take k)
    obtain ⟨l, hle⟩ : ∃ l, sortedR (E.take k) = l := ⟨_, rfl⟩
    rw [hle] at hO hll
    rw [List.length_take] at hll
    have hlw : ∀ e ∈ l, e.wf := fun e he => A.out.2 e (List.mem_of_mem_take ((sortedR_perm (E.take k)).mem_iff.1 (hle ▸ he)))
    have hRl := rdE_of_owns hO hlw (by omega)
    have hll2 : l.length ≤ 2048 := by omega
    clear hll
    obtain ⟨oa, ocap, rfl, -⟩ := owns_form hO
    by_cases hlt : k < E.length
    · obtain ⟨-, -, eb, eoff, hea, heb, g0, g1, g2, g3⟩ := (A.out.1.below hbel).get hlt
      subst hea
      obtain ⟨x, hx⟩ : ∃ x, E[k] = x := ⟨_, rfl⟩
      rw [hx] at g0 g1 g2 g3
      obtain ⟨p, hp, hp1, hp2, hI⟩ := insE_place x l
      have hsn : sortedR (E.take (k + 1)) = insE x l := by rw [List.take_succ_eq_append_getElem hlt, sortedR_snoc, hle, hx]
      have J := aside' (And.intro hRl (And.intro hbel (And.intro hk (And.intro hsn (And.intro hI (And.intro hp1 hp2))))))
      clear hRl hbel hk hsn hI hp1 hp2 hO hlw hle hx
      go_wp2_with fail
      go_loopg [7, 5, 6] l.length (fun g c nx dn wx => ∃ j : Nat, j + g = l.length ∧ c = .int .i64 j ∧ dn = .bool (decide (p < j)) ∧ wx.ownsRow wo.heap.size 47 4 nx (insTo x l p j).length ((insTo x l p j).flatMap encE) ∧ Below wo.heap.size wo wx)
      case atStart => exact ⟨0, by omega, rfl, by simp, by
        have : insTo x l p 0 = [] := by unfold insTo; rw [if_neg (by omega)]; rfl
        rw [this]
        exact empty_row wo 47 4, (Below.refl _ _).alloc (Nat.le_refl _) _⟩
      case round =>
        obtain ⟨j, hj, rfl, rfl, hO, hbx⟩ := hrel
        have hnl := insTo_len x l p j
        obtain ⟨na, ncap, rfl, -⟩ := owns_form hO
        have f0 := (bcell hbx _ _ heb).trans g0
        have f1 := (bcell hbx _ _ heb).trans g1
        have f2 := (bcell hbx _ _ heb).trans g2
        have f3 := (bcell hbx _ _ heb).trans g3
        by_cases hlj : j < l.length
        · obtain ⟨-, -, ob, ooff, hoe, hobo, c0, c1, c2, c3⟩ := J.out.1.get hlj
          subst hoe
          obtain ⟨y, hy⟩ : ∃ y, l[j] = y := ⟨_, rfl⟩
          rw [hy] at c0 c1 c2 c3
          have hyj : l[j]? = some y := by rw [List.getElem?_eq_getElem hlj, hy]
          have Y := aside' (And.intro c0 (And.intro c1 (And.intro c2 c3)))
          replace c0 := (bcell hbx _ _ hobo).trans c0
          replace c1 := (bcell hbx _ _ hobo).trans c1
          replace c2 := (bcell hbx _ _ hobo).trans c2
          replace c3 := (bcell hbx _ _ hobo).trans c3
          have hebw := Nat.lt_of_lt_of_le heb hbx.size
          have hobw := Nat.lt_of_lt_of_le hobo hbx.size
          have F := aside' (And.intro f0 (And.intro f1 (And.intro f2 (And.intro f3 (And.intro c0 (And.intro c1 (And.intro c2 c3)))))))
          have hgx := ahead_any x y
          unfold valE at hgx
          by_cases hjp : j < p
          · have hdn : decide (p < j) = false := decide_eq_false (by omega)
            have hah : aheadB x y = false := J.out.2.2.2.2.2.1 y (by rw [List.mem_take_iff_getElem]; exact ⟨j, by omega, hy⟩)
            have AH : Aside (∀ W, Calls Tryz.prog 31 #[.agg #[.int .i64 x.id, .int .i64 x.u, .int .i64 x.v, .int .i64 x.w], .agg #[.int .i64 y.id, .int .i64 y.u, .int .i64 y.v, .int .i64 y.w]] W fun e w' => e = .returned (.bool false) ∧ W.grownBy w' none) := fun W => by
              have := hgx W
              rw [hah] at this
              exact this
            have M := aside' (And.intro hO (And.intro hbx (insTo_before J.out.2.2.2.2.1 hp hjp hyj)))
            rw [hdn]
            clear hgx hah hyj hy hO hbx hdn
            go_wp2_with fail
            go_region_held3 (fun w' => w'.cell? ⟨eb, eoff + k * 4, none⟩ = some (.int .i64 x.id) ∧ w'.cell? ⟨eb, eoff + k * 4 + 1, none⟩ = some (.int .i64 x.u) ∧ w'.cell? ⟨eb, eoff + k * 4 + 2, none⟩ = some (.int .i64 x.v) ∧ w'.cell? ⟨eb, eoff + k * 4 + 3, none⟩ = some (.int .i64 x.w) ∧ w'.cell? ⟨ob, ooff + j * 4, none⟩ = some (.int .i64 y.id) ∧ w'.cell? ⟨ob, ooff + j * 4 + 1, none⟩ = some (.int .i64 y.u) ∧ w'.cell? ⟨ob, ooff + j * 4 + 2, none⟩ = some (.int .i64 y.v) ∧ w'.cell? ⟨ob, ooff + j * 4 + 3, none⟩ = some (.int .i64 y.w))
              (first
                | go_keep
                | (go_split_ands; refine ⟨hg9.cell ?_ (by simp), hg9.cell ?_ (by simp), hg9.cell ?_ (by simp), hg9.cell ?_ (by simp), hg9.cell ?_ (by simp), hg9.cell ?_ (by simp), hg9.cell ?_ (by simp), hg9.cell ?_ (by simp)⟩ <;> assumption))
              ((go_at_call 31; (with_reducible refine Calls.mono (AH.out _) ?_); rintro _ w9 ⟨rfl, hg9⟩; have HB9 := aside' (show Below wr.heap.size wr w9 from (bel_drew (Below.refl _ _)).grown hg9 (Nat.le_refl _) (by simp))))
            all_goals (
              rename_i hH
              clear hH
              clear f0 f1 f2 f3 c0 c1 c2 c3
              obtain ⟨f0, f1, f2, f3⟩ := (show w9.cell? ⟨eb, eoff + k * 4, none⟩ = some (.int .i64 x.id) ∧ w9.cell? ⟨eb, eoff + k * 4 + 1, none⟩ = some (.int .i64 x.u) ∧ w9.cell? ⟨eb, eoff + k * 4 + 2, none⟩ = some (.int .i64 x.v) ∧ w9.cell? ⟨eb, eoff + k * 4 + 3, none⟩ = some (.int .i64 x.w) from ⟨(bcell HB9.out _ _ hebw).trans F.out.1, (bcell HB9.out _ _ hebw).trans F.out.2.1, (bcell HB9.out _ _ hebw).trans F.out.2.2.1, (bcell HB9.out _ _ hebw).trans F.out.2.2.2.1⟩)
              obtain ⟨c0, c1, c2, c3⟩ := (show w9.cell? ⟨ob, ooff + j * 4, none⟩ = some (.int .i64 y.id) ∧ w9.cell? ⟨ob, ooff + j * 4 + 1, none⟩ = some (.int .i64 y.u) ∧ w9.cell? ⟨ob, ooff + j * 4 + 2, none⟩ = some (.int .i64 y.v) ∧ w9.cell? ⟨ob, ooff + j * 4 + 3, none⟩ = some (.int .i64 y.w) from ⟨(bcell HB9.out _ _ hobw).trans F.out.2.2.2.2.1, (bcell HB9.out _ _ hobw).trans F.out.2.2.2.2.2.1, (bcell HB9.out _ _ hobw).trans F.out.2.2.2.2.2.2.1, (bcell HB9.out _ _ hobw).trans F.out.2.2.2.2.2.2.2⟩)
              have hO9 := owns_belowW M.out.1 HB9.out
              have hb9 := M.out.2.1.trans (HB9.out.mono M.out.2.1.size)
              have M9 := aside' (And.intro hO9 hb9)
              clear hb9
              go_wp2_with (at_builtin; refine wpList_app_edge rfl (.tmp 42) (.tmp 47) rfl wo.heap.size (.slice na (insTo x l p j).length ncap) (insTo x l p j) y w9.heap.size 1 1 rfl (hO9.alloc _) rfl rfl (World.alloc_heap_new _ _) (by omega) (by have := M9.out.2.size; simp; omega) ?_; intro v' w3 happ; obtain ⟨g', cap', rfl, h1, h2, -⟩ := happ)
              go_roundg (gk - 1)
              case rel =>
                refine ⟨j + 1, by omega, by go_num, by rw [decide_eq_false (by omega)], ?_, gr_below (bel_alloc M9.out.2 (Nat.le_refl _) _) h2 (Nat.le_refl _) (owns_ge M9.out.1)⟩
                rw [M.out.2.2, List.length_append]
                exact h1
              case measure => omega
            )
          · by_cases hje : j = p
            · have hdn : decide (p < j) = false := decide_eq_false (by omega)
              have hah : aheadB x y = true := J.out.2.2.2.2.2.2 y (hje ▸ hyj)
              have AH : Aside (∀ W, Calls Tryz.prog 31 #[.agg #[.int .i64 x.id, .int .i64 x.u, .int .i64 x.v, .int .i64 x.w], .agg #[.int .i64 y.id, .int .i64 y.u, .int .i64 y.v, .int .i64 y.w]] W fun e w' => e = .returned (.bool true) ∧ W.grownBy w' none) := fun W => by
                have := hgx W
                rw [hah] at this
                exact this
              have M := aside' (And.intro hO (And.intro hbx (show insTo x l p (j + 1) = (insTo x l p j ++ [x]) ++ [y] from by
                rw [insTo_behind J.out.2.2.2.2.1 hp (by omega) hyj]
                subst hje
                rw [insTo_at J.out.2.2.2.2.1 hp])))
              rw [hdn]
              clear hgx hah hyj hy hO hbx hdn hje
              go_wp2_with fail
              go_region_held3 (fun w' => w'.cell? ⟨eb, eoff + k * 4, none⟩ = some (.int .i64 x.id) ∧ w'.cell? ⟨eb, eoff + k * 4 + 1, none⟩ = some (.int .i64 x.u) ∧ w'.cell? ⟨eb, eoff + k * 4 + 2, none⟩ = some (.int .i64 x.v) ∧ w'.cell? ⟨eb, eoff + k * 4 + 3, none⟩ = some (.int .i64 x.w) ∧ w'.cell? ⟨ob, ooff + j * 4, none⟩ = some (.int .i64 y.id) ∧ w'.cell? ⟨ob, ooff + j * 4 + 1, none⟩ = some (.int .i64 y.u) ∧ w'.cell? ⟨ob, ooff + j * 4 + 2, none⟩ = some (.int .i64 y.v) ∧ w'.cell? ⟨ob, ooff + j * 4 + 3, none⟩ = some (.int .i64 y.w))
                (first
                  | go_keep
                  | (go_split_ands; refine ⟨hg9.cell ?_ (by simp), hg9.cell ?_ (by simp), hg9.cell ?_ (by simp), hg9.cell ?_ (by simp), hg9.cell ?_ (by simp), hg9.cell ?_ (by simp), hg9.cell ?_ (by simp), hg9.cell ?_ (by simp)⟩ <;> assumption))
                ((go_at_call 31; (with_reducible refine Calls.mono (AH.out _) ?_); rintro _ w9 ⟨rfl, hg9⟩; have HB9 := aside' (show Below wr.heap.size wr w9 from (bel_drew (Below.refl _ _)).grown hg9 (Nat.le_refl _) (by simp))))
              all_goals (
                rename_i hH
                clear hH
                clear f0 f1 f2 f3 c0 c1 c2 c3
                obtain ⟨f0, f1, f2, f3⟩ := (show w9.cell? ⟨eb, eoff + k * 4, none⟩ = some (.int .i64 x.id) ∧ w9.cell? ⟨eb, eoff + k * 4 + 1, none⟩ = some (.int .i64 x.u) ∧ w9.cell? ⟨eb, eoff + k * 4 + 2, none⟩ = some (.int .i64 x.v) ∧ w9.cell? ⟨eb, eoff + k * 4 + 3, none⟩ = some (.int .i64 x.w) from ⟨(bcell HB9.out _ _ hebw).trans F.out.1, (bcell HB9.out _ _ hebw).trans F.out.2.1, (bcell HB9.out _ _ hebw).trans F.out.2.2.1, (bcell HB9.out _ _ hebw).trans F.out.2.2.2.1⟩)
                obtain ⟨c0, c1, c2, c3⟩ := (show w9.cell? ⟨ob, ooff + j * 4, none⟩ = some (.int .i64 y.id) ∧ w9.cell? ⟨ob, ooff + j * 4 + 1, none⟩ = some (.int .i64 y.u) ∧ w9.cell? ⟨ob, ooff + j * 4 + 2, none⟩ = some (.int .i64 y.v) ∧ w9.cell? ⟨ob, ooff + j * 4 + 3, none⟩ = some (.int .i64 y.w) from ⟨(bcell HB9.out _ _ hobw).trans F.out.2.2.2.2.1, (bcell HB9.out _ _ hobw).trans F.out.2.2.2.2.2.1, (bcell HB9.out _ _ hobw).trans F.out.2.2.2.2.2.2.1, (bcell HB9.out _ _ hobw).trans F.out.2.2.2.2.2.2.2⟩)
                have hO9 := owns_belowW M.out.1 HB9.out
                have hb9 := M.out.2.1.trans (HB9.out.mono M.out.2.1.size)
                have M9 := aside' (And.intro hO9 hb9)
                clear hb9
                go_wp2_with (first
                  | (at_builtin; refine wpList_app_edge rfl (.tmp 35) (.tmp 40) rfl wo.heap.size (.slice na (insTo x l p j).length ncap) (insTo x l p j) x w9.heap.size 1 1 rfl (hO9.alloc _) rfl rfl (World.alloc_heap_new _ _) (by omega) (by have := M9.out.2.size; simp; omega) ?_; intro v' w3 happ; obtain ⟨g', cap', rfl, h1, h2, -⟩ := happ; have hb3 := gr_below (bel_alloc M9.out.2 (Nat.le_refl _) _) h2 (Nat.le_refl _) (owns_ge M9.out.1); have HX := aside' (And.intro h1 hb3); have hyb := (show w3.cell? ⟨ob, ooff + j * 4, none⟩ = some (.int .i64 y.id) ∧ w3.cell? ⟨ob, ooff + j * 4 + 1, none⟩ = some (.int .i64 y.u) ∧ w3.cell? ⟨ob, ooff + j * 4 + 2, none⟩ = some (.int .i64 y.v) ∧ w3.cell? ⟨ob, ooff + j * 4 + 3, none⟩ = some (.int .i64 y.w) from ⟨(bcell hb3 _ _ hobo).trans Y.out.1, (bcell hb3 _ _ hobo).trans Y.out.2.1, (bcell hb3 _ _ hobo).trans Y.out.2.2.1, (bcell hb3 _ _ hobo).trans Y.out.2.2.2⟩); obtain ⟨z0, z1, z2, z3⟩ := hyb; clear hb3 h2; have hlx : (insTo x l p j ++ [x]).length = (insTo x l p j).length + 1 := (by simp))
                  | (at_builtin; refine wpList_app_edge rfl (.tmp 42) (.tmp 47) rfl wo.heap.size _ (insTo x l p j ++ [x]) y w3.heap.size 1 1 rfl (by rw [hlx]; exact HX.out.1.alloc _) rfl rfl (World.alloc_heap_new _ _) (by omega) (by have := HX.out.2.size; simp; omega) ?_; clear hlx; intro v' w4 happ; obtain ⟨g2, cap2, rfl, k1, k2, -⟩ := happ))
                go_roundg (gk - 1)
                case rel =>
                  refine ⟨j + 1, by omega, by go_num, by rw [decide_eq_true (by omega)], ?_, gr_below (bel_alloc HX.out.2 (Nat.le_refl _) _) k2 (Nat.le_refl _) (owns_ge HX.out.1)⟩
                  rw [M.out.2.2]
                  simp only [List.length_append, List.length_cons, List.length_nil] at k1 ⊢
                  exact k1
                case measure => omega
              )
            · have hdn : decide (p < j) = true := decide_eq_true (by omega)
              have M := aside' (And.intro hO (And.intro hbx (show insTo x l p (j + 1) = insTo x l p j ++ [y] from by
                rw [insTo_behind J.out.2.2.2.2.1 hp (by omega) hyj]
                unfold insTo
                rw [if_pos (by omega)])))
              rw [hdn]
              clear hgx hyj hy hO hbx hdn hje
              go_wp2_with fail
              go_big_quiet (fail)
              have hs9 := M.out.2.1.size
              have hW : Below wr.heap.size wr (wr.drewN nq) := bel_drewN (Below.refl _ _) _
              have M9 := aside' (And.intro (owns_belowW M.out.1 hW) (M.out.2.1.trans (hW.mono M.out.2.1.size)))
              have hO9 := M9.out.1
              clear hW
              go_wp2_with (at_builtin; refine wpList_app_edge rfl (.tmp 42) (.tmp 47) rfl wo.heap.size (.slice na (insTo x l p j).length ncap) (insTo x l p j) y wr.heap.size 1 1 rfl (hO9.alloc _) rfl rfl (World.alloc_heap_new _ _) (by omega) (by simp; omega) ?_; intro v' w3 happ; obtain ⟨g', cap', rfl, h1, h2, -⟩ := happ)
              go_roundg (gk - 1)
              case rel =>
                refine ⟨j + 1, by omega, by go_num, by rw [decide_eq_true (by omega)], ?_, gr_below (bel_alloc M9.out.2 (Nat.le_refl _) _) h2 (Nat.le_refl _) (owns_ge M9.out.1)⟩
                rw [M.out.2.2, List.length_append]
                exact h1
              case measure => omega
        · have hjj : j = l.length := by omega
          subst hjj
          have hw0 := J.out.2.1.size
          by_cases hpl : p < l.length
          · have hdn : decide (p < l.length) = true := decide_eq_true hpl
            have hfull : insTo x l p l.length = insE x l := by
              unfold insTo
              rw [if_pos hpl, List.take_of_length_le (by rw [insE_len]; exact Nat.le_refl _)]
            have M := aside' (And.intro hO (And.intro hbx hfull))
            rw [hdn]
            clear hO hbx hfull hdn
            go_wp2_with fail
            go_roundg (gk_outer - 1)
            case rel =>
              refine ⟨k + 1, by have := J.out.2.2.1; omega, by go_num, ?_, J.out.2.1.trans (M.out.2.1.mono J.out.2.1.size)⟩
              rw [J.out.2.2.2.1, ← M.out.2.2]
              exact owns_mono M.out.1 hw0
            case measure => have := J.out.2.2.1; omega
          · have hpe : p = l.length := by omega
            have hdn : decide (p < l.length) = false := decide_eq_false hpl
            have hfull : insE x l = insTo x l p l.length ++ [x] := by
              have h1 := insTo_at J.out.2.2.2.2.1 hp
              rw [hpe] at h1 ⊢
              rw [← h1, List.take_of_length_le (by rw [insE_len]; exact Nat.le_refl _)]
            have M := aside' (And.intro hO (And.intro hbx hfull))
            have hO9 := hO
            rw [hdn]
            clear hO hbx hfull hdn hpe
            go_wp2_with (at_builtin; refine wpList_app_edge rfl (.tmp 51) (.tmp 56) rfl wo.heap.size (.slice na (insTo x l p l.length).length ncap) (insTo x l p l.length) x wr.heap.size 1 1 rfl (hO9.alloc _) rfl rfl (World.alloc_heap_new _ _) (by omega) (by have := M.out.2.1.size; simp; omega) ?_; intro v' w3 happ; obtain ⟨g', cap', rfl, h1, h2, -⟩ := happ)
            go_roundg (gk_outer - 1)
            case rel =>
              refine ⟨k + 1, by have := J.out.2.2.1; omega, by go_num, ?_, J.out.2.1.trans ((gr_below (bel_alloc M.out.2.1 (Nat.le_refl _) _) h2 (Nat.le_refl _) (owns_ge M.out.1)).mono J.out.2.1.size)⟩
              rw [J.out.2.2.2.1, M.out.2.2, List.length_append]
              exact owns_mono h1 hw0
            case measure => have := J.out.2.2.1; omega
    · have hkk : k = E.length := by omega
      subst hkk
      rw [List.take_length] at hle
      have J := aside' (show EdgesPost w (sortedR E) (.returned (.slice oa l.length ocap)) wo from ⟨_, rfl, by rw [hle]; exact hO, hbel⟩)
      clear hO hbel hRl hle hlw
      go_wp2_with fail
      go_ret
      exact J.out

end Go.Proofs.YthidhdffiebbgaaGreatDoor

namespace Go.Proofs.YthidhdffiebbgaaGreatDoor
open Go.BigFrame Go.RowKit Go.Proofs.YthidhdffiebbgaaGreatDoor.Sk

set_option maxRecDepth 100000 in
set_option maxHeartbeats 4000000 in
theorem rtaken_any (n : Value) (V : List Int) (E : List Edg) (w : World) (hn : NetAt w n V E) (hR : Right V E) : Calls Tryz.prog 48 #[n] w (EdgesPost w (forestOf E)) := by
  obtain ⟨vs, es, rfl, hV, hE⟩ := hn.ex
  have hwf : ∀ e ∈ E, e.wf := by obtain ⟨_, _, _, h, _⟩ := hE; exact h
  obtain ⟨va, vcap, rfl, -, -, -⟩ := id hV
  obtain ⟨ea, ecap, rfl, -, -, -⟩ := id hE
  have hb0 : Below w.heap.size w (w.alloc (.cells #[.slice va V.length vcap, .slice ea E.length ecap] 25)) := (Below.refl _ _).alloc (Nat.le_refl _) _
  have hso := rsorted_any _ E _ (hE.below hb0) hR.2.1
  rw [sortedR_eq hR.2.2.2.2.2] at hso
  have hVl := hR.1
  have A : Aside (Below w.heap.size w (w.alloc (.cells #[.slice va V.length vcap, .slice ea E.length ecap] 25)) ∧ RdI w (.slice va V.length vcap) V ∧ Right V E ∧ ∀ e ∈ E, e.wf) := ⟨hb0, hV, hR, hwf⟩
  clear hn hV hE hb0 hR hwf
  go_enter Tryz.func48, Tryz.ntmps48
  go_wp2_with fail
  refine hso.mono ?_
  rintro _ w1 ⟨ev, rfl, hOe, hb1⟩
  have n0 : w1.cell? ⟨w.heap.size, 0, none⟩ = some (.slice va V.length vcap) := by rw [bcell hb1 _ _ (by simp), World.cell?_alloc_at _ _ _ _ rfl]; rfl
  have hz1 : w.heap.size < w1.heap.size := by have := hb1.size; simp at this; omega
  have hSE : ∀ e, e ∈ sortE E ↔ e ∈ E := fun e => (sortE_perm E).mem_iff
  have hSl : (sortE E).length ≤ 2048 := by rw [(sortE_perm E).length_eq]; exact A.out.2.2.1.2.1
  obtain ⟨F, hF⟩ : ∃ F, sortE E = F := ⟨_, rfl⟩
  rw [hF] at hOe hSE hSl
  have hRe : RdE w1 ev F := rdE_of_owns hOe (fun e he => A.out.2.2.2 e ((hSE e).1 he)) (by omega)
  obtain ⟨fa, fcap, rfl, -⟩ := owns_form hOe
  have B := aside' (And.intro (A.out.1.trans (hb1.mono (by simp))) (And.intro hRe (And.intro hF hSE)))
  clear hb1 hso hOe hRe hF hSE
  go_wp2_with fail
  go_loopg [5, 4] V.length (fun g i o wr => ∃ k : Nat, k + g = V.length ∧ i = .int .i64 k ∧ wr.ownsRow w1.heap.size 3 1 o k ((nums k).map (Value.int .i64)) ∧ Below w1.heap.size w1 wr)
  case atStart => exact ⟨0, by omega, rfl, empty_row w1 3 1, (Below.refl _ _).alloc (Nat.le_refl _) _⟩
  case round =>
    obtain ⟨k, hk, rfl, hO, hbel⟩ := hrel
    have m0 := (bcell hbel _ 0 hz1).trans n0
    by_cases hlt : k < V.length
    · obtain ⟨oa, ocap, rfl, -⟩ := owns_form hO
      have K := aside' (And.intro hO hbel)
      have hO' := hO
      have hnl := nums_len k
      clear hO hbel
      go_wp2_with (at_builtin; refine wpList_app_int rfl (.tmp 22) (.tmp 24) rfl w1.heap.size (.slice oa k ocap) (nums k) (k : Int) wr.heap.size 1 1 rfl (by rw [hnl]; exact hO'.alloc _) rfl rfl (World.alloc_heap_new _ _) (by rw [hnl]; omega) (by have := K.out.2.size; simp; omega) ?_; intro v' w3 happ; obtain ⟨g', cap', rfl, h1, h2, -⟩ := happ)
      rw [nums_len] at *
      go_roundg (gk - 1)
      case rel => exact ⟨k + 1, by omega, by go_num, by rw [nums_succ]; exact h1, gr_below (bel_alloc K.out.2 (Nat.le_refl _) _) h2 (Nat.le_refl _) (owns_ge K.out.1)⟩
      case measure => omega
    · have hkk : k = V.length := by omega
      subst hkk
      obtain ⟨w2, rfl⟩ : ∃ w2, w2 = wr := ⟨_, rfl⟩
      obtain ⟨oa, ocap, rfl, hob⟩ := owns_form hO
      have K := aside' (And.intro hO (And.intro hbel (Lab.start (right_nodup A.out.2.2.1))))
      have hsb2 : ∀ b, (Value.slice oa V.length ocap).ownBlock = some b → b < w2.heap.size := fun b hb => (hO.lt b hb).2
      have hz2 : w.heap.size < w2.heap.size := Nat.lt_of_lt_of_le hz1 hbel.size
      clear hO hbel
      go_wp2_with fail
      go_loopg [7, 6] F.length (fun g i o wx => ∃ (k : Nat) (S : List Int), k + g = F.length ∧ i = .int .i64 k ∧ S.length = V.length ∧ Lab V (F.take k) S ∧ wx.ownsRow w1.heap.size 3 1 (.slice oa V.length ocap) V.length (S.map (Value.int .i64)) ∧ wx.ownsRow w2.heap.size 47 4 o (kept (F.take k)).length ((kept (F.take k)).flatMap encE) ∧ Below w1.heap.size w1 wx ∧ w2.heap.size ≤ wx.heap.size)
      case atStart => exact ⟨0, nums V.length, by omega, rfl, nums_len _, K.out.2.2, K.out.1.alloc _, empty_row w2 47 4, bel_alloc K.out.2.1 (Nat.le_refl _) _, by simp⟩
      case round =>
        obtain ⟨k, S, hk, rfl, hSlen, hLab, hO, hOut, hbel, hw2⟩ := hrel
        obtain ⟨gk_outer, hgko⟩ : ∃ q, q = gk := ⟨_, rfl⟩
        rw [← hgko] at hk
        obtain ⟨wo, rfl⟩ : ∃ wo, wo = wr := ⟨_, rfl⟩
        obtain ⟨ua, ucap, rfl, -⟩ := owns_form hOut
        have x0 := (bcell hbel _ 0 hz1).trans n0
        by_cases hlt : k < F.length
        · obtain ⟨-, -, eb, eoff, hea, heb, g0, g1, g2, g3⟩ := (B.out.2.1.below hbel).get hlt
          subst hea
          obtain ⟨e, he⟩ : ∃ e, F[k] = e := ⟨_, rfl⟩
          rw [he] at g0 g1 g2 g3
          have hok := A.out.2.2.1.2.2.2.1 e ((B.out.2.2.2 e).1 (he ▸ List.getElem_mem hlt))
          obtain ⟨iu, hiu, hiu1, hiu2⟩ := place_of (right_nodup A.out.2.2.1) hok.2.2.1
          obtain ⟨iv, hiv, hiv1, hiv2⟩ := place_of (right_nodup A.out.2.2.1) hok.2.2.2
          obtain ⟨ob, rfl⟩ := hob (by omega)
          obtain ⟨a, ha⟩ : ∃ a, S[iu]? = some a := ⟨_, List.getElem?_eq_getElem (by omega)⟩
          obtain ⟨b, hb⟩ : ∃ b, S[iv]? = some b := ⟨_, List.getElem?_eq_getElem (by omega)⟩
          have ca : wo.cell? ⟨ob, iu, none⟩ = some (.int .i64 a) := by rw [hO.cellAt iu (by omega), List.getElem?_map, ha]; rfl
          have cb : wo.cell? ⟨ob, iv, none⟩ = some (.int .i64 b) := by rw [hO.cellAt iv (by omega), List.getElem?_map, hb]; rfl
          have hbw := B.out.1.trans (hbel.mono B.out.1.size)
          have PU : Aside (∀ W, Below wo.heap.size wo W → Calls Tryz.prog 45 #[.slice va V.length vcap, .int .i64 e.u] W fun r w' => r = .returned (.int .i64 iu) ∧ W = w') := fun W hW => place_at _ V e.u iu W (A.out.2.1.below (hbw.trans (hW.mono hbw.size))) hiu1 hiu2
          have PV : Aside (∀ W, Below wo.heap.size wo W → Calls Tryz.prog 45 #[.slice va V.length vcap, .int .i64 e.v] W fun r w' => r = .returned (.int .i64 iv) ∧ W = w') := fun W hW => place_at _ V e.v iv W (A.out.2.1.below (hbw.trans (hW.mono hbw.size))) hiv1 hiv2
          have hsn : F.take (k + 1) = F.take k ++ [e] := by rw [List.take_succ_eq_append_getElem hlt, he]
          have hsame := hLab.same iu iv e.u e.v hiu1 hiv1
          rw [ha, hb] at hsame
          have hkp := kept_snoc (F.take k) e
          have hkl : (kept (F.take k)).length ≤ 2048 := by have := kept_le (F.take k); rw [List.length_take] at this; omega
          have hjoin := hLab.join (a := a) (b := b) hiu1 hiv1 (.inl ⟨ha, hb⟩)
          have hob2 : ob < w2.heap.size := hsb2 ob rfl
          have hge : w1.heap.size ≤ ob := (hO.lt ob rfl).1
          by_cases hab : a = b
          · have hne : (a != b) = false := by simp [hab]
            rw [if_pos (connB_iff.2 (hsame.1 (by rw [hab])))] at hkp
            have J := aside' (show Lab V (F.take (k + 1)) S ∧ kept (F.take (k + 1)) = kept (F.take k) ∧ k + gk_outer = F.length ∧ S.length = V.length from ⟨by rw [hsn]; rw [hab, relab_self] at hjoin; exact hjoin, by rw [hsn]; exact hkp, hk, hSlen⟩)
            have M := aside' (And.intro hO (And.intro hOut (And.intro hbel hw2)))
            clear hLab hO hOut hbel hsn hiu1 hiv1 hiu2 hiv2 ha hb hok he hk hSlen hsame hkp hab hjoin hbw
            go_wp2_with fail
            go_big_quiet (first
              | (go_at_call 45; with_reducible exact q_same' (PU.out _ (bel_drewN (Below.refl _ _) _)) ⟨_, rfl⟩)
              | (go_at_call 45; with_reducible exact q_same' (PV.out _ (bel_drewN (Below.refl _ _) _)) ⟨_, rfl⟩))
            go_wp2_with fail
            have hW : Below wo.heap.size wo (wo.drewN nq) := bel_drewN (Below.refl _ _) _
            go_roundg (gk_outer - 1)
            case rel => exact ⟨k + 1, S, by have := J.out.2.2.1; omega, by go_num, J.out.2.2.2, J.out.1, owns_belowW M.out.1 hW, by rw [J.out.2.1]; exact owns_belowW M.out.2.1 hW, bel_drewN M.out.2.2.1 _, M.out.2.2.2⟩
            case measure => have := J.out.2.2.1; omega
          · have hne : (a != b) = true := by simp [hab]
            rw [if_neg (fun h => hab (by have := hsame.2 (connB_iff.1 h); simpa using this))] at hkp
            have J := aside' (show Lab V (F.take (k + 1)) (relab S a b) ∧ kept (F.take (k + 1)) = kept (F.take k) ++ [e] ∧ k + gk_outer = F.length ∧ S.length = V.length from ⟨by rw [hsn]; exact hjoin, by rw [hsn]; exact hkp, hk, hSlen⟩)
            have M := aside' (And.intro hO (And.intro hOut (And.intro hbel hw2)))
            clear hLab hO hOut hbel hsn hiu1 hiv1 hiu2 hiv2 ha hb hok he hk hSlen hsame hkp hab hjoin hbw
            go_wp2_with fail
            go_big_quiet (first
              | (go_at_call 45; with_reducible exact q_same' (PU.out _ (bel_drewN (Below.refl _ _) _)) ⟨_, rfl⟩)
              | (go_at_call 45; with_reducible exact q_same' (PV.out _ (bel_drewN (Below.refl _ _) _)) ⟨_, rfl⟩))
            have hW : Below wo.heap.size wo (wo.drewN nq) := bel_drewN (Below.refl _ _) _
            have hOut9 := owns_belowW M.out.2.1 hW
            have hs9 := M.out.2.2.2
            clear ca cb
            go_wp2_with (at_builtin; refine wpList_app_edge rfl (.tmp 58) (.tmp 63) rfl w2.heap.size (.slice ua (kept (F.take k)).length ucap) (kept (F.take k)) e wo.heap.size 1 1 rfl (hOut9.alloc _) rfl rfl (World.alloc_heap_new _ _) (by omega) (by simp; omega) ?_; intro v' w3 happ; obtain ⟨g', cap', rfl, h1, h2, h3⟩ := happ)
            have hgs : ∀ b, (Value.slice ua (kept (F.take k)).length ucap).ownBlock = some b → w2.heap.size ≤ b := owns_ge M.out.2.1
            have hs3 : w2.heap.size ≤ w3.heap.size := by have := h2.size; simp at this; omega
            have hS3 : w3.ownsRow w1.heap.size 3 1 (.slice (some ⟨ob, 0, none⟩) V.length ocap) V.length (S.map (Value.int .i64)) := by
              refine World.ownsRow.kept (World.ownsRow.alloc (owns_belowW M.out.1 hW) _) h2 (.inr ?_)
              intro hh
              have := hgs ob hh.symm
              omega
            have hB3 : Below w1.heap.size w1 w3 := gr_below (bel_alloc (bel_drewN M.out.2.2.1 nq) (Nat.le_refl _) _) h2 (Nat.le_refl _) (fun b hb => Nat.le_trans (by have := K.out.2.1.size; omega) (hgs b hb))
            have hg2 : w2.heap.size ≤ g' := owns_ge h1 g' rfl
            have N := aside' (And.intro hS3 (And.intro hB3 (And.intro h1 (And.intro hs3 hg2))))
            have hLS : S.length = V.length := J.out.2.2.2
            clear hS3 hB3 h1 hs3 hg2 hgs h2 h3 hOut9 hs9 hW M g0 g1 g2 g3
            go_wp2_with fail
            go_loopg [10] V.length (fun g c wy => ∃ (j : Nat), j + g = V.length ∧ c = .int .i64 j ∧ wy.ownsRow w1.heap.size 3 1 (.slice (some ⟨ob, 0, none⟩) V.length ocap) V.length ((rowAt S a b j).map (Value.int .i64)) ∧ Below w1.heap.size w1 wy ∧ wy.ownsRow w2.heap.size 47 4 (.slice (some ⟨g', 0, none⟩) ((kept (F.take k)).length + 1) cap') ((kept (F.take k)).length + 1) ((kept (F.take k) ++ [e]).flatMap encE) ∧ w2.heap.size ≤ wy.heap.size)
            case atStart => exact ⟨0, by omega, rfl, by rw [rowAt_zero]; exact N.out.1, N.out.2.1, N.out.2.2.1, N.out.2.2.2.1⟩
            case round =>
              obtain ⟨j, hj, rfl, hO, hbel, hOut, hsy⟩ := hrel
              by_cases hlj : j < V.length
              · have hSl : j < S.length := by omega
                obtain ⟨y, hy⟩ : ∃ y, S[j]? = some y := ⟨_, List.getElem?_eq_getElem hSl⟩
                have cy : wr.cell? ⟨ob, j, none⟩ = some (.int .i64 y) := by rw [hO.cellAt j (by omega), List.getElem?_map, rowAt_get hSl, hy]; rfl
                have hfz := hO.frozenAt j
                have hst := hO.stored j (.int .i64 a)
                by_cases hyb : y = b
                · have hyt : (y == b) = true := by simp [hyb]
                  have R := aside' (And.intro (show (wr.setCell ⟨ob, j, none⟩ (.int .i64 a)).ownsRow w1.heap.size 3 1 (.slice (some ⟨ob, 0, none⟩) V.length ocap) V.length ((rowAt S a b (j + 1)).map (Value.int .i64)) from by rw [← rowAt_set hSl (hyb ▸ hy), List.map_set]; exact hst.1) (And.intro (hbel.setCell (p := ⟨ob, j, none⟩) (hO.lt ob rfl).1 (.int .i64 a)) (And.intro (hOut.kept (set_grown wr ob j (.int .i64 a)) (.inr (by intro hh; have hh' : g' = ob := (Option.some.inj hh); have := N.out.2.2.2.2; omega))) (show w2.heap.size ≤ (wr.setCell ⟨ob, j, none⟩ (.int .i64 a)).heap.size from Nat.le_trans hsy (set_grown wr ob j (.int .i64 a)).size))))
                  clear hO hbel hst hyb hy hSl hOut hsy
                  go_wp2_with fail
                  go_roundg (gk - 1)
                  case rel => exact ⟨j + 1, by omega, by go_num, R.out.1, R.out.2⟩
                  case measure => omega
                · have hyt : (y == b) = false := by simp [hyb]
                  have R := aside' (And.intro (rowAt_skip (a := a) hSl hy hyb ▸ hO) (And.intro hbel (And.intro hOut hsy)))
                  clear hO hbel hst hyb hy hSl hOut hsy
                  go_wp2_with fail
                  go_roundg (gk - 1)
                  case rel => exact ⟨j + 1, by omega, by go_num, R.out.1, R.out.2⟩
                  case measure => omega
              · have hjj : j = S.length := by omega
                rw [hjj, rowAt_all] at hO
                have R := aside' (And.intro hO (And.intro hbel (And.intro hOut hsy)))
                clear hO hbel hjj hOut hsy
                go_wp2_with fail
                go_roundg (gk_outer - 1)
                case rel => exact ⟨k + 1, relab S a b, by have := J.out.2.2.1; omega, by go_num, by rw [relab_len]; exact hLS, J.out.1, R.out.1, by rw [J.out.2.1, List.length_append]; exact R.out.2.2.1, R.out.2.1, R.out.2.2.2⟩
                case measure => have := J.out.2.2.1; omega
        · have hkk : k = F.length := by omega
          subst hkk
          rw [List.take_length] at hOut
          have J1 := aside' (show EdgesPost w (forestOf E) (.returned (.slice ua (kept F).length ucap)) wo from ⟨_, rfl, by unfold forestOf; rw [B.out.2.2.1]; exact owns_mono hOut (Nat.le_of_lt hz2), B.out.1.trans (hbel.mono B.out.1.size)⟩)
          clear hLab hO hbel hOut
          go_wp2_with fail
          go_ret
          rw [List.take_length]
          exact J1.out

end Go.Proofs.YthidhdffiebbgaaGreatDoor

namespace Go.Proofs.YthidhdffiebbgaaGreatDoor
open Go.BigFrame Go.RowKit Go.Proofs.YthidhdffiebbgaaGreatDoor.Sk

theorem insI_len (x : Int) (l : List Int) : (insI x l).length = l.length + 1 := by simpa using (insI_perm x l).length_eq

/-- how far the new row has come behind j of the old one's numbers: p is x's place -/
def insToI (x : Int) (l : List Int) (p j : Nat) : List Int := (insI x l).take (if p < j then j + 1 else j)

theorem insToI_before {x y : Int} {l : List Int} {p j : Nat} (hI : insI x l = l.take p ++ x :: l.drop p) (hp : p ≤ l.length) (hj : j < p) (hy : l[j]? = some y) : insToI x l p (j + 1) = insToI x l p j ++ [y] := by
  obtain ⟨hjl, hy'⟩ := List.getElem?_eq_some_iff.1 hy
  unfold insToI
  rw [if_neg (by omega), if_neg (by omega), hI, List.take_append_of_le_length (by rw [List.length_take]; omega), List.take_append_of_le_length (by rw [List.length_take]; omega), List.take_take, List.take_take,
    Nat.min_eq_left (by omega), Nat.min_eq_left (by omega), List.take_succ_eq_append_getElem hjl, hy']

theorem insToI_at {x : Int} {l : List Int} {p : Nat} (hI : insI x l = l.take p ++ x :: l.drop p) (hp : p ≤ l.length) : (insI x l).take (p + 1) = insToI x l p p ++ [x] := by
  unfold insToI
  have h1 : (l.take p).length = p := by rw [List.length_take]; omega
  rw [if_neg (by omega), hI]
  have e1 : p + 1 - p = 1 := by omega
  have a1 : (l.take p ++ x :: l.drop p).take (p + 1) = l.take p ++ [x] := by
    rw [List.take_append, h1, e1, List.take_of_length_le (by omega)]
    rfl
  have a2 : (l.take p ++ x :: l.drop p).take p = l.take p := by
    rw [List.take_append_of_le_length (by omega), List.take_of_length_le (by omega)]
  rw [a1, a2]

theorem insToI_behind {x y : Int} {l : List Int} {p j : Nat} (hI : insI x l = l.take p ++ x :: l.drop p) (hp : p ≤ l.length) (hj : p ≤ j) (hy : l[j]? = some y) : insToI x l p (j + 1) = (insI x l).take (j + 1) ++ [y] := by
  obtain ⟨hjl, hy'⟩ := List.getElem?_eq_some_iff.1 hy
  unfold insToI
  rw [if_pos (by omega)]
  have hlt : j + 1 < (insI x l).length := by rw [insI_len]; omega
  rw [List.take_succ_eq_append_getElem hlt]
  have : (insI x l)[j + 1]? = some y := by
    have h1 : (l.take p).length = p := by rw [List.length_take]; omega
    rw [hI, List.getElem?_append_right (by omega), h1]
    have e1 : j + 1 - p = (j - p) + 1 := by omega
    rw [e1, List.getElem?_cons_succ, List.getElem?_drop]
    have e2 : p + (j - p) = j := by omega
    rw [e2, hy]
  obtain ⟨_, h2⟩ := List.getElem?_eq_some_iff.1 this
  rw [h2]

theorem insToI_len (x : Int) (l : List Int) (p j : Nat) : (insToI x l p j).length ≤ l.length + 1 := by
  unfold insToI
  rw [List.length_take, insI_len]
  omega

/-- what a call leaves that answers one row of numbers of its own -/
def NumsPost (w : World) (zs : List Int) (e : Ending) (w' : World) : Prop :=
  ∃ v, e = .returned v ∧ w'.ownsRow w.heap.size 3 1 v zs.length (zs.map (Value.int .i64)) ∧ Below w.heap.size w w'

set_option maxRecDepth 100000 in
set_option maxHeartbeats 2000000 in
theorem rwith_any (av : Value) (l : List Int) (x : Int) (w : World) (hA : RdI w av l) (hl : l.length ≤ 2048) : Calls Tryz.prog 49 #[av, .int .i64 x] w (NumsPost w (insI x l)) := by
  obtain ⟨aa, acap, rfl, hwf, he32, -⟩ := id hA
  have A := aside' hA
  obtain ⟨p, hp, hp1, hp2, hI⟩ := insI_place x l
  have J := aside' (And.intro hI (And.intro hp1 hp2))
  clear hA hwf hI hp1 hp2
  go_enter Tryz.func49, Tryz.ntmps49
  go_wp2_with fail
  go_loopg [7, 5, 6] l.length (fun g c nx dn wx => ∃ j : Nat, j + g = l.length ∧ c = .int .i64 j ∧ dn = .bool (decide (p < j)) ∧ wx.ownsRow w.heap.size 3 1 nx (insToI x l p j).length ((insToI x l p j).map (Value.int .i64)) ∧ Below w.heap.size w wx)
  case atStart => exact ⟨0, by omega, rfl, by simp, by
    have : insToI x l p 0 = [] := by unfold insToI; rw [if_neg (by omega)]; rfl
    rw [this]
    exact empty_row w 3 1, (Below.refl _ _).alloc (Nat.le_refl _) _⟩
  case round =>
    obtain ⟨j, hj, rfl, rfl, hO, hbx⟩ := hrel
    have hnl := insToI_len x l p j
    obtain ⟨na, ncap, rfl, -⟩ := owns_form hO
    by_cases hlj : j < l.length
    · obtain ⟨-, -, ob, ooff, hoe, hobo, g0⟩ := A.out.get hlj
      subst hoe
      obtain ⟨y, hy⟩ : ∃ y, l[j] = y := ⟨_, rfl⟩
      rw [hy] at g0
      have c0 := (bcell hbx _ _ hobo).trans g0
      have G0 := aside' g0
      clear g0
      have hyj : l[j]? = some y := by rw [List.getElem?_eq_getElem hlj, hy]
      by_cases hjp : j < p
      · have hdn : decide (p < j) = false := decide_eq_false (by omega)
        have hah : (x < y) = False := eq_false (by have := J.out.2.1 y (by rw [List.mem_take_iff_getElem]; exact ⟨j, by omega, hy⟩); omega)
        have M := aside' (And.intro hO (And.intro hbx (insToI_before J.out.1 hp hjp hyj)))
        have hO9 := hO
        have hs9 := hbx.size
        rw [hdn]
        clear hyj hy hO hbx hdn
        go_wp2_with (at_builtin; refine wpList_app_int rfl (.tmp 29) (.tmp 34) rfl w.heap.size (.slice na (insToI x l p j).length ncap) (insToI x l p j) y wr.heap.size 1 1 rfl (hO9.alloc _) rfl rfl (World.alloc_heap_new _ _) (by omega) (by simp; omega) ?_; intro v' w3 happ; obtain ⟨g', cap', rfl, h1, h2, -⟩ := happ)
        go_roundg (gk - 1)
        case rel =>
          refine ⟨j + 1, by omega, by go_num, by rw [decide_eq_false (by omega)], ?_, gr_below (bel_alloc M.out.2.1 (Nat.le_refl _) _) h2 (Nat.le_refl _) (owns_ge M.out.1)⟩
          rw [M.out.2.2, List.length_append]
          exact h1
        case measure => omega
      · by_cases hje : j = p
        · have hdn : decide (p < j) = false := decide_eq_false (by omega)
          have hah : (x < y) = True := eq_true (by have := J.out.2.2 y (hje ▸ hyj); omega)
          have M := aside' (And.intro hO (And.intro hbx (show insToI x l p (j + 1) = (insToI x l p j ++ [x]) ++ [y] from by
            rw [insToI_behind J.out.1 hp (by omega) hyj]
            subst hje
            rw [insToI_at J.out.1 hp])))
          have hO9 := hO
          have hs9 := hbx.size
          have hobw := hobo
          rw [hdn]
          clear hyj hO hbx hdn hje
          go_wp2_with (first
            | (at_builtin; refine wpList_app_int rfl (.tmp 25) (.tmp 27) rfl w.heap.size (.slice na (insToI x l p j).length ncap) (insToI x l p j) x wr.heap.size 1 1 rfl (hO9.alloc _) rfl rfl (World.alloc_heap_new _ _) (by omega) (by simp; omega) ?_; intro v' w3 happ; obtain ⟨g', cap', rfl, h1, h2, -⟩ := happ; have HX := aside' (And.intro h1 (gr_below (bel_alloc M.out.2.1 (Nat.le_refl _) _) h2 (Nat.le_refl _) (owns_ge M.out.1))); have c0 : w3.cell? ⟨ob, ooff + j, none⟩ = some (.int .i64 y) := (bcell HX.out.2 _ _ hobo).trans G0.out; have hlx : (insToI x l p j ++ [x]).length = (insToI x l p j).length + 1 := (by simp); have hs3 := HX.out.2.size)
            | (at_builtin; refine wpList_app_int rfl (.tmp 29) (.tmp 34) rfl w.heap.size (.slice (some ⟨g', 0, none⟩) (insToI x l p j ++ [x]).length cap') (insToI x l p j ++ [x]) y w3.heap.size 1 1 (by rw [hlx]; rfl) (World.ownsRow.alloc (by rw [hlx]; exact HX.out.1) _) rfl rfl (World.alloc_heap_new _ _) (by omega) (by simp; omega) ?_; intro v'' w4 happ; obtain ⟨g'', cap'', rfl, k1, k2, -⟩ := happ))
          go_roundg (gk - 1)
          case rel =>
            refine ⟨j + 1, by omega, by go_num, by rw [decide_eq_true (by omega)], ?_, gr_below (bel_alloc HX.out.2 (Nat.le_refl _) _) k2 (Nat.le_refl _) (fun b hb => owns_ge HX.out.1 b hb)⟩
            rw [M.out.2.2]
            simp only [List.length_append, List.length_cons, List.length_nil] at k1 ⊢
            exact k1
          case measure => omega
        · have hdn : decide (p < j) = true := decide_eq_true (by omega)
          have M := aside' (And.intro hO (And.intro hbx (show insToI x l p (j + 1) = insToI x l p j ++ [y] from by
            rw [insToI_behind J.out.1 hp (by omega) hyj]
            unfold insToI
            rw [if_pos (by omega)])))
          have hO9 := hO
          have hs9 := hbx.size
          rw [hdn]
          clear hyj hy hO hbx hdn hje
          go_wp2_with (at_builtin; refine wpList_app_int rfl (.tmp 29) (.tmp 34) rfl w.heap.size (.slice na (insToI x l p j).length ncap) (insToI x l p j) y wr.heap.size 1 1 rfl (hO9.alloc _) rfl rfl (World.alloc_heap_new _ _) (by omega) (by simp; omega) ?_; intro v' w3 happ; obtain ⟨g', cap', rfl, h1, h2, -⟩ := happ)
          go_roundg (gk - 1)
          case rel =>
            refine ⟨j + 1, by omega, by go_num, by rw [decide_eq_true (by omega)], ?_, gr_below (bel_alloc M.out.2.1 (Nat.le_refl _) _) h2 (Nat.le_refl _) (owns_ge M.out.1)⟩
            rw [M.out.2.2, List.length_append]
            exact h1
          case measure => omega
    · have hjj : j = l.length := by omega
      subst hjj
      by_cases hpl : p < l.length
      · have hdn : decide (p < l.length) = true := decide_eq_true hpl
        have hfull : insToI x l p l.length = insI x l := by
          unfold insToI
          rw [if_pos hpl, List.take_of_length_le (by rw [insI_len]; exact Nat.le_refl _)]
        have M := aside' (And.intro hO (And.intro hbx hfull))
        rw [hdn]
        clear hO hbx hfull hdn
        go_wp2_with fail
        go_ret
        exact ⟨_, rfl, by rw [← M.out.2.2]; exact M.out.1, M.out.2.1⟩
      · have hpe : p = l.length := by omega
        have hdn : decide (p < l.length) = false := decide_eq_false hpl
        have hfull : insI x l = insToI x l p l.length ++ [x] := by
          have h1 := insToI_at J.out.1 hp
          rw [hpe] at h1 ⊢
          rw [← h1, List.take_of_length_le (by rw [insI_len]; exact Nat.le_refl _)]
        have M := aside' (And.intro hO (And.intro hbx hfull))
        have hO9 := hO
        have hs9 := hbx.size
        rw [hdn]
        clear hO hbx hfull hdn hpe
        go_wp2_with (at_builtin; refine wpList_app_int rfl (.tmp 38) (.tmp 40) rfl w.heap.size (.slice na (insToI x l p l.length).length ncap) (insToI x l p l.length) x wr.heap.size 1 1 rfl (hO9.alloc _) rfl rfl (World.alloc_heap_new _ _) (by omega) (by simp; omega) ?_; intro v' w3 happ; obtain ⟨g', cap', rfl, h1, h2, -⟩ := happ)
        go_ret
        refine ⟨_, rfl, ?_, gr_below (bel_alloc M.out.2.1 (Nat.le_refl _) _) h2 (Nat.le_refl _) (owns_ge M.out.1)⟩
        rw [M.out.2.2, List.length_append]
        exact h1

end Go.Proofs.YthidhdffiebbgaaGreatDoor

namespace Go.Proofs.YthidhdffiebbgaaGreatDoor
open Go.BigFrame Go.RowKit Go.Proofs.YthidhdffiebbgaaGreatDoor.Sk

set_option maxRecDepth 100000 in
set_option maxHeartbeats 2000000 in
theorem rforest_any (n : Value) (V : List Int) (E : List Edg) (w : World) (hn : NetAt w n V E) :
    Calls Tryz.prog 15 #[n] w (IdsPost w (forestIds V E) (checkN V E)) := by
  obtain ⟨vs, es, rfl, hV, hE⟩ := hn.ex
  have hwf : ∀ e ∈ E, e.wf := by obtain ⟨_, _, _, h, _⟩ := hE; exact h
  have hb0 : Below w.heap.size w (w.alloc (.cells #[vs, es] 25)) := (Below.refl _ _).alloc (Nat.le_refl _) _
  have hck := rcheck_any _ V E _ (hn.below hb0)
  have A : Aside (Below w.heap.size w (w.alloc (.cells #[vs, es] 25)) ∧ NetAt w (.agg #[vs, es]) V E ∧ ∀ e ∈ E, e.wf) := ⟨hb0, hn, hwf⟩
  clear hn hV hE hb0 hwf
  go_enter Tryz.func15, Tryz.ntmps15
  go_wp2_with fail
  refine hck.mono ?_
  rintro _ w1 ⟨rfl, hb1⟩
  have B := aside' (A.out.1.trans (hb1.mono (by simp)))
  by_cases hR : Right V E
  · rw [checkN_ok hR]
    have n0 : w1.cell? ⟨w.heap.size, 0, none⟩ = some vs := by rw [bcell hb1 _ _ (by simp), World.cell?_alloc_at _ _ _ _ rfl]; rfl
    have n1 : w1.cell? ⟨w.heap.size, 1, none⟩ = some es := by rw [bcell hb1 _ _ (by simp), World.cell?_alloc_at _ _ _ _ rfl]; rfl
    have hF := rtaken_any _ V E w1 (A.out.2.1.below B.out) hR
    have R := aside' (And.intro hR (show forestIds V E = sortI ((forestOf E).map Edg.id) from if_pos hR))
    clear hck hb1 hR
    go_wp2_with fail
    refine hF.mono ?_
    rintro _ w2 ⟨fv, rfl, hO, hb2⟩
    have hwfF := wf_sub A.out.2.2
    have hRd := rdE_of_owns hO hwfF (by have := forestOf_le E; have := R.out.1.2.1; omega)
    have hlen : (forestOf E).length ≤ 2048 := by have := forestOf_le E; have := R.out.1.2.1; omega
    obtain ⟨F, hFe⟩ : ∃ F, forestOf E = F := ⟨_, rfl⟩
    rw [hFe] at hRd hlen hO
    obtain ⟨fa, fcap, rfl, _⟩ := owns_form hO
    have C := aside' (And.intro hRd (And.intro (B.out.trans (hb2.mono B.out.size)) hFe))
    clear hRd hb2 hFe hO hF hwfF n0 n1
    go_wp2_with fail
    go_loopg [7, 6] F.length (fun g i o wr => ∃ k : Nat, k + g = F.length ∧ i = .int .i64 k ∧ wr.ownsRow w.heap.size 3 1 o (sortedI ((F.take k).map Edg.id)).length ((sortedI ((F.take k).map Edg.id)).map (Value.int .i64)) ∧ Below w.heap.size w wr ∧ Below w2.heap.size w2 wr)
    case atStart => exact ⟨0, by omega, rfl, owns_mono (empty_row w2 3 1) C.out.2.1.size, C.out.2.1.alloc C.out.2.1.size _, (Below.refl _ _).alloc (Nat.le_refl _) _⟩
    case round =>
      obtain ⟨k, hk, rfl, hO, hbel, hbel2⟩ := hrel
      obtain ⟨wo, rfl⟩ : ∃ wo, wo = wr := ⟨_, rfl⟩
      have hsl : (sortedI ((F.take k).map Edg.id)).length ≤ 2048 := by rw [(sortedI_both _).1.length_eq, List.length_map, List.length_take]; omega
      have hswf : ∀ x ∈ sortedI ((F.take k).map Edg.id), wf64 x := fun x hx => by
        have hx' := (sortedI_both _).1.mem_iff.1 hx
        obtain ⟨e, he, rfl⟩ := List.mem_map.1 hx'
        have he' : e ∈ F := List.mem_of_mem_take he
        exact (A.out.2.2 e (forestOf_sub E e (C.out.2.2 ▸ he'))).1
      obtain ⟨l, hle⟩ : ∃ l, sortedI ((F.take k).map Edg.id) = l := ⟨_, rfl⟩
      rw [hle] at hO hsl hswf
      have hRI := rdI_own hO hswf (by omega)
      obtain ⟨oa, ocap, rfl, -⟩ := owns_form hO
      by_cases hlt : k < F.length
      · obtain ⟨-, hew, b, off, rfl, hb, g0, g1, g2, g3⟩ := (C.out.1.below hbel2).get hlt
        obtain ⟨e, hx⟩ : ∃ e, F[k] = e := ⟨_, rfl⟩
        rw [hx] at g0 g1 g2 g3 hew
        have hsn : F.take (k + 1) = F.take k ++ [e] := by rw [List.take_succ_eq_append_getElem hlt, hx]
        have hwi := rwith_any _ _ e.id wo hRI hsl
        have J := aside' (And.intro hbel (And.intro hbel2 (show sortedI ((F.take (k + 1)).map Edg.id) = insI e.id l from by rw [hsn, List.map_append, ← hle]; exact sortedI_snoc _ _)))
        clear hle hO hbel hbel2 hRI hswf hsn hew hx hsl
        go_wp2_with fail
        refine hwi.mono ?_
        rintro _ w4 ⟨v4, rfl, h4, hb4⟩
        have K := aside' (And.intro h4 hb4)
        clear h4 hb4 hwi
        go_wp2_with fail
        go_roundg (gk - 1)
        case rel => exact ⟨k + 1, by omega, by go_num, by rw [J.out.2.2]; exact owns_mono K.out.1 J.out.1.size, J.out.1.trans (K.out.2.mono J.out.1.size), J.out.2.1.trans (K.out.2.mono J.out.2.1.size)⟩
        case measure => omega
      · have hkk : k = F.length := by omega
        subst hkk
        rw [List.take_length, sortedI_eq] at hle
        have J := aside' (show IdsPost w (forestIds V E) (checkN V E) (.returned (.tuple #[.slice oa l.length ocap, .int .i64 0])) wo from ⟨_, by rw [checkN_ok R.out.1], by rw [R.out.2, C.out.2.2, hle]; exact hO, hbel⟩)
        clear hO hbel hbel2 hRI hswf hsl hle
        go_wp2_with fail
        go_ret2
        exact J.out
  · have K := aside' (And.intro (checkN_no hR) (show forestIds V E = [] from if_neg hR))
    rw [checkN_no hR]
    clear hR hck hb1
    go_wp2_with fail
    go_ret2
    exact ⟨.slice none 0 0, by rw [K.out.1]; rfl, by rw [K.out.2]; exact World.ownsRow_nil _ _ _ _, B.out⟩

set_option maxRecDepth 100000 in
set_option maxHeartbeats 2000000 in
theorem rsum_any (es : Value) (V : List Int) (F : List Edg) (w : World) (hF : RdE w es F) (hl : F.length ≤ 2048) (hok : ∀ e ∈ F, okE V e) :
    Calls Tryz.prog 55 #[es] w fun e w' => e = .returned (.int .i64 (sumW F)) ∧ w = w' := by
  obtain ⟨fa, fcap, rfl, -, -, -⟩ := id hF
  have C := aside' (And.intro hF hok)
  clear hF hok
  go_enter Tryz.func55, Tryz.ntmps55
  go_wp2_with fail
  go_loopg [4, 3] F.length (fun g i s wr => ∃ k : Nat, k + g = F.length ∧ i = .int .i64 k ∧ s = .int .i64 (sumW (F.take k)) ∧ wr = w)
  case atStart => exact ⟨0, by omega, rfl, rfl, rfl⟩
  case round =>
    obtain ⟨k, hk, rfl, rfl, rfl⟩ := hrel
    by_cases hlt : k < F.length
    · obtain ⟨_, hew, b, off, rfl, hb, g0, g1, g2, g3⟩ := C.out.1.get hlt
      obtain ⟨e, hx⟩ : ∃ e, F[k] = e := ⟨_, rfl⟩
      rw [hx] at g0 g1 g2 g3 hew
      have hsnoc : F.take (k + 1) = F.take k ++ [e] := by rw [List.take_succ_eq_append_getElem hlt, hx]
      have hs := sumW_snoc (F.take k) e
      rw [← hsnoc] at hs
      have hbd := sumW_bounds (V := V) (F.take (k + 1)) fun e he => C.out.2 e (List.mem_of_mem_take he)
      have hle : (F.take (k + 1)).length ≤ 2048 := by simp; omega
      obtain ⟨s, hse⟩ : ∃ s, sumW (F.take k) = s := ⟨_, rfl⟩
      rw [hse] at hs ⊢
      rw [hs] at hbd
      have hb2 : s + e.w ≤ 2251799813685248 := by omega
      have hb1 := hbd.1
      have D := aside' hs
      clear hs hse hx hbd hsnoc hle hew
      go_wp2_with fail
      go_roundg (gk - 1)
      case rel => exact ⟨k + 1, by omega, by go_num, by rw [D.out], rfl⟩
      case measure => omega
    · have hkk : k = F.length := by omega
      subst hkk
      rw [List.take_length]
      go_wp2_with fail
      go_ret
      exact ⟨rfl, rfl⟩

set_option maxRecDepth 100000 in
set_option maxHeartbeats 2000000 in
theorem rweight_any (n : Value) (V : List Int) (E : List Edg) (w : World) (hn : NetAt w n V E) :
    Calls Tryz.prog 17 #[n] w fun e w' => e = .returned (.tuple #[.int .i64 (weightA V E).1, .int .i64 (weightA V E).2]) ∧ Below w.heap.size w w' := by
  obtain ⟨vs, es, rfl, hV, hE⟩ := hn.ex
  have hwf : ∀ e ∈ E, e.wf := by obtain ⟨_, _, _, h, _⟩ := hE; exact h
  have hb0 : Below w.heap.size w (w.alloc (.cells #[vs, es] 25)) := (Below.refl _ _).alloc (Nat.le_refl _) _
  have hck := rcheck_any _ V E _ (hn.below hb0)
  have A : Aside (Below w.heap.size w (w.alloc (.cells #[vs, es] 25)) ∧ NetAt w (.agg #[vs, es]) V E ∧ ∀ e ∈ E, e.wf) := ⟨hb0, hn, hwf⟩
  clear hn hV hE hb0 hwf
  go_enter Tryz.func17, Tryz.ntmps17
  go_wp2_with fail
  refine hck.mono ?_
  rintro _ w1 ⟨rfl, hb1⟩
  have B := aside' (A.out.1.trans (hb1.mono (by simp)))
  by_cases hR : Right V E
  · rw [checkN_ok hR]
    have n0 : w1.cell? ⟨w.heap.size, 0, none⟩ = some vs := by rw [bcell hb1 _ _ (by simp), World.cell?_alloc_at _ _ _ _ rfl]; rfl
    have n1 : w1.cell? ⟨w.heap.size, 1, none⟩ = some es := by rw [bcell hb1 _ _ (by simp), World.cell?_alloc_at _ _ _ _ rfl]; rfl
    have hF := rtaken_any _ V E w1 (A.out.2.1.below B.out) hR
    have R := aside' (And.intro hR (show weightA V E = (bsum (sumW (forestOf E)), berr (sumW (forestOf E))) from if_pos hR))
    clear hck hb1 hR
    go_wp2_with fail
    refine hF.mono ?_
    rintro _ w2 ⟨fv, rfl, hO, hb2⟩
    have hwfF := wf_sub A.out.2.2
    have hRd := rdE_of_owns hO hwfF (by have := forestOf_le E; have := R.out.1.2.1; omega)
    have hlen : (forestOf E).length ≤ 2048 := by have := forestOf_le E; have := R.out.1.2.1; omega
    obtain ⟨F, hFe⟩ : ∃ F, forestOf E = F := ⟨_, rfl⟩
    have hok : ∀ e ∈ F, okE V e := fun e he => R.out.1.2.2.2.1 e (forestOf_sub E e (hFe ▸ he))
    rw [hFe] at hRd hlen hO
    obtain ⟨fa, fcap, rfl, _⟩ := owns_form hO
    have C := aside' (And.intro hRd (And.intro (B.out.trans (hb2.mono B.out.size)) (And.intro hFe hok)))
    clear hRd hb2 hFe hO hF hwfF n0 n1 hok
    go_wp2_with fail
    go_loopg [7, 6] F.length (fun g i s wr => ∃ k : Nat, k + g = F.length ∧ i = .int .i64 k ∧ s = .int .i64 (sumW (F.take k)) ∧ wr = w2)
    case atStart => exact ⟨0, by omega, rfl, rfl, rfl⟩
    case round =>
      obtain ⟨k, hk, rfl, rfl, rfl⟩ := hrel
      by_cases hlt : k < F.length
      · obtain ⟨_, hew, b, off, rfl, hb, g0, g1, g2, g3⟩ := C.out.1.get hlt
        obtain ⟨e, hx⟩ : ∃ e, F[k] = e := ⟨_, rfl⟩
        rw [hx] at g0 g1 g2 g3 hew
        have hsnoc : F.take (k + 1) = F.take k ++ [e] := by rw [List.take_succ_eq_append_getElem hlt, hx]
        have hs := sumW_snoc (F.take k) e
        rw [← hsnoc] at hs
        have hbd := sumW_bounds (V := V) (F.take (k + 1)) fun e he => C.out.2.2.2 e (List.mem_of_mem_take he)
        have hle : (F.take (k + 1)).length ≤ 2048 := by simp; omega
        obtain ⟨s, hse⟩ : ∃ s, sumW (F.take k) = s := ⟨_, rfl⟩
        rw [hse] at hs ⊢
        rw [hs] at hbd
        have hb2 : s + e.w ≤ 2251799813685248 := by omega
        have hb1 := hbd.1
        have D := aside' hs
        clear hs hse hx hbd hsnoc hle hew
        go_wp2_with fail
        go_roundg (gk - 1)
        case rel => exact ⟨k + 1, by omega, by go_num, by rw [D.out], rfl⟩
        case measure => omega
      · have hkk : k = F.length := by omega
        subst hkk
        rw [List.take_length]
        obtain ⟨s, hse⟩ : ∃ s, sumW F = s := ⟨_, rfl⟩
        have D := aside' (show weightA V E = (bsum s, berr s) from by rw [R.out.2, C.out.2.2.1, hse])
        rw [hse]
        clear hse
        by_cases hgt : 70368744177664 < s
        · have K := aside' (And.intro (show bsum s = 0 from if_pos hgt) (show berr s = 62 from if_pos hgt))
          go_wp2_with fail
          go_ret2
          exact ⟨by rw [D.out, K.out.1, K.out.2]; rfl, C.out.2.1⟩
        · have K := aside' (And.intro (show bsum s = s from if_neg hgt) (show berr s = 0 from if_neg hgt))
          go_wp2_with fail
          go_ret2
          exact ⟨by rw [D.out, K.out.1, K.out.2]; rfl, C.out.2.1⟩
  · have K := aside' (show weightA V E = (0, 60) from if_neg hR)
    rw [checkN_no hR]
    clear hR hck hb1
    go_wp2_with fail
    go_ret2
    exact ⟨by rw [K.out]; rfl, B.out⟩

set_option maxRecDepth 100000 in
set_option maxHeartbeats 1000000 in
theorem other_any (e : Edg) (x : Int) (w : World) : Calls Tryz.prog 113 #[valE e, .int .i64 x] w fun r w' => r = .returned (.int .i64 (otherE e x)) ∧ Below w.heap.size w w' := by
  unfold valE
  have hb0 : Below w.heap.size w (w.alloc (.cells #[.int .i64 e.id, .int .i64 e.u, .int .i64 e.v, .int .i64 e.w] 47)) := (Below.refl _ _).alloc (Nat.le_refl _) _
  by_cases hx : e.u = x
  · have K := aside' (And.intro (show otherE e x = e.v from if_pos hx) hb0)
    have hd : (e.u == x) = true := by simp [hx]
    clear hx hb0
    go_enter Tryz.func113, Tryz.ntmps113
    go_wp2_with fail
    go_ret
    exact ⟨by rw [K.out.1]; rfl, K.out.2⟩
  · have K := aside' (And.intro (show otherE e x = e.u from if_neg hx) hb0)
    have hd : (e.u == x) = false := by simp [hx]
    clear hx hb0
    go_enter Tryz.func113, Tryz.ntmps113
    go_wp2_with fail
    go_ret
    exact ⟨by rw [K.out.1]; rfl, K.out.2⟩

set_option maxRecDepth 100000 in
set_option maxHeartbeats 1000000 in
theorem copyInts_any (v : Value) (l : List Int) (w : World) (hv : RdI w v l) (hl : l.length ≤ 1000000) : Calls Tryz.prog 39 #[v] w (NumsPost w l) := by
  obtain ⟨va, vcap, rfl, -, -, -⟩ := id hv
  have A := aside' hv
  clear hv
  go_enter Tryz.func39, Tryz.ntmps39
  go_wp2_with fail
  go_loopg [4, 3] l.length (fun g i o wr => ∃ k : Nat, k + g = l.length ∧ i = .int .i64 k ∧ wr.ownsRow w.heap.size 3 1 o k ((l.take k).map (Value.int .i64)) ∧ Below w.heap.size w wr)
  case atStart => exact ⟨0, by omega, rfl, empty_row w 3 1, (Below.refl _ _).alloc (Nat.le_refl _) _⟩
  case round =>
    obtain ⟨k, hk, rfl, hO, hbel⟩ := hrel
    obtain ⟨oa, ocap, rfl, -⟩ := owns_form hO
    by_cases hlt : k < l.length
    · obtain ⟨-, -, b, off, rfl, hb, g0⟩ := (A.out.below hbel).get hlt
      obtain ⟨y, hy⟩ : ∃ y, l[k] = y := ⟨_, rfl⟩
      rw [hy] at g0
      have hsn : l.take (k + 1) = l.take k ++ [y] := by rw [List.take_succ_eq_append_getElem hlt, hy]
      have K := aside' (And.intro hO (And.intro hbel hsn))
      have hO' := hO
      have hnl : (l.take k).length = k := by rw [List.length_take]; omega
      clear hO hbel hy hsn
      go_wp2_with (at_builtin; refine wpList_app_int rfl (.tmp 12) (.tmp 17) rfl w.heap.size (.slice oa k ocap) (l.take k) y wr.heap.size 1 1 rfl (by rw [hnl]; exact hO'.alloc _) rfl rfl (World.alloc_heap_new _ _) (by rw [hnl]; omega) (by have := K.out.2.1.size; simp; omega) ?_; intro v' w3 happ; obtain ⟨g', cap', rfl, h1, h2, -⟩ := happ)
      rw [hnl] at *
      go_roundg (gk - 1)
      case rel => exact ⟨k + 1, by omega, by go_num, by rw [K.out.2.2]; exact h1, gr_below (bel_alloc K.out.2.1 (Nat.le_refl _) _) h2 (Nat.le_refl _) (owns_ge K.out.1)⟩
      case measure => omega
    · have hkk : k = l.length := by omega
      subst hkk
      rw [List.take_length] at hO
      have K := aside' (And.intro hO hbel)
      clear hO hbel
      go_wp2_with fail
      go_ret
      exact ⟨_, rfl, K.out.1, K.out.2⟩

end Go.Proofs.YthidhdffiebbgaaGreatDoor
