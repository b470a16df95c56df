/- page: Insert in front: the frame. -/
import Derived.Test.YthfidlhefkjpdaaGreatDoorTal
import Derived.Test.YthfidlhefkjpdaaGreatDoorTbq
namespace Go.Proofs.YthfidlhefkjpdaaGreatDoor
open Go.RowKit

theorem rows_one {w : World} {base : Nat} {vs : List Value} {xs : List (List UInt8)} (h : Rows w base vs xs) : ∀ u ∈ vs, u.oneCell' = true := fun u hu => by
  obtain ⟨i, hi, e⟩ := List.getElem_of_mem hu
  obtain ⟨v, hv, hO⟩ := h.2 i (by rw [← h.1]; exact hi)
  rw [List.getElem?_eq_getElem hi, e] at hv
  obtain rfl := Option.some.inj hv
  exact own_one hO

set_option maxRecDepth 100000 in
set_option maxHeartbeats 1000000 in
theorem insert_pos (base g : Nat) (p : Pg) (A : Option Addr) (c : Nat) (x : List UInt8) (w : World) (v : Value) (vs : List Value) (hb : base ≤ g) (hB : Blk w g 138 #[.int .i64 p.lsn, .int .u8 (p.kind.toNat : Int), .int .u32 (p.extra : Int), v]) (hO : w.ownsRow base 43 1 v p.items.length vs) (hR : Rows w base vs p.items) (hw : p.wf) (hx : RdB w A x.length x) (hl : x.length ≤ 200) (hroom : (x.length : Int) ≤ roomOf p) (hbase : base ≤ w.heap.size) (hpos : 0 < p.items.length) :
    Calls Tryz.prog 51 #[.pointer (some ⟨g, 0, none⟩), .int .i64 0, .slice A x.length c] w fun e w' => (∃ er, e = .returned (.int .i64 er)) ∧ Fr (fun b => b = g ∨ v.ownBlock = some b) w w' := by
  have hP : PageAt w base g p := ⟨hb, v, vs, hB, hO, hR⟩
  have hbad := bad_any base g p 0 w hP
  have hrm := room_any base g p w hP hw
  have hk := hw.slots
  obtain ⟨i1, cap, rfl, hcap, hmax, hform⟩ := own_form hO
  have c3 := hB.cell 3
  have f3 := hB.frozen 3
  simp at c3
  have hgl := hB.lt
  have QA : Aside (PageAt w base g p ∧ base ≤ g ∧ Blk w g 138 #[.int .i64 p.lsn, .int .u8 (p.kind.toNat : Int), .int .u32 (p.extra : Int), .slice i1 p.items.length cap] ∧ w.ownsRow base 43 1 (.slice i1 p.items.length cap) p.items.length vs ∧ Rows w base vs p.items ∧ RdB w A x.length x ∧ some g ≠ (Value.slice i1 p.items.length cap).ownBlock) := ⟨hP, hb, hB, hO, hR, hx, hB.own_ne hO (by decide)⟩
  clear hP hw hb hB hO hR hx hform hcap hmax
  have h1 : decide ((200 : Int) < (x.length : Int)) = false := by simp; omega
  obtain ⟨r, hr⟩ : ∃ r, roomOf p = r := ⟨_, rfl⟩
  rw [hr] at hroom hrm
  have h2 : decide (r < (x.length : Int)) = false := by simp; omega
  have hd : decide (p.items.length ≤ 0) = false := by rw [decide_eq_false_iff_not]; omega
  rw [hd, show ((0 : Nat) : Int) = 0 from rfl] at hbad
  clear hr hd
  go_enter Tryz.func51, Tryz.ntmps51
  go_wp2_with fail
  refine hbad.mono ?_
  rintro e w' ⟨rfl, rfl⟩
  go_wp2_with fail
  refine hrm.mono ?_
  rintro e w' ⟨rfl, rfl⟩
  go_wp2_with fail
  go_region_with (first
    | (go_at_call 47
       (with_reducible refine Calls.mono (clone_any A x.length c x _ ?_ ?_) ?_)
       · exact QA.out.2.2.2.2.2.1.below (by repeat (first | exact Below.refl _ _ | refine bl_drew ?_ | refine bl_alloc ?_ _))
       · omega
       rintro e w1 ⟨u, rfl, hown1, hb1⟩
       obtain ⟨ua, uc, rfl, hx1, hx2, hx3⟩ := own_form hown1
       clear hx1 hx2 hx3
       replace hb1 : Below w.heap.size w w1 := ⟨hb1.os, hb1.tape, hb1.output, hb1.size, hb1.block⟩
       have c3' := ((bcell hb1).1 g 3 hgl).trans c3
       have f3' := ((bcell hb1).2 g 3 hgl).trans f3
       have Q1 : Aside (Below w.heap.size w w1 ∧ w1.ownsRow w.heap.size 5 1 (.slice ua x.length uc) x.length (x.map u8)) := ⟨hb1, hown1⟩
       have hz1 : w.heap.size ≤ w1.heap.size := hb1.size
       have hgl1 : g < w1.heap.size := by omega
       have c3a := cell?_keep_alloc w1 g 3 hgl1 (.cells #[.slice ua x.length uc] 43)
       clear hown1 hb1)
    | (go_at_call 94
       (with_reducible refine Calls.mono (insFront_any base p.items.length w1.heap.size (.slice i1 p.items.length cap) (.slice ua x.length uc) vs _ ?_ ?_ ?_ ?_ hpos ?_ ?_) ?_)
       · exact (own_fr QA.out.2.2.2.1 (Fr.of_below Q1.out.1 (fun _ => False)) (fun _ _ h => h)).alloc _
       · exact alloc_new w1 _
       · exact own_one Q1.out.2
       · exact rows_one QA.out.2.2.2.2.1
       · omega
       · exact fun e => by
           have h1 := (QA.out.2.2.2.1.lt _ e).2
           omega
       rintro e w2 ⟨⟨va, vc, rfl⟩, hF2⟩
       have hFg : Fr (fun b => base ≤ b ∧ b ≠ g) w1 w2 := by
         have k1 : Fr (fun b => base ≤ b ∧ b ≠ g) w1 (w1.alloc (.cells #[.slice ua x.length uc] 43)) := (Fr.refl _ _).alloc _
         refine k1.trans (hF2.mono fun b hb e => ⟨(QA.out.2.2.2.1.lt _ e).1, fun eb => QA.out.2.2.2.2.2.2 (by rw [← eb]; exact e.symm)⟩) (fun _ _ h => h)
       have hbg : w2.heap[g]? = w.heap[g]? := (hFg.block g (by omega) (fun h => h.2 rfl)).trans (Q1.out.1.block g hgl)
       have c3'' := (World.cell?_of_block (w := w) (a := ⟨g, 3, none⟩) hbg).trans c3
       have f3'' := (World.frozen?_of_block (w := w) (a := ⟨g, 3, none⟩) hbg).trans f3
       have Q2 : Aside (Fr (fun b => b = g ∨ (Value.slice i1 p.items.length cap).ownBlock = some b) w w2) := ⟨(Fr.of_below Q1.out.1 _).trans (((Fr.refl (fun b => b = g ∨ (Value.slice i1 p.items.length cap).ownBlock = some b) w1).alloc (.cells #[.slice ua x.length uc] 43)).trans (hF2.mono fun b _ e => .inr e) (fun _ _ h => h)) (fun _ _ h => h)⟩
       clear hF2 hFg hbg))
  all_goals go_wp2
  all_goals go_ret
  all_goals exact ⟨⟨0, rfl⟩, Q2.out.set (p := ⟨g, 3, none⟩) (.inl (.inl rfl)) _⟩


set_option maxRecDepth 100000 in
set_option maxHeartbeats 1000000 in
theorem insert_okF (base g : Nat) (p : Pg) (A : Option Addr) (c : Nat) (x : List UInt8) (w : World) (v : Value) (vs : List Value) (hb : base ≤ g) (hB : Blk w g 138 #[.int .i64 p.lsn, .int .u8 (p.kind.toNat : Int), .int .u32 (p.extra : Int), v]) (hO : w.ownsRow base 43 1 v p.items.length vs) (hR : Rows w base vs p.items) (hw : p.wf) (hx : RdB w A x.length x) (hl : x.length ≤ 200) (hroom : (x.length : Int) ≤ roomOf p) (hbase : base ≤ w.heap.size) :
    Calls Tryz.prog 51 #[.pointer (some ⟨g, 0, none⟩), .int .i64 (p.items.length : Int), .slice A x.length c] w fun e w' => (∃ er, e = .returned (.int .i64 er)) ∧ Fr (fun b => b = g ∨ v.ownBlock = some b) w w' := by
  have hP : PageAt w base g p := ⟨hb, v, vs, hB, hO, hR⟩
  have hbad := bad_any base g p p.items.length w hP
  have hrm := room_any base g p w hP hw
  have hk := hw.slots
  obtain ⟨i1, cap, rfl, hcap, hmax, hform⟩ := own_form hO
  have c3 := hB.cell 3
  have f3 := hB.frozen 3
  simp at c3
  have hgl := hB.lt
  have QA : Aside (PageAt w base g p ∧ base ≤ g ∧ Blk w g 138 #[.int .i64 p.lsn, .int .u8 (p.kind.toNat : Int), .int .u32 (p.extra : Int), .slice i1 p.items.length cap] ∧ w.ownsRow base 43 1 (.slice i1 p.items.length cap) p.items.length vs ∧ Rows w base vs p.items ∧ RdB w A x.length x ∧ some g ≠ (Value.slice i1 p.items.length cap).ownBlock) := ⟨hP, hb, hB, hO, hR, hx, hB.own_ne hO (by decide)⟩
  clear hP hw hb hB hO hR hx hform hcap hmax
  have h1 : decide ((200 : Int) < (x.length : Int)) = false := by simp; omega
  obtain ⟨r, hr⟩ : ∃ r, roomOf p = r := ⟨_, rfl⟩
  rw [hr] at hroom hrm
  have h2 : decide (r < (x.length : Int)) = false := by simp; omega
  have hd : decide (p.items.length ≤ p.items.length) = true := by simp
  rw [hd] at hbad
  have hnn : ((p.items.length : Int) != (p.items.length : Int)) = false := by simp
  clear hr hd
  go_enter Tryz.func51, Tryz.ntmps51
  go_wp2_with fail
  refine hbad.mono ?_
  rintro e w' ⟨rfl, rfl⟩
  go_wp2_with fail
  refine hrm.mono ?_
  rintro e w' ⟨rfl, rfl⟩
  go_wp2_with fail
  go_region_with (first
    | (go_at_call 47
       (with_reducible refine Calls.mono (clone_any A x.length c x _ ?_ ?_) ?_)
       · exact QA.out.2.2.2.2.2.1.below (by repeat (first | exact Below.refl _ _ | refine bl_drew ?_ | refine bl_alloc ?_ _))
       · omega
       rintro e w1 ⟨u, rfl, hown1, hb1⟩
       obtain ⟨ua, uc, rfl, hx1, hx2, hx3⟩ := own_form hown1
       clear hx1 hx2 hx3
       replace hb1 : Below w.heap.size w w1 := ⟨hb1.os, hb1.tape, hb1.output, hb1.size, hb1.block⟩
       have c3' := ((bcell hb1).1 g 3 hgl).trans c3
       have f3' := ((bcell hb1).2 g 3 hgl).trans f3
       have Q1 : Aside (Below w.heap.size w w1 ∧ w1.ownsRow w.heap.size 5 1 (.slice ua x.length uc) x.length (x.map u8)) := ⟨hb1, hown1⟩
       have hz1 : w.heap.size ≤ w1.heap.size := hb1.size
       have hgl1 : g < w1.heap.size := by omega
       have c3a := cell?_keep_alloc w1 g 3 hgl1 (.cells #[.slice ua x.length uc] 43)
       clear hown1 hb1)
    | (go_at_call 94
       (with_reducible refine Calls.mono (insEnd_any base p.items.length w1.heap.size (.slice i1 p.items.length cap) (.slice ua x.length uc) vs _ ?_ ?_ ?_ ?_ ?_) ?_)
       · exact (own_fr QA.out.2.2.2.1 (Fr.of_below Q1.out.1 (fun _ => False)) (fun _ _ h => h)).alloc _
       · exact cell_new1 w1 _ _
       · exact own_one Q1.out.2
       · omega
       · show base ≤ (w1.alloc _).heap.size
         rw [World.size_alloc]; omega
       rintro e w2 ⟨v', rfl, hown2, hg2⟩
       obtain ⟨va, vc, rfl, hx1, hx2, hx3⟩ := own_form hown2
       clear hx1 hx2 hx3
       have hg2' : w1.grownBy w2 (Value.slice i1 p.items.length cap).ownBlock := only_trans (World.grownBy_alloc w1 _ _) hg2
       have hbg : w2.heap[g]? = w.heap[g]? := (hg2'.block g (by omega) QA.out.2.2.2.2.2.2).trans (Q1.out.1.block g hgl)
       have c3'' := (World.cell?_of_block (w := w) (a := ⟨g, 3, none⟩) hbg).trans c3
       have f3'' := (World.frozen?_of_block (w := w) (a := ⟨g, 3, none⟩) hbg).trans f3
       have Q2 : Aside (w2.ownsRow base 43 1 (.slice va (p.items.length + 1) vc) (p.items.length + 1) (vs ++ [.slice ua x.length uc]) ∧ w1.grownBy w2 (Value.slice i1 p.items.length cap).ownBlock) := ⟨hown2, hg2'⟩
       clear hown2 hg2 hg2' hbg))
  all_goals go_wp2
  all_goals go_ret
  all_goals
    have hF := Fr.of_below Q1.out.1 (fun _ => False)
    have hO1 := own_fr QA.out.2.2.2.1 hF (fun _ _ h => h)
    obtain ⟨h1, h2⟩ := page_put QA.out.2.1 (QA.out.2.2.1.fr hF (fun h => h)) hO1 (QA.out.2.2.2.2.1.below Q1.out.1) (own_mono Q1.out.2 hbase) Q2.out.1 Q2.out.2
    exact ⟨⟨0, rfl⟩, (Fr.of_below Q1.out.1 _).trans h2 (fun _ _ h => h)⟩

set_option maxRecDepth 100000 in
theorem insert_full (base g : Nat) (p : Pg) (A : Option Addr) (c : Nat) (x : List UInt8) (w : World) (hP : PageAt w base g p) (hw : p.wf) (hl : x.length ≤ 200) (hroom : ¬ (x.length : Int) ≤ roomOf p) (hpos : 0 < p.items.length) :
    Calls Tryz.prog 51 #[.pointer (some ⟨g, 0, none⟩), .int .i64 0, .slice A x.length c] w fun e w' => (∃ er, e = .returned (.int .i64 er)) ∧ w = w' := by
  have hbad := bad_any base g p 0 w hP
  have hrm := room_any base g p w hP hw
  clear hP hw
  have h1 : decide ((200 : Int) < (x.length : Int)) = false := by simp; omega
  obtain ⟨r, hr⟩ : ∃ r, roomOf p = r := ⟨_, rfl⟩
  rw [hr] at hroom hrm
  have h2 : decide (r < (x.length : Int)) = true := by simp; omega
  have hd : decide (p.items.length ≤ 0) = false := by rw [decide_eq_false_iff_not]; omega
  rw [hd, show ((0 : Nat) : Int) = 0 from rfl] at hbad
  clear hr hd hroom
  go_enter Tryz.func51, Tryz.ntmps51
  go_wp2_with fail
  refine hbad.mono ?_
  rintro e w' ⟨rfl, rfl⟩
  go_wp2_with fail
  refine hrm.mono ?_
  rintro e w' ⟨rfl, rfl⟩
  go_wp2_with fail
  go_ret
  exact ⟨⟨_, rfl⟩, rfl⟩

/-- A page whose own blocks lie below top. -/
def PageIn (w : World) (base top g : Nat) (p : Pg) : Prop :=
  base ≤ g ∧ g < top ∧ ∃ v vs, Blk w g 138 #[.int .i64 p.lsn, .int .u8 (p.kind.toNat : Int), .int .u32 (p.extra : Int), v] ∧ w.ownsRow base 43 1 v p.items.length vs ∧ Rows w base vs p.items ∧ ∀ b, v.ownBlock = some b → b < top
theorem PageAt.inside {w : World} {base g : Nat} {p : Pg} (h : PageAt w base g p) : PageIn w base w.heap.size g p := by
  obtain ⟨hb, v, vs, hB, hO, hR⟩ := h
  exact ⟨hb, hB.lt, v, vs, hB, hO, hR, fun b e => (hO.lt b e).2⟩
theorem PageIn.far {w w' : World} {T : Nat → Prop} {base top g : Nat} {p : Pg} (h : PageIn w base top g p) (hf : Fr T w w') (hT : ∀ b, T b → b < base) : PageIn w' base top g p := by
  obtain ⟨hb, ht, v, vs, hB, hO, hR, hl⟩ := h
  exact ⟨hb, ht, v, vs, hB.fr hf (fun h => by have := hT _ h; omega), own_fr hO hf (fun b hb h => by have := hT _ h; have := (hO.lt b hb).1; omega), hR.fr hf (fun b hb _ h => by have := hT _ h; omega), hl⟩
theorem PageIn.below {w w' : World} {base top g : Nat} {p : Pg} (h : PageIn w base top g p) (hb : Below w.heap.size w w') : PageIn w' base top g p :=
  h.far (Fr.of_below hb (fun _ => False)) (fun _ h => h.elim)

/-- page.Insert in front of whatever there is: what it turns. -/
theorem insert_front (base top g : Nat) (p : Pg) (A : Option Addr) (n c : Nat) (x : List UInt8) (w : World) (hP : PageIn w base top g p) (hw : p.wf) (hx : RdB w A n x) (hl : n ≤ 200) (hbase : base ≤ w.heap.size) :
    Calls Tryz.prog 51 #[.pointer (some ⟨g, 0, none⟩), .int .i64 0, .slice A n c] w fun e w' => (∃ er, e = .returned (.int .i64 er)) ∧ Fr (fun b => (base ≤ b ∧ b < top) ∧ ¬ Ty w b 5 ∧ ¬ Ty w b 76) w w' := by
  obtain rfl : x.length = n := hx.1
  obtain ⟨hb, hgt, v, vs, hB, hO, hR, hvt⟩ := hP
  have up : ∀ {w' : World}, Fr (fun b => b = g ∨ v.ownBlock = some b) w w' → Fr (fun b => (base ≤ b ∧ b < top) ∧ ¬ Ty w b 5 ∧ ¬ Ty w b 76) w w' := fun h => h.mono fun b _ e => by
    rcases e with rfl | e
    · exact ⟨⟨hb, hgt⟩, fun h => h.ne hB.ty (by decide), fun h => h.ne hB.ty (by decide)⟩
    · exact ⟨⟨(hO.lt b e).1, hvt b e⟩, fun h => h.ne (own_ty hO e) (by decide), fun h => h.ne (own_ty hO e) (by decide)⟩
  by_cases h0 : p.items.length = 0
  · have hit : p.items = [] := List.eq_nil_of_length_eq_zero h0
    have hr : (x.length : Int) ≤ roomOf p := by
      unfold roomOf
      rw [hit]
      simp [tot]
      omega
    have := insert_okF base g p A c x w v vs hb hB hO hR hw hx hl hr hbase
    rw [h0, show ((0 : Nat) : Int) = 0 from rfl] at this
    refine this.mono ?_
    rintro e w' ⟨he, hF⟩
    exact ⟨he, up hF⟩
  · by_cases hr : (x.length : Int) ≤ roomOf p
    · refine (insert_pos base g p A c x w v vs hb hB hO hR hw hx hl hr hbase (by omega)).mono ?_
      rintro e w' ⟨he, hF⟩
      exact ⟨he, up hF⟩
    · refine (insert_full base g p A c x w ⟨hb, v, vs, hB, hO, hR⟩ hw hl hr (by omega)).mono ?_
      rintro e w' ⟨he, rfl⟩
      exact ⟨he, Fr.refl _ _⟩
end Go.Proofs.YthfidlhefkjpdaaGreatDoor
