/- page: Insert at the end. -/
import Derived.Test.YthfidlhefkjpdaaGreatDoorTak
import Derived.Deep.RegionWith
namespace Go.Proofs.YthfidlhefkjpdaaGreatDoor
open Go.RowKit

theorem page_put {w w1 : World} {base g : Nat} {p : Pg} {x : List UInt8} {v v' u : Value} {vs : List Value} (hb : base ≤ g)
    (hB : Blk w g 138 #[.int .i64 p.lsn, .int .u8 (p.kind.toNat : Int), .int .u32 (p.extra : Int), v]) (hO : w.ownsRow base 43 1 v p.items.length vs) (hR : Rows w base vs p.items)
    (hu : w.ownsRow base 5 1 u x.length (x.map u8)) (hO' : w1.ownsRow base 43 1 v' (p.items.length + 1) (vs ++ [u])) (hG : w.grownBy w1 v.ownBlock) :
    PageAt (w1.setCell ⟨g, 3, none⟩ v') base g { p with items := p.items ++ [x] } ∧ Fr (fun b => b = g ∨ v.ownBlock = some b) w (w1.setCell ⟨g, 3, none⟩ v') := by
  have hne := hB.own_ne hO (by decide)
  have hF1 : Fr (fun b => v.ownBlock = some b) w w1 := ⟨hG.os, hG.tape, hG.output, hG.size, fun b hb hn => hG.block b hb (fun e => hn e.symm)⟩
  have hB1 := hB.fr hF1 (fun e => hne e.symm)
  have hF2 : Fr (· = g) w1 (w1.setCell ⟨g, 3, none⟩ v') := Fr.set (p := ⟨g, 3, none⟩) (Fr.refl (· = g) w1) (.inl rfl) v'
  have hR1 : Rows w1 base (vs ++ [u]) (p.items ++ [x]) := (hR.snoc hu).fr hF1 (fun b _ hb e => (own_ty hO e).ne hb (by decide))
  refine ⟨⟨hb, v', vs ++ [u], hB1.set_ 3 _, ?_, ?_⟩, ?_⟩
  · rw [show ({ p with items := p.items ++ [x] } : Pg).items.length = p.items.length + 1 by simp]
    exact own_fr hO' hF2 (fun b hb e => (own_ty hO' hb).ne (e ▸ hB1.ty) (by decide))
  · exact hR1.fr hF2 (fun b _ hb e => hb.ne (e ▸ hB1.ty) (by decide))
  · exact (hF1.mono (fun b _ h => .inr h)).trans hF2 (fun b _ h => .inl h)

theorem cell?_keep_alloc (w : World) (g i : Nat) (hg : g < w.heap.size) (o : Obj) : (w.alloc o).cell? ⟨g, i, none⟩ = w.cell? ⟨g, i, none⟩ := World.cell?_alloc_lt w o ⟨g, i, none⟩ hg

theorem own_one {w : World} {base n : Nat} {e : TypeId} {v : Value} {xs : List Value} (h : w.ownsRow base e 1 v n xs) : v.oneCell' = true := by
  obtain ⟨A, cap, rfl, _⟩ := own_form h
  rfl

set_option maxRecDepth 100000 in
set_option maxHeartbeats 1000000 in
theorem insert_ok (base g : Nat) (p : Pg) (A : Option Addr) (c : Nat) (x : List UInt8) (w : World) (hP : PageAt w base g p) (hw : p.wf) (hx : RdB w A x.length x) (hl : x.length ≤ 200) (hroom : (x.length : Int) ≤ roomOf p) (hbase : base ≤ w.heap.size) :
    Calls Tryz.prog 51 #[.pointer (some ⟨g, 0, none⟩), .int .i64 (p.items.length : Int), .slice A x.length c] w fun e w' => e = .returned (.int .i64 0) ∧ PageAt w' base g { p with items := p.items ++ [x] } ∧ Below base w w' := by
  have hbad := bad_any base g p p.items.length w hP
  have hrm := room_any base g p w hP hw
  have hk := hw.slots
  have hP' := hP
  obtain ⟨hb, v, vs, hB, hO, hR⟩ := hP'
  obtain ⟨i1, cap, rfl, hcap, hmax, hform⟩ := own_form hO
  have c3 := hB.cell 3
  have f3 := hB.frozen 3
  simp at c3
  have hgl := hB.lt
  have QA : Aside (PageAt w base g p ∧ base ≤ g ∧ Blk w g 138 #[.int .i64 p.lsn, .int .u8 (p.kind.toNat : Int), .int .u32 (p.extra : Int), .slice i1 p.items.length cap] ∧ w.ownsRow base 43 1 (.slice i1 p.items.length cap) p.items.length vs ∧ Rows w base vs p.items ∧ RdB w A x.length x ∧ some g ≠ (Value.slice i1 p.items.length cap).ownBlock) := ⟨hP, hb, hB, hO, hR, hx, hB.own_ne hO (by decide)⟩
  clear hP hw hb hB hO hR hx hform hcap hmax
  have h1 : decide ((200 : Int) < (x.length : Int)) = false := by simp; omega
  obtain ⟨r, hr⟩ : ∃ r, roomOf p = r := ⟨_, rfl⟩
  rw [hr] at hroom hrm
  have h2 : decide (r < (x.length : Int)) = false := by simp; omega
  have hd : decide (p.items.length ≤ p.items.length) = true := by simp
  rw [hd] at hbad
  have hnn : ((p.items.length : Int) != (p.items.length : Int)) = false := by simp
  clear hr hd
  go_enter Tryz.func51, Tryz.ntmps51
  go_wp2_with fail
  refine hbad.mono ?_
  rintro e w' ⟨rfl, rfl⟩
  go_wp2_with fail
  refine hrm.mono ?_
  rintro e w' ⟨rfl, rfl⟩
  go_wp2_with fail
  go_region_with (first
    | (go_at_call 47
       (with_reducible refine Calls.mono (clone_any A x.length c x _ ?_ ?_) ?_)
       · exact QA.out.2.2.2.2.2.1.below (by repeat (first | exact Below.refl _ _ | refine bl_drew ?_ | refine bl_alloc ?_ _))
       · omega
       rintro e w1 ⟨u, rfl, hown1, hb1⟩
       obtain ⟨ua, uc, rfl, hx1, hx2, hx3⟩ := own_form hown1
       clear hx1 hx2 hx3
       replace hb1 : Below w.heap.size w w1 := ⟨hb1.os, hb1.tape, hb1.output, hb1.size, hb1.block⟩
       have c3' := ((bcell hb1).1 g 3 hgl).trans c3
       have f3' := ((bcell hb1).2 g 3 hgl).trans f3
       have Q1 : Aside (Below w.heap.size w w1 ∧ w1.ownsRow w.heap.size 5 1 (.slice ua x.length uc) x.length (x.map u8)) := ⟨hb1, hown1⟩
       have hz1 : w.heap.size ≤ w1.heap.size := hb1.size
       have hgl1 : g < w1.heap.size := by omega
       have c3a := cell?_keep_alloc w1 g 3 hgl1 (.cells #[.slice ua x.length uc] 43)
       clear hown1 hb1)
    | (go_at_call 94
       (with_reducible refine Calls.mono (insEnd_any base p.items.length w1.heap.size (.slice i1 p.items.length cap) (.slice ua x.length uc) vs _ ?_ ?_ ?_ ?_ ?_) ?_)
       · exact (own_fr QA.out.2.2.2.1 (Fr.of_below Q1.out.1 (fun _ => False)) (fun _ _ h => h)).alloc _
       · exact cell_new1 w1 _ _
       · exact own_one Q1.out.2
       · omega
       · show base ≤ (w1.alloc _).heap.size
         rw [World.size_alloc]; omega
       rintro e w2 ⟨v', rfl, hown2, hg2⟩
       obtain ⟨va, vc, rfl, hx1, hx2, hx3⟩ := own_form hown2
       clear hx1 hx2 hx3
       have hg2' : w1.grownBy w2 (Value.slice i1 p.items.length cap).ownBlock := only_trans (World.grownBy_alloc w1 _ _) hg2
       have hbg : w2.heap[g]? = w.heap[g]? := (hg2'.block g (by omega) QA.out.2.2.2.2.2.2).trans (Q1.out.1.block g hgl)
       have c3'' := (World.cell?_of_block (w := w) (a := ⟨g, 3, none⟩) hbg).trans c3
       have f3'' := (World.frozen?_of_block (w := w) (a := ⟨g, 3, none⟩) hbg).trans f3
       have Q2 : Aside (w2.ownsRow base 43 1 (.slice va (p.items.length + 1) vc) (p.items.length + 1) (vs ++ [.slice ua x.length uc]) ∧ w1.grownBy w2 (Value.slice i1 p.items.length cap).ownBlock) := ⟨hown2, hg2'⟩
       clear hown2 hg2 hg2' hbg))
  all_goals go_wp2
  all_goals go_ret
  all_goals
    have hF := Fr.of_below Q1.out.1 (fun _ => False)
    have hO1 := own_fr QA.out.2.2.2.1 hF (fun _ _ h => h)
    obtain ⟨h1, h2⟩ := page_put QA.out.2.1 (QA.out.2.2.1.fr hF (fun h => h)) hO1 (QA.out.2.2.2.2.1.below Q1.out.1) (own_mono Q1.out.2 hbase) Q2.out.1 Q2.out.2
    exact ⟨rfl, h1, (Q1.out.1.mono hbase).trans (h2.below (by omega) (fun b hb => by
      rcases hb with rfl | hb
      · exact QA.out.2.1
      · exact (hO1.lt b hb).1))⟩

end Go.Proofs.YthfidlhefkjpdaaGreatDoor
