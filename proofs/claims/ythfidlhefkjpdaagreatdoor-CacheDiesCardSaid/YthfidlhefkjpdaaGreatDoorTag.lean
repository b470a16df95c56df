/- Small walks of package page.
   page: bad, free, Room. -/
import Derived.Test.YthfidlhefkjpdaaGreatDoorTaa
import Derived.Test.YthfidlhefkjpdaaGreatDoorTaf
namespace Go.Proofs.YthfidlhefkjpdaaGreatDoor
open Go.RowKit

theorem pageNew_any (kind extra : Nat) (w : World) (hk : kind < 256) (he : extra < 4294967296) :
    Calls Tryz.prog 50 #[.int .i64 (kind : Int), .int .u32 (extra : Int)] w fun e w' => e = .returned (.pointer (some ⟨w.heap.size, 0, none⟩)) ∧ PageAt w' w.heap.size w.heap.size ⟨0, UInt8.ofNat kind, extra, []⟩ ∧ Below w.heap.size w w' := by
  go_enter Tryz.func50, Tryz.ntmps50
  go_wp2
  go_ret
  refine ⟨rfl, ⟨Nat.le_refl _, .slice none 0 0, [], ?_, World.ownsRow_nil _ _ _ _, Rows.nil _ _⟩, (Below.refl _ _).alloc (Nat.le_refl _) _⟩
  have e : ((UInt8.ofNat kind).toNat : Int) = (kind : Int) := by simp; omega
  rw [e]
  exact alloc_new w _

theorem pageAt_lsn {w : World} {base g : Nat} {p : Pg} (hP : PageAt w base g p) (y : Int) :
    PageAt (w.setCell ⟨g, 0, none⟩ (.int .i64 y)) base g { p with lsn := y } ∧ w.grownBy (w.setCell ⟨g, 0, none⟩ (.int .i64 y)) (some g) := by
  obtain ⟨hb, v, vs, hB, hO, hR⟩ := hP
  have hF : w.grownBy (w.setCell ⟨g, 0, none⟩ (.int .i64 y)) (some g) := only_set (World.grownBy.refl _ _) (.inl rfl) _
  exact ⟨⟨hb, v, vs, hB.set_ 0 _, own_fr hO (Fr.of_only hF) (fun b hb' e => (own_ty hO hb').ne (e ▸ hB.ty) (by decide)), hR.fr (Fr.of_only hF) (fun b _ hb' e => hb'.ne (e ▸ hB.ty) (by decide))⟩, hF⟩

theorem setLSN_any (base g : Nat) (p : Pg) (x : Int) (w : World) (hP : PageAt w base g p) (hx : -9223372036854775808 ≤ x ∧ x ≤ 9223372036854775807) :
    Calls Tryz.prog 28 #[.pointer (some ⟨g, 0, none⟩), .int .i64 x] w fun e w' => e = .returned (.tuple #[]) ∧ PageAt w' base g { p with lsn := max x 0 } ∧ w.grownBy w' (some g) := by
  have hP' := hP
  obtain ⟨hb, v, vs, hB, hO, hR⟩ := hP
  have c0 := hB.cell 0
  have f0 := hB.frozen 0
  simp at c0
  have A : Aside (PageAt w base g p) := ⟨hP'⟩
  clear hP'
  clear hb hB hO hR
  go_enter Tryz.func28, Tryz.ntmps28
  go_wp2
  all_goals
    go_end0
    obtain ⟨h1, h2⟩ := pageAt_lsn A.out (max x 0)
    first
      | (have e : max x 0 = x := by omega
         rw [e] at h1 h2 ⊢
         exact ⟨rfl, h1, h2⟩)
      | (have e : max x 0 = 0 := by omega
         rw [e] at h1 h2 ⊢
         exact ⟨rfl, h1, h2⟩)

theorem lsn_any (base g : Nat) (p : Pg) (w : World) (hP : PageAt w base g p) :
    Calls Tryz.prog 37 #[.pointer (some ⟨g, 0, none⟩)] w fun e w' => e = .returned (.int .i64 p.lsn) ∧ w = w' := by
  obtain ⟨_, v, vs, hB, _, _⟩ := hP
  have c0 := hB.cell 0
  simp at c0
  clear hB
  go_enter Tryz.func37, Tryz.ntmps37
  go_wp2
  go_ret
  exact ⟨rfl, rfl⟩

theorem len_any (base g : Nat) (p : Pg) (w : World) (hP : PageAt w base g p) :
    Calls Tryz.prog 36 #[.pointer (some ⟨g, 0, none⟩)] w fun e w' => e = .returned (.int .i64 (p.items.length : Int)) ∧ w = w' := by
  obtain ⟨_, v, vs, hB, hO, _⟩ := hP
  obtain ⟨A, cap, rfl, _⟩ := own_form hO
  have c0 := hB.cell 3
  simp at c0
  clear hB hO
  go_enter Tryz.func36, Tryz.ntmps36
  go_wp2
  go_ret
  exact ⟨rfl, rfl⟩

end Go.Proofs.YthfidlhefkjpdaaGreatDoor

namespace Go.Proofs.YthfidlhefkjpdaaGreatDoor
open Go.RowKit

/-- the page's items as the walk reads them -/
theorem page_items {w : World} {base g : Nat} {p : Pg} (hP : PageAt w base g p) : ∃ A cap, w.cell? ⟨g, 3, none⟩ = some (.slice A p.items.length cap) ∧ p.items.length ≤ cap ∧
    (0 < p.items.length → ∃ gr, A = some ⟨gr, 0, none⟩ ∧ gr < w.heap.size ∧ ∀ i (h : i < p.items.length), ∃ B c, w.cell? ⟨gr, i, none⟩ = some (.slice B p.items[i].length c) ∧ p.items[i].length ≤ c ∧ RdB w B p.items[i].length p.items[i]) := by
  obtain ⟨_, v, vs, hB, hO, hR⟩ := hP
  obtain ⟨A, cap, rfl, hcap, _, hc⟩ := own_form hO
  refine ⟨A, cap, ?_, hcap, fun h0 => ?_⟩
  · have := hB.cell 3; simpa using this
  · obtain ⟨gr, e, _, hlt, hcc⟩ := hc h0
    refine ⟨gr, e, hlt, fun i hi => ?_⟩
    obtain ⟨v, h1, h2⟩ := hR.2 i hi
    obtain ⟨B, c, rfl, hle, _⟩ := own_form h2
    exact ⟨B, c, (hcc i hi).trans h1, hle, RdB.of_own h2⟩

theorem bad_any (base g : Nat) (p : Pg) (i : Nat) (w : World) (hP : PageAt w base g p) :
    Calls Tryz.prog 92 #[.pointer (some ⟨g, 0, none⟩), .int .i64 (i : Int)] w fun e w' => e = .returned (.bool (decide (p.items.length ≤ i))) ∧ w = w' := by
  obtain ⟨A, cap, c3, _, _⟩ := page_items hP
  have h0 : decide ((i : Int) < 0) = false := by simp
  clear hP
  go_enter Tryz.func92, Tryz.ntmps92
  go_wp2
  go_ret
  exact ⟨rfl, rfl⟩

set_option maxRecDepth 100000 in
set_option maxHeartbeats 400000 in
theorem free_any (base g : Nat) (p : Pg) (w : World) (hP : PageAt w base g p) (hw : p.wf) :
    Calls Tryz.prog 128 #[.pointer (some ⟨g, 0, none⟩)] w fun e w' => e = .returned (.int .i64 (494 - 2 * (p.items.length : Int) - tot p.items)) ∧ w = w' := by
  obtain ⟨A, cap, c3, _, hI⟩ := page_items hP
  have hI := hid hI
  have hk := hw.slots
  have hu := hw.used
  clear hP hw
  obtain ⟨xs, hxs⟩ : ∃ xs, p.items = xs := ⟨_, rfl⟩
  rw [hxs] at c3 hI hk hu ⊢
  clear hxs
  obtain ⟨n, hn⟩ : ∃ n, xs.length = n := ⟨_, rfl⟩
  rw [hn] at c3 hk hu ⊢
  have hn := hid hn
  go_enter Tryz.func128, Tryz.ntmps128
  go_wp2
  go_loopg [3, 18] n (fun q s i wr => wr = w ∧ ∃ k : Nat, k + q = n ∧ i = .int .i64 (k : Nat) ∧ s = .int .i64 (494 - 2 * (n : Int) - tot (xs.take k)))
  case atStart => exact ⟨rfl, 0, by omega, rfl, by simp [tot]⟩
  case round =>
    obtain ⟨rfl, k, hk', rfl, rfl⟩ := hrel
    have ht := tot_take_le xs k
    by_cases hlt : k < n
    · obtain ⟨gr, rfl, _, hc⟩ := hI.out (by have := hn.out; omega)
      obtain ⟨B, c, hcell, _, _⟩ := hc k (by have := hn.out; omega)
      have hs := tot_take_succ (xs := xs) (k := k) (by rw [hn.out]; exact hlt)
      have ht2 := tot_take_le xs (k + 1)
      obtain ⟨m, hm⟩ : ∃ m, (xs[k]'(by rw [hn.out]; exact hlt)).length = m := ⟨_, rfl⟩
      rw [hm] at hcell hs
      have hs := hid hs
      obtain ⟨t0, ht0⟩ : ∃ t0, tot (xs.take k) = t0 := ⟨_, rfl⟩
      have hm2 : t0 + m ≤ tot xs := by have := hs.out; omega
      rw [ht0] at ht hs ⊢
      clear hc hm ht2 ht0
      go_wp2
      go_roundg (n - 1 - k)
      case rel => exact ⟨rfl, k + 1, by omega, by go_num, by rw [hs.out]; go_num⟩
      case measure => omega
    · obtain rfl : k = n := by omega
      go_wp2
      go_ret
      exact ⟨by rw [List.take_of_length_le (by rw [hn.out]; exact Nat.le_refl _)]; rfl, rfl⟩

def roomOf (p : Pg) : Int := if 100 ≤ p.items.length then -1 else min (max (494 - 2 * (p.items.length : Int) - tot p.items - 2) (-1)) 200

set_option maxHeartbeats 400000 in
theorem room_any (base g : Nat) (p : Pg) (w : World) (hP : PageAt w base g p) (hw : p.wf) :
    Calls Tryz.prog 93 #[.pointer (some ⟨g, 0, none⟩)] w fun e w' => e = .returned (.int .i64 (roomOf p)) ∧ w = w' := by
  obtain ⟨A, cap, c3, _, _⟩ := page_items hP
  have hk := hw.slots
  have hu := hw.used
  have hF := free_any base g p w hP hw
  clear hP hw
  obtain ⟨n, hn⟩ : ∃ n, p.items.length = n := ⟨_, rfl⟩
  obtain ⟨t, ht⟩ : ∃ t, tot p.items = t := ⟨_, rfl⟩
  unfold roomOf
  rw [hn] at c3 hk hu hF ⊢
  rw [ht] at hu hF ⊢
  clear hn ht
  by_cases h1 : 100 ≤ n
  · have hd : decide ((100 : Int) ≤ n) = true := by simp; omega
    go_enter Tryz.func93, Tryz.ntmps93
    go_wp2
    go_ret
    exact ⟨rfl, rfl⟩
  · have hd : decide ((100 : Int) ≤ n) = false := by simp; omega
    go_enter Tryz.func93, Tryz.ntmps93
    go_wp2_with fail
    refine hF.mono ?_
    rintro e w' ⟨rfl, rfl⟩
    go_wp2
    all_goals go_ret
    all_goals refine ⟨?_, rfl⟩
    all_goals refine congrArg (fun x => Ending.returned (.int .i64 x)) ?_
    all_goals omega

end Go.Proofs.YthfidlhefkjpdaaGreatDoor
