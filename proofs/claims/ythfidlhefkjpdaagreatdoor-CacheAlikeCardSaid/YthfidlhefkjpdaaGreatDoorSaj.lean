/- wal.parse.
   Sectors: the laws of a whole sector as a value.
   Own layer over the kit's maps: a map block keyed by an int, seen as a function from numbers to values, at every element type.
   A disk in memory.
   disk.has. -/
import Derived.Test.YthfidlhefkjpdaaGreatDoorSae
import Derived.Test.YthfidlhefkjpdaaGreatDoorSaf
import Derived.Test.YthfidlhefkjpdaaGreatDoorSai
import Derived.Test.YthfidlhefkjpdaaGreatDoorSaa
import Derived.Deep.WholeRow
import Derived.Deep.MidRow
import Derived.WalkKit
import Derived.WalkSpells
import Derived.Maps.OwnSet
import Derived.Maps.AppendAt
import Derived.Outline
import Derived.Deep.RegionWith
namespace Go.Proofs.YthfidlhefkjpdaaGreatDoor
open Go.RowKit Go.Shelf
attribute [local go_sem] Oper.semAt_some

/-- what a log sector says -/
def parseL (bs : List UInt8) : Option (Nat × List UInt8) :=
  if opens bs = true ∧ 1 ≤ lowN ((bs.drop 4).take 8) ∧ lowN ((bs.drop 4).take 8) ≤ 274877906944 ∧ ((bs.drop 4).getD 8 0).toNat + 256 * ((bs.drop 4).getD 9 0).toNat ≤ 498 ∧
      allZ ((bs.drop 4).drop (10 + (((bs.drop 4).getD 8 0).toNat + 256 * ((bs.drop 4).getD 9 0).toNat))) = true then
    some (lowN ((bs.drop 4).take 8), ((bs.drop 4).drop 10).take (((bs.drop 4).getD 8 0).toNat + 256 * ((bs.drop 4).getD 9 0).toNat))
  else none

def ParseR (bs : List UInt8) (w : World) (e : Ending) (w' : World) : Prop :=
  ∃ r v, e = .returned (.tuple #[.int .i64 r, v, .bool (parseL bs).isSome]) ∧ Below w.heap.size w w' ∧ 0 ≤ r ∧ r ≤ 274877906944 ∧
    ∀ u used, parseL bs = some (u, used) → r = (u : Int) ∧ ∃ g c, v = .slice (some ⟨g, 10, none⟩) used.length c ∧ w.heap.size ≤ g ∧ used.length ≤ c ∧ c ≤ maxLen ∧ RdB w' (some ⟨g, 10, none⟩) used.length used

theorem from_508 (g M cap : Nat) (hM : M ≤ 508) (hc : 508 ≤ cap) (W : World) :
    (Instr.sliceAt 43 (.slice (some ⟨g, 0, none⟩) 508 cap) (some (.int .i64 (M : Int))) none none).run Tryz.prog W = .ok (.slice (if cap = M then some ⟨g, 0, none⟩ else some ⟨g, M, none⟩) (508 - M) (cap - M)) W := by
  have h2 : (M : Int) ≤ 508 := by omega
  by_cases h : cap = M
  · obtain rfl : M = 508 := by omega
    subst h
    simp [go_sem, sliced]
  · simp [go_sem, sliced, h, h2, Addr.add_lit]

theorem wparse_bad (A : Option Addr) (c : Nat) (bs : List UInt8) (w : World) (hR : RdB w A 512 bs) (hc : 512 ≤ c) (hc2 : c ≤ 9223372036854775807) (ho : opens bs = false) :
    Calls Tryz.prog 121 #[.slice A 512 c] w (ParseR bs w) := by
  have hop := open_bad A 512 c bs w hR (by omega) (by omega) hc hc2 ho
  have hn : parseL bs = none := by unfold parseL; rw [if_neg]; rintro ⟨h, _⟩; rw [ho] at h; cases h
  clear hR
  go_enter Tryz.func121, Tryz.ntmps121
  go_wp2_with fail
  refine hop.mono ?_
  rintro e w1 ⟨rfl, hb1⟩
  go_wp2_with fail
  go_ret3
  refine ⟨0, _, by rw [hn]; rfl, hb1, by omega, by omega, fun u used h => by rw [hn] at h; cases h⟩

set_option maxRecDepth 100000 in
set_option maxHeartbeats 1000000 in
theorem wparse_good (A : Option Addr) (c : Nat) (bs : List UInt8) (w : World) (hR : RdB w A 512 bs) (hc : 512 ≤ c) (hc2 : c ≤ 9223372036854775807) (ho : opens bs = true) :
    Calls Tryz.prog 121 #[.slice A 512 c] w (ParseR bs w) := by
  have hop := open_ok A 512 c bs w hR (by omega) (by omega) hc hc2 ho
  have hbl := hR.1
  clear hR
  obtain ⟨B, hB⟩ : ∃ B, bs.drop 4 = B := ⟨_, rfl⟩
  have hBl : B.length = 508 := by rw [← hB, List.length_drop, hbl]
  rw [hB] at hop
  have H0 : Aside (bs.drop 4 = B ∧ opens bs = true ∧ B.length = 508) := ⟨hB, ho, hBl⟩
  clear hB ho hBl hbl
  refine (callsIn_wide (n := 4)).1 ?_
  refine callsIn_of_wp_marks Tryz.func121 rfl trivial ?_ rfl
  refine wpIn_wide.2 ?_
  simp only [Tryz.ntmps121, List.size_toArray, List.length_cons, List.length_nil, Nat.reduceAdd, Nat.reduceSub, Array.replicate_succ, Array.replicate_zero, List.push_toArray, List.append_toArray, List.nil_append, List.cons_append]
  go_wp2_with fail
  refine hop.mono ?_
  rintro e w1 ⟨v, rfl, hown, hb1⟩
  obtain ⟨A1, cap, rfl, hcap, hcm, hcl⟩ := own_form hown
  obtain ⟨g, rfl, hg1, hg2, -⟩ := hcl (by omega)
  have hR1 := RdB.of_own hown
  have HR : Aside (∀ W, Below w1.heap.size w1 W → RdB W (some ⟨g, 0, none⟩) 508 B) := ⟨fun W hb => hR1.below hb⟩
  have Hb : Aside (Below w.heap.size w w1 ∧ w.heap.size ≤ g ∧ g < w1.heap.size ∧ 508 ≤ cap ∧ cap ≤ maxLen) := ⟨hb1, hg1, hg2, hcap, hcm⟩
  clear hown hb1 hop hR1 hg1 hg2
  have hcap8 : (8 : Nat) ≤ cap := by omega
  go_wp2_with (go_at_call 111; refine (callsIn_wide.1 (backB_in Fence.wide 4 trivial rfl _ _ _ _)).mono ?_; rintro e w' ⟨rfl, rfl⟩)
  clear hcl
  have hs := Boxed.new w1 136 (.int .u64 0)
  have hb := Boxed.new (w1.alloc (.cells #[.int .u64 0] 136)) 43 (.slice (some ⟨g, 0, none⟩) 8 cap)
  rw [World.size_alloc] at hb
  have hB0 : Below w1.heap.size w1 ((w1.alloc (.cells #[.int .u64 0] 136)).alloc (.cells #[.slice (some ⟨g, 0, none⟩) 8 cap] 43)) := ((Below.refl _ w1).alloc (Nat.le_refl _) _).alloc (by simp) _
  have hR8 : RdB w1 (some ⟨g, 0, none⟩) 8 (B.take 8) := (HR.out _ (Below.refl _ _)).take (by omega)
  have hl8 : (B.take 8).length = 8 := by rw [List.length_take, H0.out.2.2]; rfl
  refine (wpIn_wide (n := 4)).1 ?_
  refine wpIn_rangeFunc_ownF rfl (by omega) (gf := 142) (lb := #[.pointer (some ⟨w1.heap.size + 1, 0, none⟩)]) rfl trivial (enters_of Tryz.func142 (by kernel_rfl) rfl)
    (backB_stops Fence.wide (4 - 1) trivial rfl (by omega) (w1.heap.size + 1) w1.heap.size 8 cap (some ⟨g, 0, none⟩) (B.take 8) _ (by simp) hb.cell w1 hR8 (Nat.le_refl _) hB0 (by omega)) KpB.trans (KpB.put (by simp; omega)) (Below.refl _ _) (fun _ => rfl)
    (fun pre W => Boxed W w1.heap.size 136 (.int .u64 (lowP pre : Int)) ∧ Below w1.heap.size w1 W)
    (fun _ _ _ => False)
    (OwnFrom.and (Own.from (boxed_own _ _ _) _) (ownFrom_below (Nat.le_refl _) (by simp; omega)))
    (fun _ _ _ _ _ hs _ _ => hs)
    ⟨hs.alloc _, hB0⟩
    (fun x => { tmps := #[.slice A 512 c, undef, .int .i64 0, .slice none 0 0, .bool true, .slice (some ⟨g, 0, none⟩) 508 cap, .pointer (some ⟨w1.heap.size, 0, none⟩), undef, .int .u8 (x.2.toNat : Int), undef, .tuple #[.slice (some ⟨g, 0, none⟩) 508 cap, .bool true], .slice A 512 c, .tuple #[.slice (some ⟨g, 0, none⟩) 508 cap, .bool true], .slice (some ⟨g, 0, none⟩) 508 cap, .bool true, .bool true, .bool false, .slice (some ⟨g, 0, none⟩) 508 cap, .slice (some ⟨g, 0, none⟩) 8 cap, .func (.func 142) #[] #[.pointer (some ⟨w1.heap.size + 1, 0, none⟩)], .int .i64 (x.1 : Int), .int .u8 (x.2.toNat : Int), undef, undef, undef, undef, undef, undef, undef, undef, undef, undef, undef, undef, undef, undef, undef, undef, undef, undef, undef, undef, undef, undef, undef, undef, undef, undef, undef, undef, undef, undef, undef, undef, undef, undef, undef, undef, undef, undef, undef], defers := [] }) ?assign ?body ?done ?stop
  case assign =>
    intro l x W K hK
    unfold encB
    gi_wp2
    exact hK
  case body =>
    rintro l pre x W ⟨hc, hB⟩ _
    have c1 := hc.cell
    have c2 := hc.frozen
    have hp := lowP_lt pre
    have hx := x.2.toNat_lt
    have hor := hid (stepL_bits (lowP pre) x)
    gi_wp2
    rw [hor.out, ← lowP_snoc]
    exact ⟨KeepsOthers.setCell _ _ _, ⟨(Below.refl w1.heap.size W).setCell (p := ⟨w1.heap.size, 0, none⟩) (Nat.le_refl _) _, fun u hu => (World.cell?_setCell_other _ _ _ _ (fun h => by have := congrArg Addr.block h; simp at this)).trans hu⟩, hc.set _, hB.setCell (p := ⟨w1.heap.size, 0, none⟩) (Nat.le_refl _) _⟩
  case stop =>
    rintro D c pre W _ _ h _
    exact h.elim
  case done =>
    rintro D ys W hD rfl ⟨hc, hB⟩ hK
    have hlow : lowP (backU (B.take 8) (B.take 8).length) = lowN (B.take 8) := lowP_all _ (by omega)
    rw [hlow] at hc
    obtain ⟨u, hu⟩ : ∃ u, lowN (B.take 8) = u := ⟨_, rfl⟩
    have hult : u < 18446744073709551616 := by rw [← hu, ← hlow]; exact lowP_lt _
    rw [hu] at hc
    have c1 := hc.cell
    have hRW := HR.out W hB
    have HK : Aside (W.heap[D]? = some (.deferred (some [])) ∧ w1.heap.size + 2 ≤ D) := ⟨hK, by simpa using hD⟩
    have hBl := H0.out.2.2
    have hcc : ∀ i (h : i < B.length), W.cell? ⟨g, i, none⟩ = some (.int .u8 (B[i].toNat : Int)) := by
      obtain ⟨b', o', e1, -, hcc⟩ := hRW.2 (by omega)
      injection e1 with e1; injection e1 with e1 e2; subst e1 e2
      intro i h
      have := hcc i h
      rwa [Nat.zero_add] at this
    obtain ⟨b8, hb8⟩ : ∃ b8, B[8] = b8 := ⟨_, rfl⟩
    obtain ⟨b9, hb9⟩ : ∃ b9, B[9] = b9 := ⟨_, rfl⟩
    have k8 := hcc 8 (by omega)
    have k9 := hcc 9 (by omega)
    rw [hb8] at k8
    rw [hb9] at k9
    have e8 : B.getD 8 0 = b8 := by rw [List.getD_eq_getElem?_getD, List.getElem?_eq_getElem (by omega), hb8]; rfl
    have e9 : B.getD 9 0 = b9 := by rw [List.getD_eq_getElem?_getD, List.getElem?_eq_getElem (by omega), hb9]; rfl
    obtain ⟨x8, hx8⟩ : ∃ x, b8.toNat = x := ⟨_, rfl⟩
    obtain ⟨x9, hx9⟩ : ∃ x, b9.toNat = x := ⟨_, rfl⟩
    have h8l : x8 < 256 := by rw [← hx8]; exact b8.toNat_lt
    have h9l : x9 < 256 := by rw [← hx9]; exact b9.toNat_lt
    rw [hx8] at k8
    rw [hx9] at k9
    rw [← e8] at hx8
    rw [← e9] at hx9
    have HN : Aside (lowN (B.take 8) = u ∧ (B.getD 8 0).toNat = x8 ∧ (B.getD 9 0).toNat = x9 ∧ Below w1.heap.size w1 W) := ⟨hu, hx8, hx9, hB⟩
    clear hcc hb8 hb9 e8 e9 hx8 hx9 hRW hlow hu hK hD hl8 hR8 hB0 hb hs hBl
    have h2b := hid (two_bytes x8 x9 h8l h9l)
    go_wp2_with fail
    go_region_held3 (fun w' => w'.cell? ⟨g, 8, none⟩ = some (.int .u8 (x8 : Int)) ∧ w'.cell? ⟨g, 9, none⟩ = some (.int .u8 (x9 : Int))) (exact ⟨k8, k9⟩) (fail)
    obtain ⟨N, hN⟩ : ∃ N, x8 + 256 * x9 = N := ⟨_, rfl⟩
    have w8 : IntKind.i64.wrap (x8 : Int) = x8 := wrap_nat (by omega) (by omega)
    have w9 : IntKind.i64.wrap (x9 : Int) = x9 := wrap_nat (by omega) (by omega)
    have w9b : IntKind.i64.wrap ((x9 : Int) * 256) = (x9 : Int) * 256 := wrap_nat (by omega) (by omega)
    rw [w8, w9, w9b, h2b.out, hN]
    clear w8 w9 w9b
    obtain ⟨wq, hwq⟩ : ∃ wq, W.drew = wq := ⟨_, rfl⟩
    have cq : wq.cell? ⟨w1.heap.size, 0, none⟩ = some (.int .u64 (u : Int)) := by rw [← hwq]; exact c1
    have HQ : Aside (wq.heap[D]? = some (.deferred (some [])) ∧ w1.heap.size + 2 ≤ D ∧ Below w1.heap.size w1 wq ∧ x8 + 256 * x9 = N) := by
      refine ⟨?_, HK.out.2, ?_, hN⟩
      · rw [← hwq]; exact HK.out.1
      · rw [← hwq]; exact bl_drew HN.out.2.2.2
    have hNl : N < 65536 := by omega
    have HX : Aside (Boxed wq w1.heap.size 136 (.int .u64 (u : Int))) := ⟨by rw [← hwq]; exact hc⟩
    rw [hwq]
    clear hwq c1 HK hN h2b k8 k9 hc hB
    have hfin : ∀ w2 r v, Below w1.heap.size w1 w2 → w2.heap[D]? = some (.deferred (some [])) → 0 ≤ r → r ≤ 274877906944 → ¬ (1 ≤ u ∧ u ≤ 274877906944 ∧ N ≤ 498 ∧ allZ (B.drop (10 + N)) = true) →
        ∃ w3, (Instr.takeDeferred D).run Tryz.prog w2 = .ok [] w3 ∧ ParseR bs w (.returned (.tuple #[.int .i64 r, v, .bool false])) w3 := by
      intro w2 r v hb2 hD2 hr0 hr1 hno
      refine ⟨_, run_takeDeferred hD2, ?_⟩
      have hn : parseL bs = none := by
        unfold parseL
        rw [if_neg]
        rw [H0.out.1, HN.out.1, HN.out.2.1, HN.out.2.2.1, HQ.out.2.2.2]
        rintro ⟨-, h⟩
        exact hno h
      refine ⟨r, v, by rw [hn]; rfl, ?_, hr0, hr1, fun u used h => by rw [hn] at h; cases h⟩
      exact (Hb.out.1.trans (hb2.mono Hb.out.1.size)).trans (belowK_b (w := w) (Nat.le_refl _) w2 D _ _ (by have := HQ.out.2.1; have := Hb.out.1.size; omega) hD2 rfl rfl)
    have hfin := hid hfin
    rcases Nat.lt_or_ge u 1 with hu1 | hu1
    · have d1 : decide ((u : Int) < 1) = true := by simp; omega
      go_wp2_with fail
      obtain ⟨w3, ht, hP⟩ := hfin.out wq 0 (.slice none 0 0) HQ.out.2.2.1 HQ.out.1 (by omega) (by omega) (by omega)
      refine ⟨by simp, .inl ⟨_, _, rfl, ht, ?_⟩⟩
      exact ⟨_, results_tmp3 (t := 2) (u := 3) (v := 4) rfl _ _ _, hP⟩
    have d1 : decide ((u : Int) < 1) = false := by simp; omega
    rcases Nat.lt_or_ge 274877906944 u with hu2 | hu2
    · have d2 : decide ((274877906944 : Int) < (u : Int)) = true := by simp; omega
      go_wp2_with fail
      obtain ⟨w3, ht, hP⟩ := hfin.out wq 0 (.slice none 0 0) HQ.out.2.2.1 HQ.out.1 (by omega) (by omega) (by omega)
      refine ⟨by simp, .inl ⟨_, _, rfl, ht, ?_⟩⟩
      exact ⟨_, results_tmp3 (t := 2) (u := 3) (v := 4) rfl _ _ _, hP⟩
    have d2 : decide ((274877906944 : Int) < (u : Int)) = false := by simp; omega
    rcases Nat.lt_or_ge 498 N with hu3 | hu3
    · have d3 : decide ((498 : Int) < (N : Int)) = true := by simp; omega
      go_wp2_with fail
      obtain ⟨w3, ht, hP⟩ := hfin.out wq 0 (.slice none 0 0) HQ.out.2.2.1 HQ.out.1 (by omega) (by omega) (by omega)
      refine ⟨by simp, .inl ⟨_, _, rfl, ht, ?_⟩⟩
      exact ⟨_, results_tmp3 (t := 2) (u := 3) (v := 4) rfl _ _ _, hP⟩
    have d3 : decide ((498 : Int) < (N : Int)) = false := by simp; omega
    obtain ⟨M, hM⟩ : ∃ M : Nat, 10 + N = M := ⟨_, rfl⟩
    have hM' : IntKind.i64.wrap ((10 : Int) + (N : Int)) = (M : Int) := by rw [wrap_nat (by omega) (by omega)]; omega
    have hM0 : 10 ≤ M := by omega
    have hM1 : M ≤ 508 := by omega
    have hMN : M - 10 = N := by omega
    have hcp : 508 ≤ cap := hcap
    have hd10 : ¬ cap = 10 := by omega
    have hMc : M ≤ cap := by omega
    have hcm' : cap ≤ 9223372036854775807 := hcm
    clear hc2 hult h8l h9l
    go_wp2_with fail
    obtain ⟨AD, hAD⟩ : ∃ AD, (if cap = M then some (⟨g, 0, none⟩ : Addr) else some ⟨g, M, none⟩) = AD := ⟨_, rfl⟩
    have hsl := from_508 g M cap hM1 hcp
    rw [hAD] at hsl
    have HM : Aside (10 + N = M ∧ (if cap = M then some (⟨g, 0, none⟩ : Addr) else some ⟨g, M, none⟩) = AD) := ⟨hM, hAD⟩
    clear hM hAD
    have HT : Aside (∀ W, Below w1.heap.size w1 W → RdB W AD (508 - M) (B.drop M)) := ⟨fun W hW => by
      have h1 := (HR.out W hW).cut (k := M) (by omega)
      rw [← HM.out.2]
      by_cases hc : cap = M
      · rw [if_pos hc]
        refine ⟨by rw [List.length_drop, H0.out.2.2], fun h0 => ?_⟩
        omega
      · rw [if_neg hc]
        have := h1.at4
        rwa [Nat.zero_add] at this⟩
    have hwu : IntKind.i64.wrap (u : Int) = (u : Int) := wrap_nat (by omega) (by omega)
    have hcq := hid cq
    have cu : ∀ W, Below wq.heap.size wq W → W.cell? ⟨w1.heap.size, 0, none⟩ = some (.int .u64 (u : Int)) := fun W hW => (hW.cell (p := ⟨w1.heap.size, 0, none⟩) HX.out.lt).trans cq
    have HC := hid cu
    clear cu
    go_region_held3 (fun w' => w'.cell? ⟨w1.heap.size, 0, none⟩ = some (.int .u64 (u : Int)))
      (first | exact cq | exact HC.out _ (by repeat (first | exact HB1.out.2 | exact Below.refl _ _ | refine bl_drew ?_ | refine bl_alloc ?_ _)))
      ((go_at_call 77
        (with_reducible refine Calls.mono (trim_any AD (508 - M) (cap - M) (B.drop M) _ ?_ ?_ ?_) ?_)
        · exact HT.out _ (by repeat (first | exact HQ.out.2.2.1 | refine bl_drew ?_))
        · omega
        · omega
        rintro e w2 ⟨A', k', c', rfl, hk', hb2⟩
        have HB1 : Aside (decide (k' = 0) = allZ (B.drop M) ∧ Below wq.heap.size wq w2) := ⟨hk', bl_undrew hb2⟩
        clear hk' hb2))
    all_goals
      have hkz : ((k' : Int) == 0) = allZ (B.drop M) := by
        rw [← HB1.out.1, Bool.eq_iff_iff]
        simp only [beq_iff_eq, decide_eq_true_eq]
        omega
      rw [hkz]
      have hD2 : w2.heap[D]? = some (.deferred (some [])) := (HB1.out.2.block D (Array.getElem?_eq_some_iff.1 HQ.out.1).1).trans HQ.out.1
      have hbw2 : Below w1.heap.size w1 w2 := HQ.out.2.2.1.trans (HB1.out.2.mono HQ.out.2.2.1.size)
      cases hz : allZ (B.drop M) with
      | false =>
        obtain ⟨w3, ht, hP⟩ := hfin.out w2 u (.slice (some ⟨g, 10, none⟩) N (cap - 10)) hbw2 hD2 (by omega) (by omega) (by rw [HM.out.1, hz]; rintro ⟨-, -, -, h⟩; cases h)
        have hT3 := hid ht
        clear ht
        go_wp2_with fail
        refine ⟨by simp, .inl ⟨_, _, rfl, hT3.out, ?_⟩⟩
        exact ⟨_, results_tmp3 (t := 2) (u := 3) (v := 4) rfl _ _ _, hP⟩
      | true =>
        have hp : parseL bs = some (u, (B.drop 10).take N) := by
          unfold parseL
          rw [H0.out.1, HN.out.1, HN.out.2.1, HN.out.2.2.1, HQ.out.2.2.2, HM.out.1, if_pos ⟨H0.out.2.1, by omega, by omega, by omega, hz⟩]
        go_wp2_with fail
        refine ⟨by simp, .inl ⟨_, _, rfl, run_takeDeferred hD2, ?_⟩⟩
        refine ⟨_, results_tmp3 (t := 2) (u := 3) (v := 4) rfl _ _ _, ?_⟩
        have hb3 : Below w1.heap.size w1 (w2.putObj D (.deferred none)) := hbw2.trans (belowK_b (w := w1) (Nat.le_refl _) w2 D _ _ (by have := HQ.out.2.1; omega) hD2 rfl rfl)
        have hl : ((B.drop 10).take N).length = N := by rw [List.length_take, List.length_drop, H0.out.2.2]; omega
        refine ⟨u, _, by rw [hp]; rfl, Hb.out.1.trans (hb3.mono Hb.out.1.size), by omega, by omega, ?_⟩
        intro u' used' h'
        rw [hp] at h'
        simp only [Option.some.injEq, Prod.mk.injEq] at h'
        obtain ⟨rfl, rfl⟩ := h'
        rw [hl]
        refine ⟨rfl, g, cap - 10, rfl, Hb.out.2.1, by omega, by omega, ?_⟩
        have h1 := (((HR.out _ hb3).cut (k := 10) (by omega)).take (k := N) (by omega)).at4
        rwa [Nat.zero_add] at h1

theorem wparse_any (A : Option Addr) (c : Nat) (bs : List UInt8) (w : World) (hR : RdB w A 512 bs) (hc : 512 ≤ c) (hc2 : c ≤ 9223372036854775807) :
    Calls Tryz.prog 121 #[.slice A 512 c] w (ParseR bs w) := by
  cases ho : opens bs with
  | false => exact wparse_bad A c bs w hR hc hc2 ho
  | true => exact wparse_good A c bs w hR hc hc2 ho
end Go.Proofs.YthfidlhefkjpdaaGreatDoor

namespace Go.Proofs.YthfidlhefkjpdaaGreatDoor
open Go.RowKit

theorem infoSec : (Tryz.prog.info? 113).map (fun i => (i.zero, i.size, i.bytes)) = some (some (.agg (cellsB (zeros 512))), 512, 512) := by kernel_rfl
theorem sizeSec : (Tryz.prog.info? 113).map (·.size) = some 512 := by kernel_rfl

theorem zeroSec (W : World) : (zeroValue 113).run Tryz.prog W = .ok (.agg (cellsB (zeros 512))) W := by
  obtain ⟨i0, hi0, hz0, hz1, hz2⟩ := info_parts infoSec
  simp [zeroValue, typeInfo, hi0, hz0]

theorem zcSec : Tryz.zeroCells113 = cellsB (zeros 512) := by kernel_rfl

theorem cellsB_size (bs : List UInt8) : (cellsB bs).size = bs.length := by simp [cellsB]
theorem cellsB_one (bs : List UInt8) : (cellsB bs).all (·.oneCell') = true := by
  rw [Array.all_eq_true_iff_forall_mem]
  intro v hv
  simp only [cellsB, List.mem_toArray] at hv
  exact u8_one bs v hv

/-- A sector into a block of a sector. -/
theorem storeSec (W : World) (g : Nat) (c : Array Value) (bs : List UInt8) (h : W.heap[g]? = some (.cells c 113 (0, 0))) (hc : c.size = 512) (hb : bs.length = 512) :
    (Instr.storeAt 113 (.pointer (some ⟨g, 0, none⟩)) (.agg (cellsB bs))).run Tryz.prog W = .ok () (W.setRow g (cellsB bs)) := by
  simp only [Instr.storeAt, Instr.sureAddr, Sem.run_bind, Sem.run_pure, Result.andThen]
  exact run_storeVar_row _ _ _ _ c _ h (by rw [cellsB_size, hb]; exact sizeSec) (by rw [cellsB_size, hb]; exact hc) (cellsB_one bs)

theorem loadSec (W : World) (g : Nat) (bs : List UInt8) (h : W.heap[g]? = some (.cells (cellsB bs) 113 (0, 0))) (hb : bs.length = 512) :
    (Instr.loadAt 113 (.pointer (some ⟨g, 0, none⟩))).run Tryz.prog W = .ok (.agg (cellsB bs)) W := by
  simp only [Instr.loadAt, Instr.sureAddr, Sem.run_bind, Sem.run_pure, Result.andThen]
  exact run_loadVar_row _ _ _ _ _ (0, 0) _ h Tryz.underlying113 rfl (by rw [cellsB_size, hb]; exact sizeSec)

theorem zc_size : Tryz.zeroCells113.size = 512 := by rw [zcSec, cellsB_size, zeros_length]
/-- A sector into the block that was made last, as the walk leaves it. -/
theorem stNew (W : World) (c : Array Value) (bs : List UInt8) (g : Nat) (hg : W.heap.size = g) (hc : c.size = 512) (hb : bs.length = 512) :
    (storeCells ⟨g, 0, none⟩ (cellsB bs).toList).run Tryz.prog (W.alloc (.cells c 113)) = .ok () (W.alloc (.cells (cellsB bs) 113)) := by
  subst hg
  exact run_storeCells_new W _ c (cellsB bs) (by rw [cellsB_size, hb]; exact sizeSec) (by rw [cellsB_size, hb]; exact hc) (cellsB_one bs)
/-- A sector out of a block of one. -/
theorem ldC (W : World) (g : Nat) (bs : List UInt8) (h : W.heap[g]? = some (.cells (cellsB bs) 113 (0, 0))) (hb : bs.length = 512) :
    (loadCells ⟨g, 0, none⟩ 512).run Tryz.prog W = .ok (cellsB bs) W := by
  have := run_loadCells_list (P := Tryz.prog) W ⟨g, 0, none⟩ (cellsB bs).toList (fun j v hv => by
    rw [Addr.add_lit, cell_of_row _ _ _ _ _ _ h]
    simpa using hv)
  simpa [cellsB_size, hb] using this
/-- A sector out of the midst of a row of sectors. -/
theorem ldM (W : World) (g o : Nat) (bs : List UInt8) (h : W.rangeAt g o (bs.map u8)) (hb : bs.length = 512) :
    (loadCells ⟨g, o, none⟩ 512).run Tryz.prog W = .ok (cellsB bs) W := by
  have := run_loadCells_list (P := Tryz.prog) W ⟨g, o, none⟩ (bs.map u8) (fun j v hv => by rw [Addr.add_lit]; exact h j v hv)
  simpa [cellsB, hb] using this

section
variable {ops : Array Oper} {rest : List Oper} {op : Oper} {a : Act} {w : World} {Q : Exit → Act → World → Prop}
/-- 's' read, s a sector wherever it lies. -/
theorem wpList_loadSec (hgd : op.guard = none) (x : Operand) (ho : op.op = .load 113 x) (b o : Nat) (hx : a.eval x = .pointer (some ⟨b, o, none⟩)) (bs : List UInt8)
    (hc : w.rangeAt b o (bs.map u8)) (hb : bs.length = 512) (h : wpList Tryz.prog ops Q rest (a.put op.dst (.agg (cellsB bs))) w) : wpList Tryz.prog ops Q (op :: rest) a w :=
  wpList_load_mid hgd 113 x ho b o hx (bs.map u8) _ hc Tryz.underlying113 rfl (by rw [List.length_map, hb]; exact sizeSec) h

theorem range_of_cells {W : World} {g off : Nat} {t : TypeId} {L bs : List UInt8} (h : W.heap[g]? = some (.cells (cellsB L) t (0, 0))) (hb : (L.drop off).take bs.length = bs) : W.rangeAt g off (bs.map u8) := by
  intro j v hv
  rw [cell_of_row _ _ _ _ _ _ h]
  rw [← hb, List.getElem?_map, List.getElem?_take, List.getElem?_drop] at hv
  split at hv
  · simp only [cellsB, List.getElem?_toArray, List.getElem?_map]
    exact hv
  · cases hv

theorem setCells_row (g : Nat) (t : TypeId) (bs : List UInt8) : ∀ (L : List UInt8) (off : Nat) (W : World), W.heap[g]? = some (.cells (cellsB L) t (0, 0)) → off + bs.length ≤ L.length →
    (W.setCells g off (bs.map u8)).heap[g]? = some (.cells (cellsB (splice L off bs)) t (0, 0)) ∧ Fr (· = g) W (W.setCells g off (bs.map u8)) := by
  induction bs with
  | nil => intro L off W h _; exact ⟨by rw [splice_nil]; exact h, Fr.refl _ _⟩
  | cons c r ih =>
    intro L off W h hl
    simp only [List.map_cons, World.setCells]
    have hl' : off < L.length := by simp at hl; omega
    have h1 : (W.setCell ⟨g, off, none⟩ (u8 c)).heap[g]? = some (.cells (cellsB (L.set off c)) t (0, 0)) := by
      simp only [World.setCell, Array.getElem?_modify, h, if_true, Option.map_some]
      congr 2
      simp only [cellsB, List.setIfInBounds_toArray, List.map_set]
      rfl
    obtain ⟨h2, h3⟩ := ih (L.set off c) (off + 1) _ h1 (by simp at hl ⊢; omega)
    refine ⟨?_, (Fr.set (p := ⟨g, off, none⟩) (Fr.refl (· = g) W) (.inl rfl) (u8 c)).trans h3 (fun _ _ h => h)⟩
    rw [h2]
    have e : splice (L.set off c) (off + 1) r = splice L off (c :: r) := by
      unfold splice
      rw [List.take_set, List.drop_set_of_lt (by omega)]
      rw [List.take_succ_eq_append_getElem hl', List.set_append_right _ _ (by simp; omega)]
      simp [List.length_take, Nat.min_eq_left (Nat.le_of_lt hl')]
      congr 1
      omega
    rw [e]

/-- .. as the walk leaves it. -/
theorem stMid (W : World) (g off : Nat) (L bs : List UInt8) (hg : W.heap[g]? = some (.cells (cellsB L) 113 (0, 0))) (hl : off + 512 ≤ L.length) (hb : bs.length = 512) :
    (storeCells ⟨g, off, none⟩ (cellsB bs).toList).run Tryz.prog W = .ok () (W.setCells g off (bs.map u8)) := by
  have := run_storeCells_cells (P := Tryz.prog) g off (bs.map u8) 0 W
    (fun j hj => by
      rw [Nat.add_zero, cell_of_row _ _ _ _ _ _ hg]
      simp [cellsB] at hj ⊢
      omega)
    (fun j hj => by
      unfold World.frozen?
      rw [show W.heap[g]? = _ from hg]
      simp)
    (u8_one bs)
  simpa [cellsB] using this

/-- 's = ..', s a sector in the midst of a row of sectors. -/
theorem wpList_storeSec (hgd : op.guard = none) (x y : Operand) (ho : op.op = .store 113 x y) (g off : Nat) (hx : a.eval x = .pointer (some ⟨g, off, none⟩)) (L bs : List UInt8) (hy : a.eval y = .agg (cellsB bs))
    (hg : w.heap[g]? = some (.cells (cellsB L) 113 (0, 0))) (hl : off + 512 ≤ L.length) (hb : bs.length = 512)
    (h : ∀ w', w'.heap[g]? = some (.cells (cellsB (splice L off bs)) 113 (0, 0)) → Fr (· = g) w w' → wpList Tryz.prog ops Q rest (a.put op.dst undef) w') : wpList Tryz.prog ops Q (op :: rest) a w := by
  obtain ⟨h1, h2⟩ := setCells_row g 113 bs L off w hg (by omega)
  refine wpList_store_mid hgd 113 x y ho g off (cellsB bs) hx hy ?_ (by rw [cellsB_size, hb]; exact sizeSec) (cellsB_one bs) ?_
  · intro j hj
    rw [cellsB_size, hb] at hj
    refine ⟨?_, ?_⟩
    · rw [cell_of_row _ _ _ _ _ _ hg]
      simp [cellsB]
      omega
    · unfold World.frozen?
      rw [show w.heap[g]? = _ from hg]
      simp
  · exact h _ h1 h2
end
end Go.Proofs.YthfidlhefkjpdaaGreatDoor

namespace Go.Proofs.YthfidlhefkjpdaaGreatDoor
open Go.RowKit Go.Maps

abbrev DV := DataW Value
def heldV (v : Value) : Option (DV × List MemPlace) := some (.held v, [])
def valAt (D : DV) (k : Int) : Option Value := match D.atKey (.int .i64 k) .nil with | .held v => some v | _ => none
def upd (m : Int → Option Value) (k : Int) (v : Value) : Int → Option Value := fun j => if j = k then some v else m j
def wf64 (k : Int) : Prop := -9223372036854775808 ≤ k ∧ k ≤ 9223372036854775807
theorem wf64_lit {k : Int} (h : wf64 k) : (Lit.int .i64 k).wf = true := by
  obtain ⟨h1, h2⟩ := h
  simp only [Lit.wf, Bool.and_eq_true, decide_eq_true_eq]
  exact ⟨h1, h2⟩

/-- Block b of w is a map keyed by ints (type kt) of at most n entries that holds m. -/
def MapAt (P : Program) (kt : TypeId) (w : World) (b n : Nat) (m : Int → Option Value) : Prop :=
  ∃ D : DV, w.ownsMap P kt heldV b n D ∧ (∀ k z, D.atKey (.int .i64 k) z = match m k with | some v => .held v | none => z) ∧ (∀ k, Maps.has D (.int .i64 k) = (m k).isSome)

variable {P : Program} {kt : TypeId} {w w' : World} {b n : Nat} {m : Int → Option Value}

theorem MapAt.made (P : Program) (kt : TypeId) (w : World) : MapAt P kt (w.alloc (.map #[] 0)) w.heap.size 0 (fun _ => none) :=
  ⟨.map [], World.ownsMap_made _ _ _ _, fun _ _ => rfl, fun _ => rfl⟩

theorem MapAt.lt (h : MapAt P kt w b n m) : b < w.heap.size := by
  obtain ⟨D, h1, _⟩ := h
  exact h1.lt

theorem MapAt.mono {n' : Nat} (h : MapAt P kt w b n m) (hn : n ≤ n') : MapAt P kt w b n' m := by
  obtain ⟨D, h1, h2⟩ := h
  exact ⟨D, h1.mono hn, h2⟩

theorem MapAt.kept {row : Option Nat} (h : MapAt P kt w b n m) (hg : w.grownBy w' row) (hne : some b ≠ row) : MapAt P kt w' b n m := by
  obtain ⟨D, h1, h2⟩ := h
  exact ⟨D, h1.kept hg hne, h2⟩

theorem MapAt.block (h : MapAt P kt w b n m) (hb : w'.heap[b]? = w.heap[b]?) : MapAt P kt w' b n m := by
  obtain ⟨D, ⟨es, c, h1, h3⟩, h2⟩ := h
  exact ⟨D, ⟨es, c, hb.trans h1, h3⟩, h2⟩

theorem MapAt.below {B : Nat} (h : MapAt P kt w b n m) (hb : Below B w w') (hlt : b < B) : MapAt P kt w' b n m := h.block (hb.block b hlt)

theorem MapAt.alloc (h : MapAt P kt w b n m) (o : Obj) : MapAt P kt (w.alloc o) b n m := h.kept (World.grownBy_alloc w o none) (by simp)

theorem MapAt.look {t e : TypeId} (h : MapAt P kt w b n m) (hk : P.underlying kt = some (.int .i64)) (ht : P.underlying t = some (.map kt e)) {z : Value} (hz : (zeroValue e).run P w = .ok z w) {k : Int} (hwf : wf64 k) :
    (Instr.lookup t (.map (some b)) (.int .i64 k) false).run P w = .ok ((m k).getD z) w := by
  obtain ⟨D, h1, h2, h3⟩ := h
  obtain ⟨v, ps, hrun, hv⟩ := h1.lookup (int_keyed hk) ht hz (zd := .held z) (zp := []) rfl (keyOf_int_mk hk (wf64_lit hwf))
  rw [hrun]
  rw [h2] at hv
  simp only [heldV] at hv
  cases hm : m k <;> rw [hm] at hv <;> simp at hv <;> rw [hv.1] <;> rfl

theorem MapAt.look_ok {t e : TypeId} (h : MapAt P kt w b n m) (hk : P.underlying kt = some (.int .i64)) (ht : P.underlying t = some (.map kt e)) {z : Value} (hz : (zeroValue e).run P w = .ok z w) {k : Int} (hwf : wf64 k) :
    (Instr.lookup t (.map (some b)) (.int .i64 k) true).run P w = .ok (.tuple #[(m k).getD z, .bool (m k).isSome]) w := by
  obtain ⟨D, h1, h2, h3⟩ := h
  obtain ⟨v, ps, hrun, hv⟩ := h1.look_ok (int_keyed hk) ht hz (zd := .held z) (zp := []) rfl (keyOf_int_mk hk (wf64_lit hwf))
  rw [hrun]
  rw [h2] at hv
  simp only [heldV] at hv
  rw [h3]
  cases hm : m k <;> rw [hm] at hv <;> simp at hv <;> rw [hv.1] <;> rfl

theorem MapAt.store {t e : TypeId} (h : MapAt P kt w b n m) (hk : P.underlying kt = some (.int .i64)) (ht : P.underlying t = some (.map kt e)) (hn : n < maxLen) {k : Int} (hwf : wf64 k) (v : Value) :
    ∃ w', (Instr.mapUpdate t (.map (some b)) (.int .i64 k) v).run P w = .ok () w' ∧ MapAt P kt w' b (n + 1) (upd m k v) ∧ w.mapTurned w' b := by
  obtain ⟨D, h1, h2, h3⟩ := h
  obtain ⟨w', hrun, ho, ht'⟩ := h1.store (int_keyed hk) ht hn (keyOf_int_mk hk (wf64_lit hwf)) (val := v) (d := .held v) (ps := []) rfl
  have hi := h1.isMap
  refine ⟨w', hrun, ⟨_, ho, fun j z => ?_, fun j => ?_⟩, ht'⟩
  · by_cases hj : j = k
    · subst hj
      rw [atKey_put_same hi (show WideAt.IsKeyLit (.int .i64 j) from trivial)]
      simp [upd]
    · rw [atKey_put_other (by simp [hj]), h2]
      simp [upd, hj]
  · by_cases hj : j = k
    · subst hj
      rw [has_put_same hi (show WideAt.IsKeyLit (.int .i64 j) from trivial)]
      simp [upd]
    · rw [has_put_other (by simp [hj]), h3]
      simp [upd, hj]

section
variable {ops : Array Oper} {rest : List Oper} {o : Oper} {a : Act} {Q : Exit → Act → World → Prop}

/-- 'v, ok := m[k]' at the operation. -/
theorem wpList_look_ok (w : World) (hg : o.guard = none) (mo x : Operand) (t : TypeId) (hop : o.op = Op.lookup t mo x true) (kt e : TypeId) (hk : P.underlying kt = some (.int .i64)) (ht : P.underlying t = some (.map kt e))
    {z : Value} (hz : (zeroValue e).run P w = .ok z w) (b n : Nat) (m : Int → Option Value) (hm : a.eval mo = .map (some b)) (hown : MapAt P kt w b n m) (k : Int) (hx : a.eval x = .int .i64 k) (hwf : wf64 k)
    (hK : wpList P ops Q rest (a.put o.dst (.tuple #[(m k).getD z, .bool (m k).isSome])) w) : wpList P ops Q (o :: rest) a w := by
  refine wpList_plain hg fun K' hK' => ?_
  have hrun := hown.look_ok hk ht hz hwf
  unfold Oper.wp
  simp [execOp, hop, hm, hx, hrun, Result.andThen]
  exact hK' _ _ hK

theorem wpList_look (w : World) (hg : o.guard = none) (mo x : Operand) (t : TypeId) (hop : o.op = Op.lookup t mo x false) (kt e : TypeId) (hk : P.underlying kt = some (.int .i64)) (ht : P.underlying t = some (.map kt e))
    {z : Value} (hz : (zeroValue e).run P w = .ok z w) (b n : Nat) (m : Int → Option Value) (hm : a.eval mo = .map (some b)) (hown : MapAt P kt w b n m) (k : Int) (hx : a.eval x = .int .i64 k) (hwf : wf64 k)
    (hK : wpList P ops Q rest (a.put o.dst ((m k).getD z)) w) : wpList P ops Q (o :: rest) a w := by
  refine wpList_plain hg fun K' hK' => ?_
  have hrun := hown.look hk ht hz hwf
  unfold Oper.wp
  simp [execOp, hop, hm, hx, hrun, Result.andThen]
  exact hK' _ _ hK

/-- 'm[k] = v' at the operation. -/
theorem wpList_upd (w : World) (hg : o.guard = none) (mo x vo : Operand) (t : TypeId) (hop : o.op = Op.mapUpdate t mo x vo) (kt e : TypeId) (hk : P.underlying kt = some (.int .i64)) (ht : P.underlying t = some (.map kt e))
    (b n : Nat) (m : Int → Option Value) (hm : a.eval mo = .map (some b)) (hown : MapAt P kt w b n m) (hn : n < maxLen) (k : Int) (hx : a.eval x = .int .i64 k) (hwf : wf64 k) (v : Value) (hv : a.eval vo = v)
    (hK : ∀ w', MapAt P kt w' b (n + 1) (upd m k v) → w.mapTurned w' b → wpList P ops Q rest (a.put o.dst undef) w') : wpList P ops Q (o :: rest) a w := by
  refine wpList_plain hg fun K' hK' => ?_
  obtain ⟨w', hrun, r1, r2⟩ := hown.store hk ht hn hwf v
  unfold Oper.wp
  simp [execOp, hop, hm, hx, hv, hrun, Result.andThen]
  exact hK' _ _ (hK w' r1 r2)
end

end Go.Proofs.YthfidlhefkjpdaaGreatDoor

namespace Go.Proofs.YthfidlhefkjpdaaGreatDoor
open Go.RowKit

structure Dk where
  sec : List (List UInt8)
  pend : Int → Option (List UInt8)
  plan : List (Int × Int)
  steps : Int
  off : Bool

def flat (xs : List (List UInt8)) : List UInt8 := xs.flatten
def encF (x : Int × Int) : List Value := [.int .i64 x.1, .int .i64 x.2]
def encP (pend : Int → Option (List UInt8)) : Int → Option Value := fun k => (pend k).map fun bs => .agg (cellsB bs)

structure Dk.wf (D : Dk) : Prop where
  n : D.sec.length ≤ 4096
  len : ∀ x ∈ D.sec, x.length = 512
  plen : ∀ k bs, D.pend k = some bs → bs.length = 512
  pin : ∀ k, (D.pend k).isSome = true → 0 ≤ k ∧ k < D.sec.length
  s0 : 0 ≤ D.steps
  s1 : D.steps ≤ 1152921504606846976

/-- what a sector has -/
def Dk.has (D : Dk) (i : Nat) : List UInt8 := match D.pend i with | some bs => bs | none => D.sec.getD i []

def DiskAt (w : World) (gd gs gm : Nat) (D : Dk) : Prop :=
  ∃ pv m, Blk w gd 111 #[.slice (some ⟨gs, 0, none⟩) D.sec.length D.sec.length, .map (some gm), pv, .int .i64 D.steps, .bool D.off] ∧
    w.heap[gs]? = some (.cells (cellsB (flat D.sec)) 113 (0, 0)) ∧ MapAt Tryz.prog 3 w gm m (encP D.pend) ∧ (m : Int) ≤ D.steps ∧
    w.ownsRow 0 76 2 pv D.plan.length (D.plan.flatMap encF)
theorem flat_cons (x : List UInt8) (r : List (List UInt8)) : flat (x :: r) = x ++ flat r := by simp [flat]
theorem flat_length {xs : List (List UInt8)} (h : ∀ x ∈ xs, x.length = 512) : (flat xs).length = xs.length * 512 := by
  induction xs with
  | nil => rfl
  | cons x r ih =>
    rw [flat_cons, List.length_append, ih (fun y hy => h y (List.mem_cons_of_mem _ hy)), h x (List.mem_cons_self ..)]
    simp
    omega
theorem flat_piece {xs : List (List UInt8)} (h : ∀ x ∈ xs, x.length = 512) {i : Nat} (hi : i < xs.length) : ((flat xs).drop (i * 512)).take 512 = xs[i] := by
  induction xs generalizing i with
  | nil => simp at hi
  | cons x r ih =>
    have hx := h x (List.mem_cons_self ..)
    cases i with
    | zero => rw [flat_cons, Nat.zero_mul, List.drop_zero, List.take_append_of_le_length (by omega), List.take_of_length_le (by omega)]; rfl
    | succ i =>
      rw [flat_cons, List.drop_append, List.drop_of_length_le (by omega), List.nil_append, show (i + 1) * 512 - x.length = i * 512 by omega]
      exact ih (fun y hy => h y (List.mem_cons_of_mem _ hy)) (by simpa using hi)
theorem flat_set {xs : List (List UInt8)} (h : ∀ x ∈ xs, x.length = 512) {i : Nat} (hi : i < xs.length) {y : List UInt8} (hy : y.length = 512) : splice (flat xs) (i * 512) y = flat (xs.set i y) := by
  induction xs generalizing i with
  | nil => simp at hi
  | cons x r ih =>
    have hx := h x (List.mem_cons_self ..)
    cases i with
    | zero =>
      rw [flat_cons, List.set_cons_zero, flat_cons, splice]
      rw [Nat.zero_mul, List.take_zero, List.nil_append, Nat.zero_add, hy, List.drop_append, List.drop_of_length_le (by omega), List.nil_append, hx]
      simp
    | succ i =>
      rw [flat_cons, List.set_cons_succ, flat_cons, ← ih (fun y hy => h y (List.mem_cons_of_mem _ hy)) (by simpa using hi)]
      unfold splice
      rw [List.take_append, List.take_of_length_le (by omega), List.drop_append, List.drop_of_length_le (by omega), List.nil_append]
      rw [show (i + 1) * 512 - x.length = i * 512 by omega, show (i + 1) * 512 + y.length - x.length = i * 512 + y.length by omega]
      simp [List.append_assoc]
theorem Dk.has_len {D : Dk} (hw : D.wf) {i : Nat} (hi : i < D.sec.length) : (D.has i).length = 512 := by
  unfold Dk.has
  cases h : D.pend i with
  | some bs => exact hw.plen _ _ h
  | none =>
    simp only [List.getD_eq_getElem?_getD, List.getElem?_eq_getElem hi]
    exact hw.len _ (List.getElem_mem hi)
end Go.Proofs.YthfidlhefkjpdaaGreatDoor

namespace Go.Proofs.YthfidlhefkjpdaaGreatDoor
open Go.RowKit

set_option maxRecDepth 100000 in
set_option maxHeartbeats 1000000 in
theorem has_any (gd gs gm : Nat) (D : Dk) (i : Nat) (w : World) (hD : DiskAt w gd gs gm D) (hw : D.wf) (hi : i < D.sec.length) :
    Calls Tryz.prog 55 #[.pointer (some ⟨gd, 0, none⟩), .int .i64 (i : Int)] w fun e w' => e = .returned (.agg (cellsB (D.has i))) ∧ Below w.heap.size w w' := by
  obtain ⟨pv, m, hB, hS, hM, _, _⟩ := hD
  have c1 := hB.cell 1
  have c0 := hB.cell 0
  simp at c0 c1
  have hgd := hB.lt
  have hgs := (Array.getElem?_eq_some_iff.1 hS).1
  have hwf : wf64 (i : Int) := by have := hw.n; unfold wf64; omega
  have look := (hM.alloc (.cells Tryz.zeroCells113 113)).look_ok Tryz.underlying3 Tryz.underlying109 (zeroSec _) hwf
  have ze := zcSec
  cases hp : D.pend i with
  | some bs =>
    simp only [encP, hp, Option.map_some, Option.getD_some, Option.isSome_some] at look
    have hbl : bs.length = 512 := hw.plen _ _ hp
    have hsz : (cellsB bs).size = 512 := by rw [cellsB_size, hbl]
    have st1 := stNew (w.alloc (.cells Tryz.zeroCells113 113)) Tryz.zeroCells113 bs (w.heap.size + 1) (World.size_alloc _ _) zc_size hbl
    clear hM hS hB ze
    have hz0 : ((w.alloc (.cells Tryz.zeroCells113 113)).alloc (.cells (cellsB bs) 113)).heap[w.heap.size]? = some (.cells (cellsB (zeros 512)) 113 (0, 0)) := by rw [heap_at0, zcSec]
    have Z : Aside (((w.alloc (.cells Tryz.zeroCells113 113)).alloc (.cells (cellsB bs) 113)).heap[w.heap.size]? = some (.cells (cellsB (zeros 512)) 113 (0, 0)) ∧
      ((w.alloc (.cells Tryz.zeroCells113 113)).alloc (.cells (cellsB bs) 113)).rangeAt (w.heap.size + 1) 0 (bs.map u8) ∧ bs.length = 512 ∧ D.has i = bs) :=
      ⟨hz0, range_of_cells (heap_at1 _ _ _) (by rw [List.drop_zero, List.take_length]), hbl, by simp [Dk.has, hp]⟩
    clear hz0 hbl hp
    go_enter Tryz.func55, Tryz.ntmps55
    go_wp2_with (first
      | (refine wpList_loadSec (op := ⟨some 17, _, _, _, _, _⟩) (by rfl) (.tmp 5) (by rfl) (w.heap.size + 1) 0 (by rfl) bs Z.out.2.1 Z.out.2.2.1 ?_)
      | ((refine wpList_storeSec (by rfl) (.tmp 4) (.tmp 17) (by rfl) w.heap.size 0 (by rfl) (zeros 512) bs (by rfl) Z.out.1 ?_ Z.out.2.2.1 ?_)
         · rw [zeros_length]; omega
         intro w2 hg2 hf2
         have Z2 : Aside (w2.heap[w.heap.size]? = some (.cells (cellsB (splice (zeros 512) 0 bs)) 113 (0, 0)) ∧ Fr (· = w.heap.size) ((w.alloc (.cells Tryz.zeroCells113 113)).alloc (.cells (cellsB bs) 113)) w2) := ⟨hg2, hf2⟩
         clear hg2 hf2))
    have e : splice (zeros 512) 0 bs = bs := by
      have := Z.out.2.2.1
      simp [splice, zeros, this]
    have h2 := Z2.out.1
    rw [e] at h2
    refine bodyPost_ret (results_cell_row rfl _ _ w.heap.size 113 (cellsB bs) (0, 0) _ rfl h2 Tryz.underlying113 rfl (by rw [cellsB_size, Z.out.2.2.1]; exact sizeSec)) rfl ?_
    refine ⟨by rw [Z.out.2.2.2], ?_⟩
    exact ((bl_alloc (bl_alloc (Below.refl _ _) _) _)).trans (Z2.out.2.below (by rw [World.size_alloc, World.size_alloc]; omega) (fun x hx => by rw [hx]; exact Nat.le_refl _))
  | none =>
    simp only [encP, hp, Option.map_none, Option.getD_none, Option.isSome_none] at look
    have hsz : (cellsB (zeros 512)).size = 512 := by rw [cellsB_size, zeros_length]
    have st1 := stNew (w.alloc (.cells Tryz.zeroCells113 113)) Tryz.zeroCells113 (zeros 512) (w.heap.size + 1) (World.size_alloc _ _) zc_size (zeros_length _)
    have hz0 : ((w.alloc (.cells Tryz.zeroCells113 113)).alloc (.cells (cellsB (zeros 512)) 113)).heap[w.heap.size]? = some (.cells (cellsB (zeros 512)) 113 (0, 0)) := by rw [heap_at0, zcSec]
    have hrg : ((w.alloc (.cells Tryz.zeroCells113 113)).alloc (.cells (cellsB (zeros 512)) 113)).rangeAt gs (i * 512) (D.sec[i].map u8) := by
      refine range_of_cells (t := 113) (L := flat D.sec) ?_ ?_
      · exact ((bl_alloc (bl_alloc (Below.refl w.heap.size w) _) _).block gs hgs).trans hS
      · rw [hw.len _ (List.getElem_mem hi)]; exact flat_piece hw.len hi
    have Z : Aside (((w.alloc (.cells Tryz.zeroCells113 113)).alloc (.cells (cellsB (zeros 512)) 113)).heap[w.heap.size]? = some (.cells (cellsB (zeros 512)) 113 (0, 0)) ∧
      ((w.alloc (.cells Tryz.zeroCells113 113)).alloc (.cells (cellsB (zeros 512)) 113)).rangeAt gs (i * 512) (D.sec[i].map u8) ∧ D.sec[i].length = 512 ∧ D.has i = D.sec[i]) :=
      ⟨hz0, hrg, hw.len _ (List.getElem_mem hi), by simp [Dk.has, hp, List.getD_eq_getElem?_getD, List.getElem?_eq_getElem hi]⟩
    have hn := hw.n
    clear hz0 hp hrg hM hS hB hw ze
    obtain ⟨sb, hsb⟩ : ∃ sb, D.sec[i] = sb := ⟨_, rfl⟩
    rw [hsb] at Z
    obtain ⟨n, hnn⟩ : ∃ n, D.sec.length = n := ⟨_, rfl⟩
    rw [hnn] at c0 hn
    have hin : i < n := by omega
    clear hsb hnn
    go_enter Tryz.func55, Tryz.ntmps55
    go_wp2_with (first
      | (refine wpList_loadSec (op := ⟨some 24, _, _, _, _, _⟩) (by rfl) (.tmp 23) (by rfl) gs (i * 512) (by rfl) sb Z.out.2.1 Z.out.2.2.1 ?_)
      | ((refine wpList_storeSec (by rfl) (.tmp 4) (.tmp 24) (by rfl) w.heap.size 0 (by rfl) (zeros 512) sb (by rfl) Z.out.1 ?_ Z.out.2.2.1 ?_)
         · rw [zeros_length]; omega
         intro w2 hg2 hf2
         have Z2 : Aside (w2.heap[w.heap.size]? = some (.cells (cellsB (splice (zeros 512) 0 sb)) 113 (0, 0)) ∧ Fr (· = w.heap.size) ((w.alloc (.cells Tryz.zeroCells113 113)).alloc (.cells (cellsB (zeros 512)) 113)) w2) := ⟨hg2, hf2⟩
         clear hg2 hf2))
    have e : splice (zeros 512) 0 sb = sb := by
      have := Z.out.2.2.1
      simp [splice, zeros, this]
    have h2 := Z2.out.1
    rw [e] at h2
    refine bodyPost_ret (results_cell_row rfl _ _ w.heap.size 113 (cellsB sb) (0, 0) _ rfl h2 Tryz.underlying113 rfl (by rw [cellsB_size, Z.out.2.2.1]; exact sizeSec)) rfl ?_
    refine ⟨by rw [Z.out.2.2.2], ?_⟩
    exact ((bl_alloc (bl_alloc (Below.refl _ _) _) _)).trans (Z2.out.2.below (by rw [World.size_alloc, World.size_alloc]; omega) (fun x hx => by rw [hx]; exact Nat.le_refl _))

end Go.Proofs.YthfidlhefkjpdaaGreatDoor
