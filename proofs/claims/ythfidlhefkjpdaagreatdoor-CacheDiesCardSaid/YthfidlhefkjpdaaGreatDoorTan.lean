/- wal.parse.
   The frame of a disk; what every disk's law keeps.
   what a built log sector says; wal.outside; wal.Format.
   append of bytes, nil or not, onto bytes of one's own. -/
import Derived.Test.YthfidlhefkjpdaaGreatDoorTah
import Derived.Test.YthfidlhefkjpdaaGreatDoorTai
import Derived.Test.YthfidlhefkjpdaaGreatDoorTaj
import Derived.Test.YthfidlhefkjpdaaGreatDoorTam
import Derived.Test.YthfidlhefkjpdaaGreatDoorTae
import Derived.Test.YthfidlhefkjpdaaGreatDoorTad
import Derived.Test.YthfidlhefkjpdaaGreatDoorTaa
import Derived.Test.YthfidlhefkjpdaaGreatDoorTaf
import Derived.Deep.RegionLaw
import Derived.RegionTactic
namespace Go.Proofs.YthfidlhefkjpdaaGreatDoor
open Go.RowKit Go.Shelf
attribute [local go_sem] Oper.semAt_some

/-- what a log sector says -/
def parseL (bs : List UInt8) : Option (Nat × List UInt8) :=
  if opens bs = true ∧ 1 ≤ lowN ((bs.drop 4).take 8) ∧ lowN ((bs.drop 4).take 8) ≤ 274877906944 ∧ ((bs.drop 4).getD 8 0).toNat + 256 * ((bs.drop 4).getD 9 0).toNat ≤ 498 ∧
      allZ ((bs.drop 4).drop (10 + (((bs.drop 4).getD 8 0).toNat + 256 * ((bs.drop 4).getD 9 0).toNat))) = true then
    some (lowN ((bs.drop 4).take 8), ((bs.drop 4).drop 10).take (((bs.drop 4).getD 8 0).toNat + 256 * ((bs.drop 4).getD 9 0).toNat))
  else none

def ParseR (bs : List UInt8) (w : World) (e : Ending) (w' : World) : Prop :=
  ∃ r v, e = .returned (.tuple #[.int .i64 r, v, .bool (parseL bs).isSome]) ∧ Below w.heap.size w w' ∧ 0 ≤ r ∧ r ≤ 274877906944 ∧
    ∀ u used, parseL bs = some (u, used) → r = (u : Int) ∧ ∃ g c, v = .slice (some ⟨g, 10, none⟩) used.length c ∧ w.heap.size ≤ g ∧ used.length ≤ c ∧ c ≤ maxLen ∧ RdB w' (some ⟨g, 10, none⟩) used.length used

theorem from_508 (g M cap : Nat) (hM : M ≤ 508) (hc : 508 ≤ cap) (W : World) :
    (Instr.sliceAt 43 (.slice (some ⟨g, 0, none⟩) 508 cap) (some (.int .i64 (M : Int))) none none).run Tryz.prog W = .ok (.slice (if cap = M then some ⟨g, 0, none⟩ else some ⟨g, M, none⟩) (508 - M) (cap - M)) W := by
  have h2 : (M : Int) ≤ 508 := by omega
  by_cases h : cap = M
  · obtain rfl : M = 508 := by omega
    subst h
    simp [go_sem, sliced]
  · simp [go_sem, sliced, h, h2, Addr.add_lit]

theorem wparse_bad (A : Option Addr) (c : Nat) (bs : List UInt8) (w : World) (hR : RdB w A 512 bs) (hc : 512 ≤ c) (hc2 : c ≤ 9223372036854775807) (ho : opens bs = false) :
    Calls Tryz.prog 121 #[.slice A 512 c] w (ParseR bs w) := by
  have hop := open_bad A 512 c bs w hR (by omega) (by omega) hc hc2 ho
  have hn : parseL bs = none := by unfold parseL; rw [if_neg]; rintro ⟨h, _⟩; rw [ho] at h; cases h
  clear hR
  go_enter Tryz.func121, Tryz.ntmps121
  go_wp2_with fail
  refine hop.mono ?_
  rintro e w1 ⟨rfl, hb1⟩
  go_wp2_with fail
  go_ret3
  refine ⟨0, _, by rw [hn]; rfl, hb1, by omega, by omega, fun u used h => by rw [hn] at h; cases h⟩

set_option maxRecDepth 100000 in
set_option maxHeartbeats 1000000 in
theorem wparse_good (A : Option Addr) (c : Nat) (bs : List UInt8) (w : World) (hR : RdB w A 512 bs) (hc : 512 ≤ c) (hc2 : c ≤ 9223372036854775807) (ho : opens bs = true) :
    Calls Tryz.prog 121 #[.slice A 512 c] w (ParseR bs w) := by
  have hop := open_ok A 512 c bs w hR (by omega) (by omega) hc hc2 ho
  have hbl := hR.1
  clear hR
  obtain ⟨B, hB⟩ : ∃ B, bs.drop 4 = B := ⟨_, rfl⟩
  have hBl : B.length = 508 := by rw [← hB, List.length_drop, hbl]
  rw [hB] at hop
  have H0 : Aside (bs.drop 4 = B ∧ opens bs = true ∧ B.length = 508) := ⟨hB, ho, hBl⟩
  clear hB ho hBl hbl
  refine (callsIn_wide (n := 4)).1 ?_
  refine callsIn_of_wp_marks Tryz.func121 rfl trivial ?_ rfl
  refine wpIn_wide.2 ?_
  simp only [Tryz.ntmps121, List.size_toArray, List.length_cons, List.length_nil, Nat.reduceAdd, Nat.reduceSub, Array.replicate_succ, Array.replicate_zero, List.push_toArray, List.append_toArray, List.nil_append, List.cons_append]
  go_wp2_with fail
  refine hop.mono ?_
  rintro e w1 ⟨v, rfl, hown, hb1⟩
  obtain ⟨A1, cap, rfl, hcap, hcm, hcl⟩ := own_form hown
  obtain ⟨g, rfl, hg1, hg2, -⟩ := hcl (by omega)
  have hR1 := RdB.of_own hown
  have HR : Aside (∀ W, Below w1.heap.size w1 W → RdB W (some ⟨g, 0, none⟩) 508 B) := ⟨fun W hb => hR1.below hb⟩
  have Hb : Aside (Below w.heap.size w w1 ∧ w.heap.size ≤ g ∧ g < w1.heap.size ∧ 508 ≤ cap ∧ cap ≤ maxLen) := ⟨hb1, hg1, hg2, hcap, hcm⟩
  clear hown hb1 hop hR1 hg1 hg2
  have hcap8 : (8 : Nat) ≤ cap := by omega
  go_wp2_with (go_at_call 111; refine (callsIn_wide.1 (backB_in Fence.wide 4 trivial rfl _ _ _ _)).mono ?_; rintro e w' ⟨rfl, rfl⟩)
  clear hcl
  have hs := Boxed.new w1 136 (.int .u64 0)
  have hb := Boxed.new (w1.alloc (.cells #[.int .u64 0] 136)) 43 (.slice (some ⟨g, 0, none⟩) 8 cap)
  rw [World.size_alloc] at hb
  have hB0 : Below w1.heap.size w1 ((w1.alloc (.cells #[.int .u64 0] 136)).alloc (.cells #[.slice (some ⟨g, 0, none⟩) 8 cap] 43)) := ((Below.refl _ w1).alloc (Nat.le_refl _) _).alloc (by simp) _
  have hR8 : RdB w1 (some ⟨g, 0, none⟩) 8 (B.take 8) := (HR.out _ (Below.refl _ _)).take (by omega)
  have hl8 : (B.take 8).length = 8 := by rw [List.length_take, H0.out.2.2]; rfl
  refine (wpIn_wide (n := 4)).1 ?_
  refine wpIn_rangeFunc_ownF rfl (by omega) (gf := 142) (lb := #[.pointer (some ⟨w1.heap.size + 1, 0, none⟩)]) rfl trivial (enters_of Tryz.func142 (by kernel_rfl) rfl)
    (backB_stops Fence.wide (4 - 1) trivial rfl (by omega) (w1.heap.size + 1) w1.heap.size 8 cap (some ⟨g, 0, none⟩) (B.take 8) _ (by simp) hb.cell w1 hR8 (Nat.le_refl _) hB0 (by omega)) KpB.trans (KpB.put (by simp; omega)) (Below.refl _ _) (fun _ => rfl)
    (fun pre W => Boxed W w1.heap.size 136 (.int .u64 (lowP pre : Int)) ∧ Below w1.heap.size w1 W)
    (fun _ _ _ => False)
    (OwnFrom.and (Own.from (boxed_own _ _ _) _) (ownFrom_below (Nat.le_refl _) (by simp; omega)))
    (fun _ _ _ _ _ hs _ _ => hs)
    ⟨hs.alloc _, hB0⟩
    (fun x => { tmps := #[.slice A 512 c, undef, .int .i64 0, .slice none 0 0, .bool true, .slice (some ⟨g, 0, none⟩) 508 cap, .pointer (some ⟨w1.heap.size, 0, none⟩), undef, .int .u8 (x.2.toNat : Int), undef, .tuple #[.slice (some ⟨g, 0, none⟩) 508 cap, .bool true], .slice A 512 c, .tuple #[.slice (some ⟨g, 0, none⟩) 508 cap, .bool true], .slice (some ⟨g, 0, none⟩) 508 cap, .bool true, .bool true, .bool false, .slice (some ⟨g, 0, none⟩) 508 cap, .slice (some ⟨g, 0, none⟩) 8 cap, .func (.func 142) #[] #[.pointer (some ⟨w1.heap.size + 1, 0, none⟩)], .int .i64 (x.1 : Int), .int .u8 (x.2.toNat : Int), undef, undef, undef, undef, undef, undef, undef, undef, undef, undef, undef, undef, undef, undef, undef, undef, undef, undef, undef, undef, undef, undef, undef, undef, undef, undef, undef, undef, undef, undef, undef, undef, undef, undef, undef, undef, undef, undef, undef], defers := [] }) ?assign ?body ?done ?stop
  case assign =>
    intro l x W K hK
    unfold encB
    gi_wp2
    exact hK
  case body =>
    rintro l pre x W ⟨hc, hB⟩ _
    have c1 := hc.cell
    have c2 := hc.frozen
    have hp := lowP_lt pre
    have hx := x.2.toNat_lt
    have hor := hid (stepL_bits (lowP pre) x)
    gi_wp2
    rw [hor.out, ← lowP_snoc]
    exact ⟨KeepsOthers.setCell _ _ _, ⟨(Below.refl w1.heap.size W).setCell (p := ⟨w1.heap.size, 0, none⟩) (Nat.le_refl _) _, fun u hu => (World.cell?_setCell_other _ _ _ _ (fun h => by have := congrArg Addr.block h; simp at this)).trans hu⟩, hc.set _, hB.setCell (p := ⟨w1.heap.size, 0, none⟩) (Nat.le_refl _) _⟩
  case stop =>
    rintro D c pre W _ _ h _
    exact h.elim
  case done =>
    rintro D ys W hD rfl ⟨hc, hB⟩ hK
    have hlow : lowP (backU (B.take 8) (B.take 8).length) = lowN (B.take 8) := lowP_all _ (by omega)
    rw [hlow] at hc
    obtain ⟨u, hu⟩ : ∃ u, lowN (B.take 8) = u := ⟨_, rfl⟩
    have hult : u < 18446744073709551616 := by rw [← hu, ← hlow]; exact lowP_lt _
    rw [hu] at hc
    have c1 := hc.cell
    have hRW := HR.out W hB
    have HK : Aside (W.heap[D]? = some (.deferred (some [])) ∧ w1.heap.size + 2 ≤ D) := ⟨hK, by simpa using hD⟩
    have hBl := H0.out.2.2
    have hcc : ∀ i (h : i < B.length), W.cell? ⟨g, i, none⟩ = some (.int .u8 (B[i].toNat : Int)) := by
      obtain ⟨b', o', e1, -, hcc⟩ := hRW.2 (by omega)
      injection e1 with e1; injection e1 with e1 e2; subst e1 e2
      intro i h
      have := hcc i h
      rwa [Nat.zero_add] at this
    obtain ⟨b8, hb8⟩ : ∃ b8, B[8] = b8 := ⟨_, rfl⟩
    obtain ⟨b9, hb9⟩ : ∃ b9, B[9] = b9 := ⟨_, rfl⟩
    have k8 := hcc 8 (by omega)
    have k9 := hcc 9 (by omega)
    rw [hb8] at k8
    rw [hb9] at k9
    have e8 : B.getD 8 0 = b8 := by rw [List.getD_eq_getElem?_getD, List.getElem?_eq_getElem (by omega), hb8]; rfl
    have e9 : B.getD 9 0 = b9 := by rw [List.getD_eq_getElem?_getD, List.getElem?_eq_getElem (by omega), hb9]; rfl
    obtain ⟨x8, hx8⟩ : ∃ x, b8.toNat = x := ⟨_, rfl⟩
    obtain ⟨x9, hx9⟩ : ∃ x, b9.toNat = x := ⟨_, rfl⟩
    have h8l : x8 < 256 := by rw [← hx8]; exact b8.toNat_lt
    have h9l : x9 < 256 := by rw [← hx9]; exact b9.toNat_lt
    rw [hx8] at k8
    rw [hx9] at k9
    rw [← e8] at hx8
    rw [← e9] at hx9
    have HN : Aside (lowN (B.take 8) = u ∧ (B.getD 8 0).toNat = x8 ∧ (B.getD 9 0).toNat = x9 ∧ Below w1.heap.size w1 W) := ⟨hu, hx8, hx9, hB⟩
    clear hcc hb8 hb9 e8 e9 hx8 hx9 hRW hlow hu hK hD hl8 hR8 hB0 hb hs hBl
    have h2b := hid (two_bytes x8 x9 h8l h9l)
    go_wp2_with fail
    go_region_held3 (fun w' => w'.cell? ⟨g, 8, none⟩ = some (.int .u8 (x8 : Int)) ∧ w'.cell? ⟨g, 9, none⟩ = some (.int .u8 (x9 : Int))) (exact ⟨k8, k9⟩) (fail)
    obtain ⟨N, hN⟩ : ∃ N, x8 + 256 * x9 = N := ⟨_, rfl⟩
    have w8 : IntKind.i64.wrap (x8 : Int) = x8 := wrap_nat (by omega) (by omega)
    have w9 : IntKind.i64.wrap (x9 : Int) = x9 := wrap_nat (by omega) (by omega)
    have w9b : IntKind.i64.wrap ((x9 : Int) * 256) = (x9 : Int) * 256 := wrap_nat (by omega) (by omega)
    rw [w8, w9, w9b, h2b.out, hN]
    clear w8 w9 w9b
    obtain ⟨wq, hwq⟩ : ∃ wq, W.drew = wq := ⟨_, rfl⟩
    have cq : wq.cell? ⟨w1.heap.size, 0, none⟩ = some (.int .u64 (u : Int)) := by rw [← hwq]; exact c1
    have HQ : Aside (wq.heap[D]? = some (.deferred (some [])) ∧ w1.heap.size + 2 ≤ D ∧ Below w1.heap.size w1 wq ∧ x8 + 256 * x9 = N) := by
      refine ⟨?_, HK.out.2, ?_, hN⟩
      · rw [← hwq]; exact HK.out.1
      · rw [← hwq]; exact bl_drew HN.out.2.2.2
    have hNl : N < 65536 := by omega
    have HX : Aside (Boxed wq w1.heap.size 136 (.int .u64 (u : Int))) := ⟨by rw [← hwq]; exact hc⟩
    rw [hwq]
    clear hwq c1 HK hN h2b k8 k9 hc hB
    have hfin : ∀ w2 r v, Below w1.heap.size w1 w2 → w2.heap[D]? = some (.deferred (some [])) → 0 ≤ r → r ≤ 274877906944 → ¬ (1 ≤ u ∧ u ≤ 274877906944 ∧ N ≤ 498 ∧ allZ (B.drop (10 + N)) = true) →
        ∃ w3, (Instr.takeDeferred D).run Tryz.prog w2 = .ok [] w3 ∧ ParseR bs w (.returned (.tuple #[.int .i64 r, v, .bool false])) w3 := by
      intro w2 r v hb2 hD2 hr0 hr1 hno
      refine ⟨_, run_takeDeferred hD2, ?_⟩
      have hn : parseL bs = none := by
        unfold parseL
        rw [if_neg]
        rw [H0.out.1, HN.out.1, HN.out.2.1, HN.out.2.2.1, HQ.out.2.2.2]
        rintro ⟨-, h⟩
        exact hno h
      refine ⟨r, v, by rw [hn]; rfl, ?_, hr0, hr1, fun u used h => by rw [hn] at h; cases h⟩
      exact (Hb.out.1.trans (hb2.mono Hb.out.1.size)).trans (belowK_b (w := w) (Nat.le_refl _) w2 D _ _ (by have := HQ.out.2.1; have := Hb.out.1.size; omega) hD2 rfl rfl)
    have hfin := hid hfin
    rcases Nat.lt_or_ge u 1 with hu1 | hu1
    · have d1 : decide ((u : Int) < 1) = true := by simp; omega
      go_wp2_with fail
      obtain ⟨w3, ht, hP⟩ := hfin.out wq 0 (.slice none 0 0) HQ.out.2.2.1 HQ.out.1 (by omega) (by omega) (by omega)
      refine ⟨by simp, .inl ⟨_, _, rfl, ht, ?_⟩⟩
      exact ⟨_, results_tmp3 (t := 2) (u := 3) (v := 4) rfl _ _ _, hP⟩
    have d1 : decide ((u : Int) < 1) = false := by simp; omega
    rcases Nat.lt_or_ge 274877906944 u with hu2 | hu2
    · have d2 : decide ((274877906944 : Int) < (u : Int)) = true := by simp; omega
      go_wp2_with fail
      obtain ⟨w3, ht, hP⟩ := hfin.out wq 0 (.slice none 0 0) HQ.out.2.2.1 HQ.out.1 (by omega) (by omega) (by omega)
      refine ⟨by simp, .inl ⟨_, _, rfl, ht, ?_⟩⟩
      exact ⟨_, results_tmp3 (t := 2) (u := 3) (v := 4) rfl _ _ _, hP⟩
    have d2 : decide ((274877906944 : Int) < (u : Int)) = false := by simp; omega
    rcases Nat.lt_or_ge 498 N with hu3 | hu3
    · have d3 : decide ((498 : Int) < (N : Int)) = true := by simp; omega
      go_wp2_with fail
      obtain ⟨w3, ht, hP⟩ := hfin.out wq 0 (.slice none 0 0) HQ.out.2.2.1 HQ.out.1 (by omega) (by omega) (by omega)
      refine ⟨by simp, .inl ⟨_, _, rfl, ht, ?_⟩⟩
      exact ⟨_, results_tmp3 (t := 2) (u := 3) (v := 4) rfl _ _ _, hP⟩
    have d3 : decide ((498 : Int) < (N : Int)) = false := by simp; omega
    obtain ⟨M, hM⟩ : ∃ M : Nat, 10 + N = M := ⟨_, rfl⟩
    have hM' : IntKind.i64.wrap ((10 : Int) + (N : Int)) = (M : Int) := by rw [wrap_nat (by omega) (by omega)]; omega
    have hM0 : 10 ≤ M := by omega
    have hM1 : M ≤ 508 := by omega
    have hMN : M - 10 = N := by omega
    have hcp : 508 ≤ cap := hcap
    have hd10 : ¬ cap = 10 := by omega
    have hMc : M ≤ cap := by omega
    have hcm' : cap ≤ 9223372036854775807 := hcm
    clear hc2 hult h8l h9l
    go_wp2_with fail
    obtain ⟨AD, hAD⟩ : ∃ AD, (if cap = M then some (⟨g, 0, none⟩ : Addr) else some ⟨g, M, none⟩) = AD := ⟨_, rfl⟩
    have hsl := from_508 g M cap hM1 hcp
    rw [hAD] at hsl
    have HM : Aside (10 + N = M ∧ (if cap = M then some (⟨g, 0, none⟩ : Addr) else some ⟨g, M, none⟩) = AD) := ⟨hM, hAD⟩
    clear hM hAD
    have HT : Aside (∀ W, Below w1.heap.size w1 W → RdB W AD (508 - M) (B.drop M)) := ⟨fun W hW => by
      have h1 := (HR.out W hW).cut (k := M) (by omega)
      rw [← HM.out.2]
      by_cases hc : cap = M
      · rw [if_pos hc]
        refine ⟨by rw [List.length_drop, H0.out.2.2], fun h0 => ?_⟩
        omega
      · rw [if_neg hc]
        have := h1.at4
        rwa [Nat.zero_add] at this⟩
    have hwu : IntKind.i64.wrap (u : Int) = (u : Int) := wrap_nat (by omega) (by omega)
    have hcq := hid cq
    have cu : ∀ W, Below wq.heap.size wq W → W.cell? ⟨w1.heap.size, 0, none⟩ = some (.int .u64 (u : Int)) := fun W hW => (hW.cell (p := ⟨w1.heap.size, 0, none⟩) HX.out.lt).trans cq
    have HC := hid cu
    clear cu
    go_region_held3 (fun w' => w'.cell? ⟨w1.heap.size, 0, none⟩ = some (.int .u64 (u : Int)))
      (first | exact cq | exact HC.out _ (by repeat (first | exact HB1.out.2 | exact Below.refl _ _ | refine bl_drew ?_ | refine bl_alloc ?_ _)))
      ((go_at_call 77
        (with_reducible refine Calls.mono (trim_any AD (508 - M) (cap - M) (B.drop M) _ ?_ ?_ ?_) ?_)
        · exact HT.out _ (by repeat (first | exact HQ.out.2.2.1 | refine bl_drew ?_))
        · omega
        · omega
        rintro e w2 ⟨A', k', c', rfl, hk', hb2⟩
        have HB1 : Aside (decide (k' = 0) = allZ (B.drop M) ∧ Below wq.heap.size wq w2) := ⟨hk', bl_undrew hb2⟩
        clear hk' hb2))
    all_goals
      have hkz : ((k' : Int) == 0) = allZ (B.drop M) := by
        rw [← HB1.out.1, Bool.eq_iff_iff]
        simp only [beq_iff_eq, decide_eq_true_eq]
        omega
      rw [hkz]
      have hD2 : w2.heap[D]? = some (.deferred (some [])) := (HB1.out.2.block D (Array.getElem?_eq_some_iff.1 HQ.out.1).1).trans HQ.out.1
      have hbw2 : Below w1.heap.size w1 w2 := HQ.out.2.2.1.trans (HB1.out.2.mono HQ.out.2.2.1.size)
      cases hz : allZ (B.drop M) with
      | false =>
        obtain ⟨w3, ht, hP⟩ := hfin.out w2 u (.slice (some ⟨g, 10, none⟩) N (cap - 10)) hbw2 hD2 (by omega) (by omega) (by rw [HM.out.1, hz]; rintro ⟨-, -, -, h⟩; cases h)
        have hT3 := hid ht
        clear ht
        go_wp2_with fail
        refine ⟨by simp, .inl ⟨_, _, rfl, hT3.out, ?_⟩⟩
        exact ⟨_, results_tmp3 (t := 2) (u := 3) (v := 4) rfl _ _ _, hP⟩
      | true =>
        have hp : parseL bs = some (u, (B.drop 10).take N) := by
          unfold parseL
          rw [H0.out.1, HN.out.1, HN.out.2.1, HN.out.2.2.1, HQ.out.2.2.2, HM.out.1, if_pos ⟨H0.out.2.1, by omega, by omega, by omega, hz⟩]
        go_wp2_with fail
        refine ⟨by simp, .inl ⟨_, _, rfl, run_takeDeferred hD2, ?_⟩⟩
        refine ⟨_, results_tmp3 (t := 2) (u := 3) (v := 4) rfl _ _ _, ?_⟩
        have hb3 : Below w1.heap.size w1 (w2.putObj D (.deferred none)) := hbw2.trans (belowK_b (w := w1) (Nat.le_refl _) w2 D _ _ (by have := HQ.out.2.1; omega) hD2 rfl rfl)
        have hl : ((B.drop 10).take N).length = N := by rw [List.length_take, List.length_drop, H0.out.2.2]; omega
        refine ⟨u, _, by rw [hp]; rfl, Hb.out.1.trans (hb3.mono Hb.out.1.size), by omega, by omega, ?_⟩
        intro u' used' h'
        rw [hp] at h'
        simp only [Option.some.injEq, Prod.mk.injEq] at h'
        obtain ⟨rfl, rfl⟩ := h'
        rw [hl]
        refine ⟨rfl, g, cap - 10, rfl, Hb.out.2.1, by omega, by omega, ?_⟩
        have h1 := (((HR.out _ hb3).cut (k := 10) (by omega)).take (k := N) (by omega)).at4
        rwa [Nat.zero_add] at h1

theorem wparse_any (A : Option Addr) (c : Nat) (bs : List UInt8) (w : World) (hR : RdB w A 512 bs) (hc : 512 ≤ c) (hc2 : c ≤ 9223372036854775807) :
    Calls Tryz.prog 121 #[.slice A 512 c] w (ParseR bs w) := by
  cases ho : opens bs with
  | false => exact wparse_bad A c bs w hR hc hc2 ho
  | true => exact wparse_good A c bs w hR hc hc2 ho
end Go.Proofs.YthfidlhefkjpdaaGreatDoor

namespace Go.Proofs.YthfidlhefkjpdaaGreatDoor
open Go.RowKit

theorem DiskAt.fr {w w' : World} {gd gs gm : Nat} {D : Dk} {T : Nat → Prop} (h : DiskAt w gd gs gm D) (hf : Fr T w w') (hT : ∀ b, T b → b ≠ gd ∧ b ≠ gs ∧ b ≠ gm) (hF : ∀ b, Ty w b 76 → ¬ T b) : DiskAt w' gd gs gm D := by
  obtain ⟨pv, m, hB, hS, hM, hms, hP⟩ := h
  have hgs := (Array.getElem?_eq_some_iff.1 hS).1
  exact ⟨pv, m, hB.fr hf (fun h => (hT _ h).1 rfl), (hf.block gs hgs (fun h => (hT _ h).2.1 rfl)).trans hS, hM.block (hf.block gm hM.lt (fun h => (hT _ h).2.2 rfl)), hms, own_fr hP hf (fun b hb => hF b (own_ty hP hb))⟩
theorem DiskAt.below {w w' : World} {gd gs gm : Nat} {D : Dk} (h : DiskAt w gd gs gm D) (hb : Below w.heap.size w w') : DiskAt w' gd gs gm D :=
  h.fr (Fr.of_below hb (fun _ => False)) (fun _ h => h.elim) (fun _ _ h => h)
theorem DiskAt.lt {w : World} {gd gs gm : Nat} {D : Dk} (h : DiskAt w gd gs gm D) : gd < w.heap.size ∧ gs < w.heap.size ∧ gm < w.heap.size := by
  obtain ⟨pv, m, hB, hS, hM, _⟩ := h
  exact ⟨hB.lt, (Array.getElem?_eq_some_iff.1 hS).1, hM.lt⟩
/-- A block of one of the disk's kinds. -/
theorem DiskAt.ne {w : World} {gd gs gm b : Nat} {D : Dk} {t : TypeId} (h : DiskAt w gd gs gm D) (hb : Ty w b t) (h1 : t ≠ 111) (h2 : t ≠ 113) : b ≠ gd ∧ b ≠ gs ∧ b ≠ gm := by
  obtain ⟨pv, m, hB, hS, hM, _⟩ := h
  refine ⟨fun e => ?_, fun e => ?_, fun e => ?_⟩
  · subst e; exact hb.ne hB.ty h1
  · subst e; exact hb.ne ⟨_, _, hS⟩ h2
  · subst e
    obtain ⟨cs, fr, hh⟩ := hb
    obtain ⟨_, ⟨es, c', h1, _⟩, _⟩ := hM
    rw [hh] at h1; cases h1
/-- The blocks of a disk. -/
def dT (gd gs gm : Nat) : Nat → Prop := fun b => b = gd ∨ (b = gs ∨ b = gm)
end Go.Proofs.YthfidlhefkjpdaaGreatDoor

namespace Go.Proofs.YthfidlhefkjpdaaGreatDoor
open Go.RowKit

theorem parse_sector (run : Nat) (used : List UInt8) (h1 : 1 ≤ run) (h2 : run ≤ 274877906944) (hu : used.length ≤ 498) : parseL (sectorL run used) = some (run, used) := by
  have hd : (sectorL run used).drop 4 = logBody run used := drop_seal _
  obtain ⟨L, hL⟩ : ∃ L, leN 8 run = L := ⟨_, rfl⟩
  have hl : L.length = 8 := by rw [← hL, leN_length]
  have hlow : lowN L = run := by rw [← hL]; exact lowN_leN 8 run (by omega)
  obtain ⟨n, hn⟩ : ∃ n, used.length = n := ⟨_, rfl⟩
  rw [hn] at hu
  have hb : logBody run used = L ++ (UInt8.ofNat n :: UInt8.ofNat (n / 256) :: (used ++ zeros (498 - n))) := by
    unfold logBody
    rw [hL, hn]
    rfl
  have h8 : (logBody run used).take 8 = L := by
    rw [hb, List.take_append_of_le_length (by omega), List.take_of_length_le (by omega)]
  have e8 : ((logBody run used).getD 8 0).toNat = n % 256 := by
    rw [hb, List.getD_eq_getElem?_getD, List.getElem?_append_right (by omega), hl]
    simp
  have e9 : ((logBody run used).getD 9 0).toNat = n / 256 := by
    rw [hb, List.getD_eq_getElem?_getD, List.getElem?_append_right (by omega), hl]
    simp
    omega
  have h10 : (logBody run used).drop 10 = used ++ zeros (498 - n) := by
    rw [hb, List.drop_append, List.drop_of_length_le (by omega), hl]
    simp
  have hdn : (logBody run used).drop (10 + n) = zeros (498 - n) := by
    rw [← List.drop_drop, h10, List.drop_append, List.drop_of_length_le (by omega), hn]
    simp
  unfold parseL
  rw [hd, h8, e8, e9, show n % 256 + 256 * (n / 256) = n by omega, hlow, hdn, allZ_zeros, if_pos ⟨opens_seal _, h1, h2, hu, rfl⟩, h10, List.take_append_of_le_length (by omega), List.take_of_length_le (by omega)]
theorem lowN_zeros : ∀ k, lowN (zeros k) = 0
  | 0 => rfl
  | k + 1 => by
    show (0 : UInt8).toNat + 256 * lowN (zeros k) = 0
    rw [lowN_zeros k]; rfl
theorem parse_zero : parseL (zeros 512) = none := by
  unfold parseL
  rw [if_neg]
  rintro ⟨-, h, -⟩
  have e : ((zeros 512).drop 4).take 8 = zeros 8 := by
    show List.take 8 (List.drop 4 (List.replicate 512 0)) = _
    rw [List.drop_replicate, List.take_replicate]
    rfl
  rw [e, lowN_zeros] at h
  omega

theorem outside_ok (gd gs gm : Nat) (D : Dk) (first count : Nat) (w : World) (hD : DiskAt w gd gs gm D) (hn : D.sec.length ≤ 4096) (hc : 1 ≤ count) (hf : first + count ≤ D.sec.length) :
    Calls Tryz.prog 80 #[.pointer (some ⟨gd, 0, none⟩), .int .i64 (first : Int), .int .i64 (count : Int)] w fun e w' => e = .returned (.bool false) ∧ w = w' := by
  have hsz := dsize_any gd gs gm D w hD
  obtain ⟨n, hN⟩ : ∃ n, D.sec.length = n := ⟨_, rfl⟩
  rw [hN] at hsz hf hn
  have d1 : decide ((first : Int) < 0) = false := by simp
  have d2 : decide ((count : Int) < 1) = false := by simp; omega
  have d3 : decide (n < count) = false := by simp; omega
  have d4 : decide ((n : Int) - (count : Int) < (first : Int)) = false := by simp; omega
  clear hD
  go_enter Tryz.func80, Tryz.ntmps80
  go_wp2_with (go_at_call 119; refine hsz.mono ?_; rintro e w' ⟨rfl, rfl⟩)
  go_ret
  exact ⟨rfl, rfl⟩

set_option maxRecDepth 100000 in
set_option maxHeartbeats 1000000 in
theorem format_any (gd gs gm : Nat) (D : Dk) (count : Nat) (w : World) (hD : DiskAt w gd gs gm D) (hw : D.wf) (hp : D.plan = []) (hoff : D.off = false) (hc : 1 ≤ count) (hf : count ≤ D.sec.length) (hst : D.steps + 2 ≤ 1152921504606846976) :
    Calls Tryz.prog 40 #[.pointer (some ⟨gd, 0, none⟩), .int .i64 0, .int .i64 (count : Int)] w fun e w' => e = .returned (.int .i64 0) ∧
      DiskAt w' gd gs gm (D.write 0 (sectorL 1 [])).sync ∧ Fr (fun b => b = gd ∨ (b = gs ∨ b = gm)) w w' := by
  have hs0 := hw.s0
  have H : Aside (DiskAt w gd gs gm D ∧ D.wf ∧ D.plan = [] ∧ D.off = false ∧ 1 ≤ count ∧ count ≤ D.sec.length ∧ D.steps + 2 ≤ 1152921504606846976) := ⟨hD, hw, hp, hoff, hc, hf, hst⟩
  clear hD hw hp hoff hc hf hst hs0
  go_enter Tryz.func40, Tryz.ntmps40
  go_wp2_with fail
  refine (outside_ok gd gs gm D 0 count w H.out.1 H.out.2.1.n H.out.2.2.2.2.1 (by have := H.out.2.2.2.2.2.1; omega)).mono ?_
  rintro e w1 ⟨rfl, rfl⟩
  go_wp2_with fail
  refine (build_any 1 none 0 0 [] w (by omega) (RdB.nil _ _) (by omega)).mono ?_
  rintro e w1 ⟨g, cap, rfl, hown, hb1⟩
  have hD1 : DiskAt w1 gd gs gm D := H.out.1.below hb1
  have hR1 : RdB w1 (some ⟨g, 0, none⟩) 512 (sectorL 1 []) := RdB.of_own hown
  go_wp2_with fail
  refine (write_any gd gs gm D 0 512 cap _ (sectorL 1 []) w1 hD1 H.out.2.1 H.out.2.2.1 H.out.2.2.2.1 (by have := H.out.2.2.2.2; omega) hR1 (by omega)).mono ?_
  rintro e w2 ⟨rfl, hD2, hF2⟩
  go_wp2_with fail
  have hst := H.out.2.2.2.2.2.2
  refine (sync_any gd gs gm (D.write 0 (sectorL 1 [])) w2 hD2 (Dk.write_wf H.out.2.1 (by have := H.out.2.2.2.2; omega) (by rw [sectorL_length _ _ (by simp)]; omega) (by omega)) H.out.2.2.1 H.out.2.2.2.1 (by show D.steps + 1 + 1 ≤ _; omega)).mono ?_
  rintro e w3 ⟨rfl, hD3, hF3⟩
  go_wp2_with fail
  go_ret
  refine ⟨rfl, hD3, ((Fr.of_below hb1 _).trans (hF2.mono fun _ _ h => ?_) (fun _ _ h => h)).trans hF3 (fun _ _ h => h)⟩
  rcases h with h | h
  · exact .inl h
  · exact .inr (.inr h)

end Go.Proofs.YthfidlhefkjpdaaGreatDoor

namespace Go.Proofs.YthfidlhefkjpdaaGreatDoor
open Go.RowKit

theorem run_append_of_nil (w : World) (base t ty e : TypeId) (i : TypeInfo) (size : Nat) (ht : Tryz.prog.underlying t = some (.slice e)) (hi : Tryz.prog.info? e = some i)
    (v : Value) (n : Nat) (xs : List Value) (hown : w.ownsRow base e size v n xs) (c : Nat) : (Builtin.append_ #[t, t] ty #[v, .slice none 0 c]).run Tryz.prog w = .ok v w := by
  rcases hown.2 with ⟨rfl, rfl⟩ | ⟨g, cap, cur, rfl, _, _, hnc, _⟩
  · simp [Builtin.append_, run_underlying ht, sizeOf, typeInfo, hi, Builtin.lenOf, Builtin.firstCells]
  · simp [Builtin.append_, run_underlying ht, sizeOf, typeInfo, hi, Builtin.lenOf, Builtin.firstCells, hnc, storeCells]

theorem run_app_bytes (w : World) (base ty : Nat) (v : Value) (n : Nat) (xs : List UInt8) (hown : w.ownsRow base 5 1 v n (xs.map u8))
    (A : Option Addr) (m c : Nat) (bs : List UInt8) (hr : RdB w A m bs) (hnm : n + m ≤ 140737488355328) (hbase : base ≤ w.heap.size) :
    ∃ A' cap w', (Builtin.append_ #[43, 43] ty #[v, .slice A m c]).run Tryz.prog w = .ok (.slice A' (n + m) cap) w' ∧ w'.ownsRow base 5 1 (.slice A' (n + m) cap) (n + m) ((xs ++ bs).map u8) ∧ w.grownBy w' v.ownBlock ∧
      ((Value.slice A' (n + m) cap).ownBlock = v.ownBlock ∨ (Value.slice A' (n + m) cap).ownBlock = some w.heap.size) := by
  obtain ⟨i0, hi0, hz0, hz1, hz2⟩ := info_parts info5
  cases A with
  | none =>
    have hm : m = 0 := by
      rcases Nat.eq_zero_or_pos m with h | h
      · exact h
      · obtain ⟨b, o, e, _⟩ := hr.2 h; cases e
    subst hm
    obtain rfl := List.eq_nil_of_length_eq_zero hr.1
    have h := run_append_of_nil w base 43 ty 5 i0 1 Tryz.underlying43 hi0 v n _ hown c
    have hown' := hown
    obtain ⟨A', cap, rfl, _⟩ := own_form hown
    exact ⟨A', cap, w, h, by rw [List.append_nil]; exact hown', World.grownBy.refl _ _, .inl rfl⟩
  | some ad =>
    have hcells : ∀ (j : Nat) (u : Value), (bs.map u8)[j]? = some u → w.cell? (ad.add j) = some u := by
      rcases Nat.eq_zero_or_pos m with h | h
      · subst h
        obtain rfl := List.eq_nil_of_length_eq_zero hr.1
        intro j u hu
        simp at hu
      · obtain ⟨ad', e, h1⟩ := hr.news h
        injection e with e
        subst e
        exact h1 w (Below.refl _ _)
    obtain ⟨v', w', hrun, h2, h3, _, h5⟩ := run_append_own_at (P := Tryz.prog) w base 43 ty 5 i0 _ 1 1 Tryz.underlying43 hi0 hz0 hz1 hz2 rfl (by omega) v n _ hown ad m c (bs.map u8) (by rw [List.length_map, hr.1, Nat.mul_one]) hcells (u8_one bs) (by unfold maxLen; omega) (by omega) hbase
    obtain ⟨A', cap, rfl, _⟩ := own_form h2
    exact ⟨A', cap, w', hrun, by rw [List.map_append]; exact h2, h3, h5⟩

section
variable {ops : Array Oper} {rest : List Oper} {o : Oper} {a : Act} {w : World} {K : Act → World → Prop} {Q : Exit → Act → World → Prop} {E : Prop}
theorem wpList_app_bytes (hgd : o.guard = none) (s x : Operand) (ho : o.op = .call { callee := .builtin .append, args := #[s, x], argTypes := #[43, 43] })
    (base : Nat) (v : Value) (n : Nat) (xs : List UInt8) (hs : a.eval s = v) (hown : w.ownsRow base 5 1 v n (xs.map u8))
    (A : Option Addr) (m c : Nat) (bs : List UInt8) (hx : a.eval x = .slice A m c) (hr : RdB w A m bs) (hnm : n + m ≤ 140737488355328) (hbase : base ≤ w.heap.size)
    (h : ∀ A' cap w', w'.ownsRow base 5 1 (.slice A' (n + m) cap) (n + m) ((xs ++ bs).map u8) → w.grownBy w' v.ownBlock → ((Value.slice A' (n + m) cap).ownBlock = v.ownBlock ∨ (Value.slice A' (n + m) cap).ownBlock = some w.heap.size) →
      wpList Tryz.prog ops Q rest (a.put o.dst (.slice A' (n + m) cap)) w') : wpList Tryz.prog ops Q (o :: rest) a w := by
  refine wpList_plain hgd fun K' hK' => ?_
  obtain ⟨A', cap, w', hrun, h1, h2, h3⟩ := run_app_bytes w base o.type v n xs hown A m c bs hr hnm hbase
  unfold Oper.wp
  simp [execOp, ho, resolve, invoke, builtin, hs, hx, hrun, Result.andThen]
  exact hK' _ _ (h A' cap w' h1 h2 h3)
theorem step_app_bytes (hgd : o.guard = none) (s x : Operand) (ho : o.op = .call { callee := .builtin .append, args := #[s, x], argTypes := #[43, 43] })
    (base : Nat) (v : Value) (n : Nat) (xs : List UInt8) (hs : a.eval s = v) (hown : w.ownsRow base 5 1 v n (xs.map u8))
    (A : Option Addr) (m c : Nat) (bs : List UInt8) (hx : a.eval x = .slice A m c) (hr : RdB w A m bs) (hnm : n + m ≤ 140737488355328) (hbase : base ≤ w.heap.size)
    (h : ∀ A' cap w', w'.ownsRow base 5 1 (.slice A' (n + m) cap) (n + m) ((xs ++ bs).map u8) → w.grownBy w' v.ownBlock → ((Value.slice A' (n + m) cap).ownBlock = v.ownBlock ∨ (Value.slice A' (n + m) cap).ownBlock = some w.heap.size) →
      K (a.put o.dst (.slice A' (n + m) cap)) w') : if Region.wanted o (yielded ops a.tmps) = true then Oper.wp Tryz.prog o a w K Q else E := by
  have hw : Region.wanted o (yielded ops a.tmps) = true := by simp [Region.wanted, hgd]
  rw [if_pos hw]
  obtain ⟨A', cap, w', hrun, h1, h2, h3⟩ := run_app_bytes w base o.type v n xs hown A m c bs hr hnm hbase
  unfold Oper.wp
  simp [execOp, ho, resolve, invoke, builtin, hs, hx, hrun, Result.andThen]
  exact h A' cap w' h1 h2 h3
end

theorem grown_below {w w' : World} {v : Value} {base : Nat} {e : TypeId} {size n : Nat} {xs : List Value} (hg : w.grownBy w' v.ownBlock) (hown : w.ownsRow base e size v n xs) (hb : base ≤ w.heap.size) : Below base w w' :=
  ⟨hg.os, hg.tape, hg.output, hg.size, fun b hlt => hg.block b (by omega) (fun e => by have := (hown.lt b e.symm).1; omega)⟩
end Go.Proofs.YthfidlhefkjpdaaGreatDoor
