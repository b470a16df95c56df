/- page.low: the number that bytes write. -/
import Derived.Test.YthfidlhefkjpdaaGreatDoorTaa
namespace Go.Proofs.YthfidlhefkjpdaaGreatDoor
open Go.RowKit Go.Shelf
attribute [local go_sem] Oper.semAt_some

def stepL (u : Nat) (x : Nat × UInt8) : Nat := (u * 256 % 18446744073709551616) ||| x.2.toNat
theorem stepL_bits (u : Nat) (x : Nat × UInt8) : bits .or .u64 (IntKind.u64.wrap ((u : Int) * 256)) (x.2.toNat : Int) = (stepL u x : Int) := by
  have hx := x.2.toNat_lt
  have e : IntKind.u64.wrap ((u : Int) * 256) = ((u * 256 % 18446744073709551616 : Nat) : Int) := by
    simp [IntKind.wrap, IntKind.bits, IntKind.signed]
  rw [e, u64_or_nat _ _ (by omega) (by omega)]
  rfl
def lowP (pre : List (Nat × UInt8)) : Nat := pre.foldl stepL 0
theorem lowP_snoc (pre : List (Nat × UInt8)) (x : Nat × UInt8) : lowP (pre ++ [x]) = stepL (lowP pre) x := by simp [lowP, List.foldl_append]
theorem stepL_lt (u : Nat) (x : Nat × UInt8) : stepL u x < 18446744073709551616 := by
  unfold stepL
  have hc := x.2.toNat_lt
  exact Nat.or_lt_two_pow (n := 64) (by omega) (by omega)
theorem lowP_lt (pre : List (Nat × UInt8)) : lowP pre < 18446744073709551616 := by
  rcases List.eq_nil_or_concat pre with rfl | ⟨p, x, rfl⟩
  · simp [lowP]
  · rw [List.concat_eq_append, lowP_snoc]; exact stepL_lt _ _
theorem lowP_back (bs : List UInt8) (hb : bs.length ≤ 8) : ∀ k, k ≤ bs.length → lowP (backU bs k) = lowK bs k
  | 0, _ => by rw [lowK_zero]; rfl
  | k + 1, h => by
    have ih := lowP_back bs hb k (by omega)
    have hlt := lowK_lt bs k (by omega)
    have h7 : 256 ^ k ≤ 256 ^ 7 := Nat.pow_le_pow_right (by omega) (by omega)
    rw [backU_succ, lowP_snoc, ih, lowK_succ bs k (by omega), stepL]
    have hc := (bs.getD (bs.length - 1 - k) 0).toNat_lt
    simp only
    have e7 : 256 ^ 7 = 72057594037927936 := by decide
    rw [Nat.mod_eq_of_lt (by omega)]
    exact nat_join 8 _ _ (by omega) (by omega)

theorem lowP_all (bs : List UInt8) (hb : bs.length ≤ 8) : lowP (backU bs bs.length) = lowN bs := by rw [lowP_back bs hb _ (Nat.le_refl _), lowK_all]

set_option maxRecDepth 100000 in
set_option maxHeartbeats 1000000 in
theorem low_in (F : Fence) (n : Nat) (h3 : F.fn 76) (h5 : F.fn 111) (h6 : F.fn 142) (hro : F.round = none) (hn : 3 ≤ n) (A : Option Addr) (nb cap : Nat) (bs : List UInt8) (w : World) (hR : RdB w A nb bs) (hb8 : bs.length ≤ 8) :
    CallsIn F n Tryz.prog 76 #[.slice A nb cap] w fun e W' => e = .returned (.int .u64 (lowN bs : Int)) ∧ Below w.heap.size w W' := by
  have h1 : 1 ≤ n := by omega
  have hnb : nb ≤ 8 := by rw [← hR.1]; exact hb8
  refine callsIn_of_wp_marks Tryz.func76 rfl h3 ?_ hro
  simp only [Tryz.ntmps76, List.size_toArray, List.length_cons, List.length_nil, Nat.reduceAdd, Nat.reduceSub, Array.replicate_succ, Array.replicate_zero, List.push_toArray, List.append_toArray, List.nil_append, List.cons_append]
  gi_wp2_with (gi_at_call 111; refine (backB_in F (n - 1) h5 hro _ _ _ _).mono ?_; rintro e w' ⟨rfl, rfl⟩)
  have hs := Boxed.new w 136 (.int .u64 0)
  have hb := Boxed.new (w.alloc (.cells #[.int .u64 0] 136)) 43 (.slice A nb cap)
  rw [World.size_alloc] at hb
  have hB0 : Below w.heap.size w ((w.alloc (.cells #[.int .u64 0] 136)).alloc (.cells #[.slice A nb cap] 43)) := ((Below.refl _ w).alloc (Nat.le_refl _) _).alloc (by simp) _
  refine wpIn_rangeFunc_ownF hro h1 (gf := 142) (lb := #[.pointer (some ⟨w.heap.size + 1, 0, none⟩)]) rfl h6 (enters_of Tryz.func142 (by kernel_rfl) rfl)
    (backB_stops F (n - 1) h6 hro (by omega) (w.heap.size + 1) w.heap.size nb cap A bs _ (by simp) hb.cell w hR (Nat.le_refl _) hB0 (by omega)) KpB.trans (KpB.put (by simp; omega)) (Below.refl _ _) (fun _ => rfl)
    (fun pre W => Boxed W w.heap.size 136 (.int .u64 (lowP pre : Int)) ∧ Below w.heap.size w W)
    (fun _ _ _ => False)
    (OwnFrom.and (Own.from (boxed_own _ _ _) _) (ownFrom_below (Nat.le_refl _) (by simp; omega)))
    (fun _ _ _ _ _ hs _ _ => hs)
    ⟨hs.alloc _, hB0⟩
    (fun x => { tmps := #[.slice A nb cap, undef, .int .u64 0, .pointer (some ⟨w.heap.size, 0, none⟩), undef, .int .u8 (x.2.toNat : Int), .slice A nb cap, .func (.func 142) #[] #[.pointer (some ⟨w.heap.size + 1, 0, none⟩)], .int .i64 (x.1 : Int), .int .u8 (x.2.toNat : Int), undef, undef, undef, undef, undef, undef], defers := [] }) ?assign ?body ?done ?stop
  case assign =>
    intro l x W K hK
    unfold encB
    gi_wp2
    exact hK
  case body =>
    rintro l pre x W ⟨hc, hB⟩ _
    have c1 := hc.cell
    have c2 := hc.frozen
    have hp := lowP_lt pre
    have hx := x.2.toNat_lt
    have hor := hid (stepL_bits (lowP pre) x)
    gi_wp2
    rw [hor.out, ← lowP_snoc]
    exact ⟨KeepsOthers.setCell _ _ _, ⟨(Below.refl w.heap.size W).setCell (p := ⟨w.heap.size, 0, none⟩) (Nat.le_refl _) _, fun u hu => (World.cell?_setCell_other _ _ _ _ (fun h => by have := congrArg Addr.block h; simp at this)).trans hu⟩, hc.set _, hB.setCell (p := ⟨w.heap.size, 0, none⟩) (Nat.le_refl _) _⟩
  case done =>
    rintro D ys W hD rfl ⟨hc, hB⟩ hK
    have c1 := hc.cell
    gi_wp2
    refine ⟨by simp, .inl ⟨_, _, rfl, run_takeDeferred hK, ?_⟩⟩
    exact ⟨_, results_tmp rfl _ _ _, by rw [lowP_all bs hb8]; rfl, hB.trans (belowK_b (w := w) (Nat.le_refl _) W D _ _ (by simp at hD; omega) hK rfl rfl)⟩
  case stop =>
    rintro D c pre W _ _ h _
    exact h.elim

theorem low_any (A : Option Addr) (nb cap : Nat) (bs : List UInt8) (w : World) (hR : RdB w A nb bs) (hb8 : bs.length ≤ 8) :
    Calls Tryz.prog 76 #[.slice A nb cap] w fun e W' => e = .returned (.int .u64 (lowN bs : Int)) ∧ Below w.heap.size w W' :=
  callsIn_wide.1 (low_in Fence.wide 3 trivial trivial trivial rfl (Nat.le_refl _) A nb cap bs w hR hb8)

end Go.Proofs.YthfidlhefkjpdaaGreatDoor
