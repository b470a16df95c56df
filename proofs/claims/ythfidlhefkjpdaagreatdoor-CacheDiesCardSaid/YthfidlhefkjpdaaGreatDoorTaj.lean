/- bytes.Trim of zeros: is anything left? -/
import Derived.Test.YthfidlhefkjpdaaGreatDoorTaa
import Derived.Outline
import Derived.Deep.LoopGhost
import Derived.Deep.RegionWith
namespace Go.Proofs.YthfidlhefkjpdaaGreatDoor
open Go.RowKit

def allZ (bs : List UInt8) : Bool := bs.all (· == 0)

def TrimR (bs : List UInt8) (k : Nat) : Prop := k ≤ bs.length ∧ (∀ i (h : i < bs.length), k ≤ i → bs[i] = 0) ∧ (0 < k → ∃ h : k - 1 < bs.length, bs[k - 1] ≠ 0)
def RetR (A : Option Addr) (c : Nat) (bs : List UInt8) (w : World) (e : Ending) (w' : World) : Prop := ∃ k, e = .returned (.slice A k c) ∧ TrimR bs k ∧ w = w'
def RetL (k : Nat) (w : World) (e : Ending) (w' : World) : Prop := ∃ A' k' c', e = .returned (.slice A' k' c') ∧ (k' = 0 ↔ k = 0) ∧ w = w'

theorem byte_eq0 (c : UInt8) : ((c.toNat : Int) == 0) = (c == 0) := by
  rw [Bool.eq_iff_iff]
  simp only [beq_iff_eq, ← UInt8.toNat_inj, UInt8.toNat_zero]
  omega

theorem trimR_zero (bs : List UInt8) (k : Nat) (h : TrimR bs k) : decide (k = 0) = allZ bs := by
  obtain ⟨h1, h2, h3⟩ := h
  rw [Bool.eq_iff_iff]
  simp only [decide_eq_true_eq, allZ, List.all_eq_true, beq_iff_eq]
  constructor
  · rintro rfl x hx
    obtain ⟨i, hi, rfl⟩ := List.mem_iff_getElem.1 hx
    exact h2 i hi (Nat.zero_le _)
  · intro hz
    rcases Nat.eq_zero_or_pos k with h | h
    · exact h
    · obtain ⟨hk, hne⟩ := h3 h
      exact absurd (hz _ (List.getElem_mem hk)) hne

set_option maxRecDepth 100000 in
set_option maxHeartbeats 400000 in
theorem trimRight_any (A : Option Addr) (n c : Nat) (bs : List UInt8) (w : World) (hR : RdB w A n bs) (hn : n ≤ c) (hc : c ≤ 9223372036854775807) :
    Calls Tryz.prog 113 #[.slice A n c, .int .u8 0] w (RetR A c bs w) := by
  have hl := hid hR.1
  go_enter Tryz.func113, Tryz.ntmps113
  go_wp2
  go_loopg [0] n (fun q s wr => wr = w ∧ s = .slice A q c ∧ q ≤ n ∧ Hid (∀ i (h : i < bs.length), q ≤ i → bs[i] = 0))
  case atStart => exact ⟨rfl, rfl, Nat.le_refl _, fun i h hi => absurd h (by have := hl.out; omega)⟩
  case round =>
    obtain ⟨rfl, rfl, hk, hz⟩ := hrel
    rename_i k _ _ _
    by_cases h0 : 0 < gk
    · obtain ⟨b, o, rfl, hb, hkb, hcell⟩ := hR.get (k := gk - 1) (by omega)
      obtain ⟨m, rfl⟩ : ∃ m, gk = m + 1 := ⟨gk - 1, by omega⟩
      simp only [Nat.add_sub_cancel] at hcell hkb
      have he := byte_eq0 bs[m]
      by_cases hb0 : bs[m] = 0
      · have he' : ((bs[m].toNat : Int) == 0) = true := by rw [he]; simpa using hb0
        have HZ : Aside (bs[m] = 0 ∧ Hid (∀ i (h : i < bs.length), m + 1 ≤ i → bs[i] = 0)) := ⟨hb0, hz⟩
        clear he hb0 hz
        go_wp2
        go_roundg m
        case rel =>
          refine ⟨rfl, rfl, by omega, fun i h hi => ?_⟩
          rcases Nat.eq_or_lt_of_le hi with h1 | h1
          · subst h1; exact HZ.out.1
          · exact HZ.out.2.out i h h1
        case measure => omega
      · have he' : ((bs[m].toNat : Int) == 0) = false := by rw [he]; simpa using hb0
        have HZ : Aside (bs[m] ≠ 0 ∧ Hid (∀ i (h : i < bs.length), m + 1 ≤ i → bs[i] = 0)) := ⟨hb0, hz⟩
        clear he hb0 hz
        go_wp2
        go_ret
        exact ⟨m + 1, rfl, ⟨by omega, HZ.out.2.out, fun _ => ⟨by simpa using hkb, by simpa using HZ.out.1⟩⟩, rfl⟩
    · obtain rfl : gk = 0 := by omega
      go_wp2
      go_ret
      exact ⟨0, rfl, ⟨by omega, hz.out, fun h => absurd h (by omega)⟩, rfl⟩

set_option maxRecDepth 100000 in
set_option maxHeartbeats 400000 in
theorem trimLeft_any (A : Option Addr) (n k c : Nat) (bs : List UInt8) (w : World) (hR : RdB w A n bs) (hT : TrimR bs k) (hn : n ≤ c) (hc : c ≤ 9223372036854775807) :
    Calls Tryz.prog 112 #[.slice A k c, .int .u8 0] w (RetL k w) := by
  have hl := hid hR.1
  obtain ⟨hk1, _, hk3⟩ := hT
  rcases Nat.eq_zero_or_pos k with h0 | h0
  · subst h0
    clear hk3 hk1
    go_enter Tryz.func112, Tryz.ntmps112
    go_wp2
    go_loopg [0] 0 (fun q s wr => wr = w ∧ s = .slice A 0 c)
    case atStart => exact ⟨rfl, rfl⟩
    case round =>
      obtain ⟨rfl, rfl⟩ := hrel
      go_wp2
      go_ret
      exact ⟨_, 0, _, rfl, Iff.rfl, rfl⟩
  · obtain ⟨hkb, hkne⟩ := hk3 h0
    have hkn : k ≤ n := by have := hl.out; omega
    obtain ⟨b, o, rfl, hb, _⟩ := hR.2 (by omega)
    have HK : Aside (bs[k - 1] ≠ 0) := ⟨hkne⟩
    clear hk3 hkne
    go_enter Tryz.func112, Tryz.ntmps112
    go_wp2
    go_loopg [0] k (fun q s wr => wr = w ∧ ∃ j, j + q = k ∧ 0 < q ∧ s = .slice (some ⟨b, o + j, none⟩) (k - j) (c - j))
    case atStart => exact ⟨rfl, 0, by omega, h0, rfl⟩
    case round =>
      obtain ⟨rfl, j, hj, hq, rfl⟩ := hrel
      have hcell := hR.2 (by omega)
      obtain ⟨b', o', e, _, hcc⟩ := hcell
      injection e with e
      injection e with e1 e2
      subst e1 e2
      have hcell := hcc j (by omega)
      clear hcc
      obtain ⟨m, hm⟩ : ∃ m, k - j = m := ⟨_, rfl⟩
      have hm0 : 0 < m := by omega
      obtain ⟨d, hd⟩ : ∃ d, c - j = d := ⟨_, rfl⟩
      rw [hm, hd]
      have hmd : m ≤ d := by omega
      have hd2 : d ≤ 9223372036854775807 := by omega
      have he := byte_eq0 (bs[j]'(by omega))
      by_cases hb0 : bs[j]'(by omega) = 0
      · have he' : (((bs[j]'(by omega)).toNat : Int) == 0) = true := by rw [he]; simpa using hb0
        have hjk : j ≠ k - 1 := by
          intro e
          subst e
          exact HK.out hb0
        have hd1 : ¬ d = 1 := by omega
        have H : Aside (k - j = m ∧ c - j = d ∧ j + 1 < k) := ⟨hm, hd, by omega⟩
        clear he hb0 hm hd hjk
        go_wp2
        go_roundg (m - 1)
        case rel => exact ⟨rfl, j + 1, by have := H.out; omega, by have := H.out; omega, by rw [← H.out.1, ← H.out.2.1, Nat.sub_sub, Nat.sub_sub]; rfl⟩
        case measure => have := H.out; omega
      · have he' : (((bs[j]'(by omega)).toNat : Int) == 0) = false := by rw [he]; simpa using hb0
        clear he hb0 hm hd
        have hmz : ((m : Int) == 0) = false := by simp; omega
        go_wp2
        go_ret
        exact ⟨_, _, _, rfl, by omega, rfl⟩

def RetT (bs : List UInt8) (w : World) (e : Ending) (w' : World) : Prop := ∃ A' k' c', e = .returned (.slice A' k' c') ∧ decide (k' = 0) = allZ bs ∧ Below w.heap.size w w'

set_option maxRecDepth 100000 in
set_option maxHeartbeats 400000 in
theorem trim_any (A : Option Addr) (n c : Nat) (bs : List UInt8) (w : World) (hR : RdB w A n bs) (hn : n ≤ c) (hc : c ≤ 9223372036854775807) :
    Calls Tryz.prog 77 #[.slice A n c, .string ⟨#[0]⟩] w (RetT bs w) := by
  rcases Nat.eq_zero_or_pos n with h0 | h0
  · subst h0
    obtain rfl := List.eq_nil_of_length_eq_zero hR.1
    go_enter Tryz.func77, Tryz.ntmps77
    go_wp2
    go_ret
    exact ⟨_, 0, _, rfl, rfl, Below.refl _ _⟩
  · have hn0 : ((n : Int) == 0) = false := by simp; omega
    have hg0 : ((⟨#[0]⟩ : ByteArray)[0]'Nat.zero_lt_one) = 0 := rfl
    have hRd : Aside (∀ W, Below w.heap.size w W → RdB W A n bs) := ⟨fun W hb => hR.below hb⟩
    clear hR
    go_enter Tryz.func77, Tryz.ntmps77
    go_wp2_with fail
    go_region_with (first
      | (go_at_call 113
         (with_reducible refine Calls.mono (trimRight_any A n c bs _ ?_ hn hc) ?_)
         · exact hRd.out _ (by repeat (first | exact Below.refl _ _ | refine bl_drew ?_))
         rintro e w1 ⟨k, rfl, hT, rfl⟩
         have HT : Aside (TrimR bs k) := ⟨hT⟩
         clear hT)
      | (go_at_call 112
         (with_reducible refine Calls.mono (trimLeft_any A n k c bs _ ?_ HT.out hn hc) ?_)
         · exact hRd.out _ (by repeat (first | exact Below.refl _ _ | refine bl_drew ?_))
         rintro e w2 ⟨A', k', c', rfl, hk', rfl⟩
         have HK : Aside (k' = 0 ↔ k = 0) := ⟨hk'⟩
         clear hk'))
    all_goals go_wp2
    all_goals go_ret
    all_goals exact ⟨A', k', c', rfl, by rw [← trimR_zero bs k HT.out]; exact decide_eq_decide.2 HK.out, by repeat (first | exact Below.refl _ _ | refine bl_drew ?_)⟩

end Go.Proofs.YthfidlhefkjpdaaGreatDoor
