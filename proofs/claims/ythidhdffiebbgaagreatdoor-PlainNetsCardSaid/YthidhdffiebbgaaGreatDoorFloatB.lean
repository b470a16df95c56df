/- A whole number up to 2 to the 46th is a float64 that is the same number again as an int64. No program. -/
import Derived.Laws.FloatArith
import Derived.Laws.Cover2
namespace Go.Proofs.YthidhdffiebbgaaGreatDoor

theorem even_cut0 (n : Nat) : Ieee.Toward.even.cut false n 0 = n := by
  unfold Ieee.Toward.cut
  simp [Nat.mod_one]

theorem log2_bounds {m : Nat} (hm : 0 < m) : 2 ^ m.log2 ≤ m ∧ m < 2 ^ (m.log2 + 1) := by
  have h : m ≠ 0 := by omega
  exact ⟨Nat.log2_self_le h, Nat.lt_log2_self⟩

theorem nearest_small {m : Nat} (hm : 0 < m) (hb : m.log2 ≤ 46) : Ieee.double.nearest false m 0 = (m.log2 + 1022) * 2 ^ 52 + m * 2 ^ (52 - m.log2) := by
  obtain ⟨b, hbe⟩ : ∃ b, m.log2 = b := ⟨_, rfl⟩
  unfold Ieee.Format.nearest
  rw [if_neg (by omega), hbe]
  rw [hbe] at hb
  have hlast : max ((0 : Int) + (b : Nat) - (Ieee.double.fractionBits : Nat)) Ieee.double.leastPlace = (b : Int) - 52 := by
    have h1 : Ieee.double.leastPlace = -1074 := by decide
    have h2 : Ieee.double.fractionBits = 52 := rfl
    rw [h1, h2]
    omega
  dsimp only
  rw [hlast]
  have e1 : ((0 : Int) - ((b : Int) - 52)).toNat = 52 - b := by omega
  have e2 : ((b : Int) - 52 - 0).toNat = 0 := by omega
  have e3 : ((b : Int) - 52 - Ieee.double.leastPlace).toNat = b + 1022 := by
    have h1 : Ieee.double.leastPlace = -1074 := by decide
    rw [h1]; omega
  rw [e1, e2, e3, even_cut0, Nat.shiftLeft_eq]
  have hlb := log2_bounds hm
  rw [hbe] at hlb
  have hK : m * 2 ^ (52 - b) < 2 ^ 53 := by
    have h : m * 2 ^ (52 - b) < 2 ^ (b + 1) * 2 ^ (52 - b) := Nat.mul_lt_mul_of_pos_right hlb.2 (Nat.two_pow_pos _)
    rw [← Nat.pow_add, show b + 1 + (52 - b) = 53 by omega] at h
    exact h
  have hbin : Ieee.double.binade = 2 ^ 52 := rfl
  have hinf : Ieee.double.infRung = 2047 * 2 ^ 52 := by decide
  rw [hbin, hinf]
  have hmin : (b + 1022) * 2 ^ 52 + m * 2 ^ (52 - b) ≤ 2047 * 2 ^ 52 := by omega
  rw [Nat.min_eq_left hmin]
  simp [Ieee.Format.word]

set_option maxRecDepth 100000 in
theorem read_small {b K : Nat} (hb : b ≤ 46) (h1 : 2 ^ 52 ≤ K) (h2 : K < 2 ^ 53) : Ieee.double.read ((b + 1022) * 2 ^ 52 + K) = .number false K ((b : Int) - 52) := by
  obtain ⟨r, rfl⟩ : ∃ r, K = 2 ^ 52 + r := ⟨K - 2 ^ 52, by omega⟩
  unfold Ieee.Format.read
  have hs : Ieee.double.signWeight = 2 ^ 63 := rfl
  have hbin : Ieee.double.binade = 2 ^ 52 := rfl
  have hinf : Ieee.double.infRung = 2047 * 2 ^ 52 := by decide
  have hlp : Ieee.double.leastPlace = -1074 := by decide
  have hlt : (b + 1022) * 2 ^ 52 + (2 ^ 52 + r) < 2 ^ 63 := by omega
  rw [hs, hbin, hinf, hlp, Nat.mod_eq_of_lt hlt, Nat.div_eq_of_lt hlt]
  have e : (b + 1022) * 2 ^ 52 + (2 ^ 52 + r) = (b + 1023) * 2 ^ 52 + r := by omega
  rw [e]
  have d1 : ((b + 1023) * 2 ^ 52 + r) / 2 ^ 52 = b + 1023 := by omega
  have d2 : ((b + 1023) * 2 ^ 52 + r) % 2 ^ 52 = r := by omega
  have f1 : ¬ (b + 1023) * 2 ^ 52 + r < 2 ^ 52 := by clear d1 d2 e hs hbin hinf hlp hlt; omega
  have f2 : (b + 1023) * 2 ^ 52 + r < 2047 * 2 ^ 52 := by
    have h52 : (2 : Nat) ^ 52 = 4503599627370496 := by decide
    have h53 : (2 : Nat) ^ 53 = 9007199254740992 := by decide
    rw [h52] at h2 ⊢
    rw [h53] at h2
    clear f1 d1 d2 e hs hbin hinf hlp hlt h1
    omega
  dsimp only
  rw [d1, d2, if_neg f1, if_pos f2]
  congr 1
  omega

theorem zero_cut {m b K : Nat} (hb : b ≤ 46) (hK : K = m * 2 ^ (52 - b)) (h1 : 2 ^ 52 ≤ K) : Ieee.Toward.zero.cut false K (52 - b) = m := by
  unfold Ieee.Toward.cut
  have hl : 52 ≤ K.log2 := (Nat.le_log2 (by omega)).2 h1
  rw [Nat.min_eq_left (by omega)]
  simp only [Nat.shiftLeft_eq, Nat.one_mul, Bool.toNat_false, Nat.add_zero]
  rw [hK, Nat.mul_div_cancel _ (Nat.two_pow_pos _)]

theorem toInt_small {m b K : Nat} (hb : b ≤ 46) (hK : K = m * 2 ^ (52 - b)) (h1 : 2 ^ 52 ≤ K) : (Ieee.Datum.number false K ((b : Int) - 52)).toInt .zero = some (m : Int) := by
  unfold Ieee.Datum.toInt Ieee.Datum.integral
  have e1 : ((b : Int) - 52).toNat = 0 := by omega
  have e2 : (-((b : Int) - 52)).toNat = 52 - b := by omega
  dsimp only
  rw [e1, e2, Nat.shiftLeft_zero, zero_cut hb hK h1]
  simp [Ieee.signed]

theorem log2_le {m : Nat} (hm : 0 < m) (h : m ≤ 70368744177664) : m.log2 ≤ 46 := by
  by_cases h2 : m.log2 ≤ 46
  · exact h2
  · have h3 := (log2_bounds hm).1
    have : 2 ^ 47 ≤ 2 ^ m.log2 := Nat.pow_le_pow_right (by omega) (by omega)
    omega

/-- the way there and back -/
theorem float_back {n : Int} (h0 : 0 ≤ n) (h1 : n ≤ 70368744177664) : floatToIntVal .f64 (floatOfInt .f64 n) .i64 = some n := by
  obtain ⟨m, rfl⟩ := Int.eq_ofNat_of_zero_le h0
  have hd : decide ((m : Int) < 0) = false := by simp
  have hk : (FloatKind.f64.decode (floatOfInt .f64 (m : Int))).toInt .zero = some (m : Int) := by
    unfold floatOfInt FloatKind.nearest FloatKind.encode FloatKind.decode
    rw [hd]
    show ((Ieee.double.read (Ieee.double.nearest false (m : Int).natAbs 0)).toInt .zero) = _
    rw [Int.natAbs_natCast]
    rcases Nat.eq_zero_or_pos m with rfl | hm
    · decide
    · have hb := log2_le hm (by omega)
      rw [nearest_small hm hb]
      have hlb := log2_bounds hm
      obtain ⟨b, hbe⟩ : ∃ b, m.log2 = b := ⟨_, rfl⟩
      rw [hbe] at hb hlb ⊢
      have hK1 : 2 ^ 52 ≤ m * 2 ^ (52 - b) := by
        have h : 2 ^ b * 2 ^ (52 - b) ≤ m * 2 ^ (52 - b) := Nat.mul_le_mul_right _ hlb.1
        rw [← Nat.pow_add, show b + (52 - b) = 52 by omega] at h
        exact h
      have hK2 : m * 2 ^ (52 - b) < 2 ^ 53 := by
        have h : m * 2 ^ (52 - b) < 2 ^ (b + 1) * 2 ^ (52 - b) := Nat.mul_lt_mul_of_pos_right hlb.2 (Nat.two_pow_pos _)
        rw [← Nat.pow_add, show b + 1 + (52 - b) = 53 by omega] at h
        exact h
      rw [read_small hb hK1 hK2, toInt_small hb rfl hK1]
  unfold floatToIntVal
  rw [hk]
  have hmin : IntKind.i64.min = -9223372036854775808 := by decide
  have hmax : IntKind.i64.max = 9223372036854775807 := by decide
  dsimp only
  rw [hmin, hmax, if_pos (by omega)]

end Go.Proofs.YthidhdffiebbgaaGreatDoor
