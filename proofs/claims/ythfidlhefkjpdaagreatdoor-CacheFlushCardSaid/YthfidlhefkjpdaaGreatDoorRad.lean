/- bytes.Trim of zeros: is anything left?
   Reading a page back, as a plain function; what was written is read back.
   page: slices.Insert at the end; Insert at the end.
   page: Insert at the end.
   page.Parse of bytes that are a page. -/
import Derived.Test.YthfidlhefkjpdaaGreatDoorRaa
import Derived.Outline
import Derived.Deep.LoopGhost
import Derived.Deep.RegionWith
import Derived.Test.YthfidlhefkjpdaaGreatDoorRab
import Derived.Test.YthfidlhefkjpdaaGreatDoorRac
namespace Go.Proofs.YthfidlhefkjpdaaGreatDoor
open Go.RowKit

def allZ (bs : List UInt8) : Bool := bs.all (· == 0)

def TrimR (bs : List UInt8) (k : Nat) : Prop := k ≤ bs.length ∧ (∀ i (h : i < bs.length), k ≤ i → bs[i] = 0) ∧ (0 < k → ∃ h : k - 1 < bs.length, bs[k - 1] ≠ 0)
def RetR (A : Option Addr) (c : Nat) (bs : List UInt8) (w : World) (e : Ending) (w' : World) : Prop := ∃ k, e = .returned (.slice A k c) ∧ TrimR bs k ∧ w = w'
def RetL (k : Nat) (w : World) (e : Ending) (w' : World) : Prop := ∃ A' k' c', e = .returned (.slice A' k' c') ∧ (k' = 0 ↔ k = 0) ∧ w = w'

theorem byte_eq0 (c : UInt8) : ((c.toNat : Int) == 0) = (c == 0) := by
  rw [Bool.eq_iff_iff]
  simp only [beq_iff_eq, ← UInt8.toNat_inj, UInt8.toNat_zero]
  omega

theorem trimR_zero (bs : List UInt8) (k : Nat) (h : TrimR bs k) : decide (k = 0) = allZ bs := by
  obtain ⟨h1, h2, h3⟩ := h
  rw [Bool.eq_iff_iff]
  simp only [decide_eq_true_eq, allZ, List.all_eq_true, beq_iff_eq]
  constructor
  · rintro rfl x hx
    obtain ⟨i, hi, rfl⟩ := List.mem_iff_getElem.1 hx
    exact h2 i hi (Nat.zero_le _)
  · intro hz
    rcases Nat.eq_zero_or_pos k with h | h
    · exact h
    · obtain ⟨hk, hne⟩ := h3 h
      exact absurd (hz _ (List.getElem_mem hk)) hne

set_option maxRecDepth 100000 in
set_option maxHeartbeats 400000 in
theorem trimRight_any (A : Option Addr) (n c : Nat) (bs : List UInt8) (w : World) (hR : RdB w A n bs) (hn : n ≤ c) (hc : c ≤ 9223372036854775807) :
    Calls Tryz.prog 113 #[.slice A n c, .int .u8 0] w (RetR A c bs w) := by
  have hl := hid hR.1
  go_enter Tryz.func113, Tryz.ntmps113
  go_wp2
  go_loopg [0] n (fun q s wr => wr = w ∧ s = .slice A q c ∧ q ≤ n ∧ Hid (∀ i (h : i < bs.length), q ≤ i → bs[i] = 0))
  case atStart => exact ⟨rfl, rfl, Nat.le_refl _, fun i h hi => absurd h (by have := hl.out; omega)⟩
  case round =>
    obtain ⟨rfl, rfl, hk, hz⟩ := hrel
    rename_i k _ _ _
    by_cases h0 : 0 < gk
    · obtain ⟨b, o, rfl, hb, hkb, hcell⟩ := hR.get (k := gk - 1) (by omega)
      obtain ⟨m, rfl⟩ : ∃ m, gk = m + 1 := ⟨gk - 1, by omega⟩
      simp only [Nat.add_sub_cancel] at hcell hkb
      have he := byte_eq0 bs[m]
      by_cases hb0 : bs[m] = 0
      · have he' : ((bs[m].toNat : Int) == 0) = true := by rw [he]; simpa using hb0
        have HZ : Aside (bs[m] = 0 ∧ Hid (∀ i (h : i < bs.length), m + 1 ≤ i → bs[i] = 0)) := ⟨hb0, hz⟩
        clear he hb0 hz
        go_wp2
        go_roundg m
        case rel =>
          refine ⟨rfl, rfl, by omega, fun i h hi => ?_⟩
          rcases Nat.eq_or_lt_of_le hi with h1 | h1
          · subst h1; exact HZ.out.1
          · exact HZ.out.2.out i h h1
        case measure => omega
      · have he' : ((bs[m].toNat : Int) == 0) = false := by rw [he]; simpa using hb0
        have HZ : Aside (bs[m] ≠ 0 ∧ Hid (∀ i (h : i < bs.length), m + 1 ≤ i → bs[i] = 0)) := ⟨hb0, hz⟩
        clear he hb0 hz
        go_wp2
        go_ret
        exact ⟨m + 1, rfl, ⟨by omega, HZ.out.2.out, fun _ => ⟨by simpa using hkb, by simpa using HZ.out.1⟩⟩, rfl⟩
    · obtain rfl : gk = 0 := by omega
      go_wp2
      go_ret
      exact ⟨0, rfl, ⟨by omega, hz.out, fun h => absurd h (by omega)⟩, rfl⟩

set_option maxRecDepth 100000 in
set_option maxHeartbeats 400000 in
theorem trimLeft_any (A : Option Addr) (n k c : Nat) (bs : List UInt8) (w : World) (hR : RdB w A n bs) (hT : TrimR bs k) (hn : n ≤ c) (hc : c ≤ 9223372036854775807) :
    Calls Tryz.prog 112 #[.slice A k c, .int .u8 0] w (RetL k w) := by
  have hl := hid hR.1
  obtain ⟨hk1, _, hk3⟩ := hT
  rcases Nat.eq_zero_or_pos k with h0 | h0
  · subst h0
    clear hk3 hk1
    go_enter Tryz.func112, Tryz.ntmps112
    go_wp2
    go_loopg [0] 0 (fun q s wr => wr = w ∧ s = .slice A 0 c)
    case atStart => exact ⟨rfl, rfl⟩
    case round =>
      obtain ⟨rfl, rfl⟩ := hrel
      go_wp2
      go_ret
      exact ⟨_, 0, _, rfl, Iff.rfl, rfl⟩
  · obtain ⟨hkb, hkne⟩ := hk3 h0
    have hkn : k ≤ n := by have := hl.out; omega
    obtain ⟨b, o, rfl, hb, _⟩ := hR.2 (by omega)
    have HK : Aside (bs[k - 1] ≠ 0) := ⟨hkne⟩
    clear hk3 hkne
    go_enter Tryz.func112, Tryz.ntmps112
    go_wp2
    go_loopg [0] k (fun q s wr => wr = w ∧ ∃ j, j + q = k ∧ 0 < q ∧ s = .slice (some ⟨b, o + j, none⟩) (k - j) (c - j))
    case atStart => exact ⟨rfl, 0, by omega, h0, rfl⟩
    case round =>
      obtain ⟨rfl, j, hj, hq, rfl⟩ := hrel
      have hcell := hR.2 (by omega)
      obtain ⟨b', o', e, _, hcc⟩ := hcell
      injection e with e
      injection e with e1 e2
      subst e1 e2
      have hcell := hcc j (by omega)
      clear hcc
      obtain ⟨m, hm⟩ : ∃ m, k - j = m := ⟨_, rfl⟩
      have hm0 : 0 < m := by omega
      obtain ⟨d, hd⟩ : ∃ d, c - j = d := ⟨_, rfl⟩
      rw [hm, hd]
      have hmd : m ≤ d := by omega
      have hd2 : d ≤ 9223372036854775807 := by omega
      have he := byte_eq0 (bs[j]'(by omega))
      by_cases hb0 : bs[j]'(by omega) = 0
      · have he' : (((bs[j]'(by omega)).toNat : Int) == 0) = true := by rw [he]; simpa using hb0
        have hjk : j ≠ k - 1 := by
          intro e
          subst e
          exact HK.out hb0
        have hd1 : ¬ d = 1 := by omega
        have H : Aside (k - j = m ∧ c - j = d ∧ j + 1 < k) := ⟨hm, hd, by omega⟩
        clear he hb0 hm hd hjk
        go_wp2
        go_roundg (m - 1)
        case rel => exact ⟨rfl, j + 1, by have := H.out; omega, by have := H.out; omega, by rw [← H.out.1, ← H.out.2.1, Nat.sub_sub, Nat.sub_sub]; rfl⟩
        case measure => have := H.out; omega
      · have he' : (((bs[j]'(by omega)).toNat : Int) == 0) = false := by rw [he]; simpa using hb0
        clear he hb0 hm hd
        have hmz : ((m : Int) == 0) = false := by simp; omega
        go_wp2
        go_ret
        exact ⟨_, _, _, rfl, by omega, rfl⟩

def RetT (bs : List UInt8) (w : World) (e : Ending) (w' : World) : Prop := ∃ A' k' c', e = .returned (.slice A' k' c') ∧ decide (k' = 0) = allZ bs ∧ Below w.heap.size w w'

set_option maxRecDepth 100000 in
set_option maxHeartbeats 400000 in
theorem trim_any (A : Option Addr) (n c : Nat) (bs : List UInt8) (w : World) (hR : RdB w A n bs) (hn : n ≤ c) (hc : c ≤ 9223372036854775807) :
    Calls Tryz.prog 77 #[.slice A n c, .string ⟨#[0]⟩] w (RetT bs w) := by
  rcases Nat.eq_zero_or_pos n with h0 | h0
  · subst h0
    obtain rfl := List.eq_nil_of_length_eq_zero hR.1
    go_enter Tryz.func77, Tryz.ntmps77
    go_wp2
    go_ret
    exact ⟨_, 0, _, rfl, rfl, Below.refl _ _⟩
  · have hn0 : ((n : Int) == 0) = false := by simp; omega
    have hg0 : ((⟨#[0]⟩ : ByteArray)[0]'Nat.zero_lt_one) = 0 := rfl
    have hRd : Aside (∀ W, Below w.heap.size w W → RdB W A n bs) := ⟨fun W hb => hR.below hb⟩
    clear hR
    go_enter Tryz.func77, Tryz.ntmps77
    go_wp2_with fail
    go_region_with (first
      | (go_at_call 113
         (with_reducible refine Calls.mono (trimRight_any A n c bs _ ?_ hn hc) ?_)
         · exact hRd.out _ (by repeat (first | exact Below.refl _ _ | refine bl_drew ?_))
         rintro e w1 ⟨k, rfl, hT, rfl⟩
         have HT : Aside (TrimR bs k) := ⟨hT⟩
         clear hT)
      | (go_at_call 112
         (with_reducible refine Calls.mono (trimLeft_any A n k c bs _ ?_ HT.out hn hc) ?_)
         · exact hRd.out _ (by repeat (first | exact Below.refl _ _ | refine bl_drew ?_))
         rintro e w2 ⟨A', k', c', rfl, hk', rfl⟩
         have HK : Aside (k' = 0 ↔ k = 0) := ⟨hk'⟩
         clear hk'))
    all_goals go_wp2
    all_goals go_ret
    all_goals exact ⟨A', k', c', rfl, by rw [← trimR_zero bs k HT.out]; exact decide_eq_decide.2 HK.out, by repeat (first | exact Below.refl _ _ | refine bl_drew ?_)⟩

end Go.Proofs.YthfidlhefkjpdaaGreatDoor

namespace Go.Proofs.YthfidlhefkjpdaaGreatDoor

def piece (bs : List UInt8) (a b : Nat) : List UInt8 := (bs.drop a).take (b - a)
def fromN (bs : List UInt8) (i : Nat) : Nat := (bs.getD i 0).toNat + 256 * (bs.getD (i + 1) 0).toNat
def badF (f e at' : Nat) : Bool := decide (e < f) || (decide (f < at') || decide (200 < e - f))
def itemsP (bs : List UInt8) (at' : Nat) : Nat → Nat → Nat → Option (List (List UInt8) × Nat)
  | 0, _, e => some ([], e)
  | k + 1, i, e => if badF (fromN bs i) e at' then none else (itemsP bs at' k (i + 2) (fromN bs i)).map fun r => (piece bs (fromN bs i) e :: r.1, r.2)
def slotN (bs : List UInt8) : Nat := (bs.getD 17 0).toNat
def parseP (bs : List UInt8) : Option Pg :=
  if bs.length = 512 ∧ opens bs = true ∧ lowN (piece bs 4 12) ≤ 9223372036854775807 ∧ slotN bs ≤ 100 then
    match itemsP bs (18 + 2 * slotN bs) (slotN bs) 18 512 with
    | none => none
    | some r => if allZ (piece bs (18 + 2 * slotN bs) r.2) then some ⟨(lowN (piece bs 4 12) : Int), bs.getD 12 0, lowN (piece bs 13 17), r.1⟩ else none
  else none

theorem piece_length {bs : List UInt8} {a b : Nat} (h : b ≤ bs.length) : (piece bs a b).length = b - a := by
  simp [piece]; omega
theorem lowN_append (a b : List UInt8) : lowN (a ++ b) = lowN a + 256 ^ a.length * lowN b := by
  induction a with
  | nil => simp [lowN]
  | cons c r ih =>
    simp only [List.cons_append, lowN, ih, List.length_cons, Nat.pow_succ]
    rw [Nat.mul_add, Nat.mul_comm (256 ^ r.length) 256, Nat.mul_assoc]
    omega
theorem lowN_leN (k u : Nat) (h : u < 256 ^ k) : lowN (leN k u) = u := by
  have key : ∀ k, lowN (leN k u) = u % 256 ^ k := by
    intro k
    induction k with
    | zero => simp [leN, lowN, Nat.mod_one]
    | succ k ih =>
      rw [leN, lowN_append, ih, leN_length]
      simp only [lowN, UInt8.toNat_ofNat', Nat.reducePow, Nat.mul_zero, Nat.add_zero]
      rw [Nat.pow_succ, Nat.mod_mul]
  rw [key, Nat.mod_eq_of_lt h]

theorem getD_app_right (a b : List UInt8) (i : Nat) (h : a.length ≤ i) : (a ++ b).getD i 0 = b.getD (i - a.length) 0 := by
  simp [List.getD_eq_getElem?_getD, List.getElem?_append_right h]
theorem getD_app_left (a b : List UInt8) (i : Nat) (h : i < a.length) : (a ++ b).getD i 0 = a.getD i 0 := by
  simp [List.getD_eq_getElem?_getD, List.getElem?_append_left h]
theorem piece_app (a m b : List UInt8) (i j : Nat) (hi : a.length = i) (hj : i + m.length = j) : piece (a ++ (m ++ b)) i j = m := by
  subst hi hj
  simp [piece]

theorem bytesP_eq (p : Pg) (hw : p.wf) : bytesP p = le4 (crcOf (bodyP p)) ++ (bufK p p.items.length).drop 4 := rfl
theorem bytesP_getD (p : Pg) (i : Nat) (h : 4 ≤ i) : (bytesP p).getD i 0 = (bufK p p.items.length).getD i 0 := by
  unfold bytesP sealB
  rw [getD_app_right _ _ _ (by simpa [le4] using h)]
  simp only [le4, List.length_cons, List.length_nil, bodyP, List.getD_eq_getElem?_getD, List.getElem?_drop]
  rw [show 4 + (i - 4) = i by omega]
theorem bytesP_piece (p : Pg) (a b : Nat) (h : 4 ≤ a) : piece (bytesP p) a b = piece (bufK p p.items.length) a b := by
  unfold piece bytesP sealB bodyP
  congr 1
  rw [List.drop_append, List.drop_of_length_le (by simpa [le4] using h), List.nil_append, List.drop_drop]
  simp only [le4, List.length_cons, List.length_nil]
  rw [show 4 + (a - (0 + 1 + 1 + 1 + 1)) = a by omega]

theorem buf_shape (p : Pg) (k : Nat) : ∃ r, bufK p k = zeros 4 ++ (leN 8 p.lsn.toNat ++ (p.kind :: (leN 4 p.extra ++ (UInt8.ofNat p.items.length :: r)))) := by
  refine ⟨slots p.items k ++ (zeros (512 - tot (p.items.take k) - (18 + 2 * k)) ++ tails p.items k), ?_⟩
  simp [bufK, hdr]
theorem buf_lsn (p : Pg) (k : Nat) : piece (bufK p k) 4 12 = leN 8 p.lsn.toNat := by
  obtain ⟨r, h⟩ := buf_shape p k
  rw [h]
  exact piece_app _ _ _ _ _ (zeros_length 4) (by rw [leN_length])
theorem buf_kind (p : Pg) (k : Nat) : (bufK p k).getD 12 0 = p.kind := by
  obtain ⟨r, h⟩ := buf_shape p k
  rw [h, ← List.append_assoc, getD_app_right _ _ _ (by simp [zeros_length, leN_length])]
  simp [zeros_length, leN_length]
theorem buf_extra (p : Pg) (k : Nat) : piece (bufK p k) 13 17 = leN 4 p.extra := by
  obtain ⟨r, h⟩ := buf_shape p k
  rw [h]
  have e : zeros 4 ++ (leN 8 p.lsn.toNat ++ (p.kind :: (leN 4 p.extra ++ (UInt8.ofNat p.items.length :: r)))) = (zeros 4 ++ (leN 8 p.lsn.toNat ++ [p.kind])) ++ (leN 4 p.extra ++ (UInt8.ofNat p.items.length :: r)) := by simp
  rw [e]
  exact piece_app _ _ _ _ _ (by simp [zeros_length, leN_length]) (by rw [leN_length])
theorem buf_count (p : Pg) (k : Nat) : (bufK p k).getD 17 0 = UInt8.ofNat p.items.length := by
  obtain ⟨r, h⟩ := buf_shape p k
  have e : zeros 4 ++ (leN 8 p.lsn.toNat ++ (p.kind :: (leN 4 p.extra ++ (UInt8.ofNat p.items.length :: r)))) = (zeros 4 ++ (leN 8 p.lsn.toNat ++ (p.kind :: leN 4 p.extra))) ++ (UInt8.ofNat p.items.length :: r) := by simp
  rw [h, e, getD_app_right _ _ _ (by simp [zeros_length, leN_length])]
  simp [zeros_length, leN_length]

theorem slots_split (xs : List (List UInt8)) (n k : Nat) (h : k < n) : ∃ r, slots xs n = slots xs k ++ (UInt8.ofNat (512 - tot (xs.take (k + 1))) :: UInt8.ofNat ((512 - tot (xs.take (k + 1))) / 256) :: r) := by
  induction n with
  | zero => omega
  | succ n ih =>
    rcases Nat.lt_or_ge k n with h1 | h1
    · obtain ⟨r, hr⟩ := ih h1
      rw [slots, hr]
      exact ⟨_, by rw [List.append_assoc]; rfl⟩
    · obtain rfl : k = n := by omega
      exact ⟨[], rfl⟩
theorem tails_split (xs : List (List UInt8)) (n k : Nat) (h : k < n) (hn : n ≤ xs.length) : ∃ a, tails xs n = a ++ (xs[k]'(by omega) ++ tails xs k) := by
  induction n with
  | zero => omega
  | succ n ih =>
    rcases Nat.lt_or_ge k n with h1 | h1
    · obtain ⟨a, ha⟩ := ih h1 (by omega)
      rw [tails, ha]
      exact ⟨_, by rw [← List.append_assoc]⟩
    · obtain rfl : k = n := by omega
      refine ⟨[], ?_⟩
      rw [tails, List.nil_append]
      simp [List.getD_eq_getElem?_getD, List.getElem?_eq_getElem (show k < xs.length by omega)]

theorem buf_from {p : Pg} (hw : p.wf) {k : Nat} (h : k < p.items.length) : fromN (bufK p p.items.length) (18 + 2 * k) = 512 - tot (p.items.take (k + 1)) := by
  obtain ⟨r, hr⟩ := slots_split p.items p.items.length k h
  have e : bufK p p.items.length = (hdr p ++ slots p.items k) ++ (UInt8.ofNat (512 - tot (p.items.take (k + 1))) :: UInt8.ofNat ((512 - tot (p.items.take (k + 1))) / 256) :: (r ++ (zeros (512 - tot (p.items.take p.items.length) - (18 + 2 * p.items.length)) ++ tails p.items p.items.length))) := by
    unfold bufK
    rw [hr]
    simp
  have hl : (hdr p ++ slots p.items k).length = 18 + 2 * k := by simp [hdr_length, slots_length]
  unfold fromN
  rw [e, getD_app_right _ _ _ (by omega), getD_app_right _ _ _ (by omega), hl, Nat.sub_self, show 18 + 2 * k + 1 - (18 + 2 * k) = 1 by omega]
  simp
  omega

theorem buf_item {p : Pg} (hw : p.wf) {k : Nat} (h : k < p.items.length) : piece (bufK p p.items.length) (512 - tot (p.items.take (k + 1))) (512 - tot (p.items.take k)) = p.items[k] := by
  obtain ⟨a, ha⟩ := tails_split p.items p.items.length k h (Nat.le_refl _)
  have hr := room_take hw (k := p.items.length) (Nat.le_refl _)
  have hr1 := room_take hw (k := k + 1) h
  have ht := tot_take_succ h
  have hL := tails_length p.items p.items.length (Nat.le_refl _)
  have hK := tails_length p.items k (by omega)
  rw [ha] at hL
  simp only [List.length_append] at hL
  have e : bufK p p.items.length = (hdr p ++ (slots p.items p.items.length ++ (zeros (512 - tot (p.items.take p.items.length) - (18 + 2 * p.items.length)) ++ a))) ++ (p.items[k] ++ tails p.items k) := by
    unfold bufK
    rw [ha]
    simp
  rw [e]
  refine piece_app _ _ _ _ _ ?_ ?_
  · simp [hdr_length, slots_length, zeros_length]
    simp at hr hL
    omega
  · omega

theorem buf_gap {p : Pg} (hw : p.wf) : piece (bufK p p.items.length) (18 + 2 * p.items.length) (512 - tot (p.items.take p.items.length)) = zeros (512 - tot (p.items.take p.items.length) - (18 + 2 * p.items.length)) := by
  have hr := room_take hw (k := p.items.length) (Nat.le_refl _)
  have e : bufK p p.items.length = (hdr p ++ slots p.items p.items.length) ++ (zeros (512 - tot (p.items.take p.items.length) - (18 + 2 * p.items.length)) ++ tails p.items p.items.length) := by
    unfold bufK
    simp
  rw [e]
  refine piece_app _ _ _ _ _ (by simp [hdr_length, slots_length]) ?_
  rw [zeros_length]
  omega

theorem allZ_zeros (n : Nat) : allZ (zeros n) = true := by simp [allZ, zeros]

theorem items_back {p : Pg} (hw : p.wf) : ∀ j k, k + j = p.items.length →
    itemsP (bytesP p) (18 + 2 * p.items.length) j (18 + 2 * k) (512 - tot (p.items.take k)) = some (p.items.drop k, 512 - tot (p.items.take p.items.length))
  | 0, k, h => by
    obtain rfl : k = p.items.length := by omega
    simp [itemsP]
  | j + 1, k, h => by
    have hk : k < p.items.length := by omega
    have hr1 := room_take hw (k := k + 1) hk
    have hrn := room_take hw (k := p.items.length) (Nat.le_refl _)
    have hle : tot (p.items.take (k + 1)) ≤ tot (p.items.take p.items.length) := by
      rw [List.take_length]; exact tot_take_le _ _
    have ht := tot_take_succ hk
    have hit := hw.item _ (List.getElem_mem hk)
    have hf : fromN (bytesP p) (18 + 2 * k) = 512 - tot (p.items.take (k + 1)) := by
      have := buf_from hw hk
      unfold fromN at this ⊢
      rw [bytesP_getD _ _ (by omega), bytesP_getD _ _ (by omega)]
      exact this
    have hp : piece (bytesP p) (512 - tot (p.items.take (k + 1))) (512 - tot (p.items.take k)) = p.items[k] := by
      rw [bytesP_piece _ _ _ (by omega)]
      exact buf_item hw hk
    have hbad : badF (512 - tot (p.items.take (k + 1))) (512 - tot (p.items.take k)) (18 + 2 * p.items.length) = false := by
      simp only [badF, Bool.or_eq_false_iff, decide_eq_false_iff_not]
      omega
    rw [itemsP, hf, hbad, show 18 + 2 * k + 2 = 18 + 2 * (k + 1) by omega, items_back hw j (k + 1) (by omega), hp]
    simp only [Bool.false_eq_true, if_false, Option.map_some]
    rw [List.drop_eq_getElem_cons hk]

theorem slot_back {p : Pg} (hw : p.wf) : slotN (bytesP p) = p.items.length := by
  have := hw.slots
  unfold slotN
  rw [bytesP_getD _ _ (by omega), buf_count]
  simp
  omega

/-- What was written is read back. -/
theorem parse_back {p : Pg} (hw : p.wf) : parseP (bytesP p) = some p := by
  have h4 : lowN (piece (bytesP p) 4 12) = p.lsn.toNat := by
    rw [bytesP_piece _ _ _ (by omega), buf_lsn]
    exact lowN_leN 8 _ (by have := hw.lsn0; have := hw.lsn1; omega)
  have h13 : lowN (piece (bytesP p) 13 17) = p.extra := by
    rw [bytesP_piece _ _ _ (by omega), buf_extra]
    exact lowN_leN 4 _ (by have := hw.extra; omega)
  have hi := items_back hw p.items.length 0 (by omega)
  have hl0 := hw.lsn0
  have hl1 := hw.lsn1
  unfold parseP
  rw [if_pos ⟨bytesP_length hw, opens_seal _, by omega, by rw [slot_back hw]; exact hw.slots⟩, slot_back hw]
  have e0 : 512 - tot (p.items.take 0) = 512 := by simp [tot]
  rw [e0] at hi
  rw [show 18 = 18 + 2 * 0 from rfl, hi]
  simp only
  rw [bytesP_piece _ _ _ (by omega), buf_gap hw, allZ_zeros, h4, h13, bytesP_getD _ _ (by omega), buf_kind]
  simp only [if_true, List.drop_zero]
  rw [Int.toNat_of_nonneg hl0]

end Go.Proofs.YthfidlhefkjpdaaGreatDoor

namespace Go.Proofs.YthfidlhefkjpdaaGreatDoor
open Go.RowKit

theorem infoBS : (Tryz.prog.info? 43).map (fun i => (i.zero, i.size, i.bytes)) = some (some (.slice none 0 0), 1, 24) := by kernel_rfl

set_option maxRecDepth 100000 in
set_option maxHeartbeats 400000 in
theorem insEnd_any (base n gv : Nat) (v x : Value) (vs : List Value) (w : World) (hO : w.ownsRow base 43 1 v n vs) (hx : w.cell? ⟨gv, 0, none⟩ = some x) (h1 : x.oneCell' = true) (hn : n ≤ 1000) (hb : base ≤ w.heap.size) :
    Calls Tryz.prog 94 #[v, .int .i64 (n : Int), .slice (some ⟨gv, 0, none⟩) 1 1] w fun e w' => ∃ v', e = .returned v' ∧ w'.ownsRow base 43 1 v' (n + 1) (vs ++ [x]) ∧ w.grownBy w' v.ownBlock := by
  obtain ⟨i0, hi0, hz0, hz1, hz2⟩ := info_parts infoBS
  have H := hO
  obtain ⟨A, cap, rfl, hcap, hmax, _⟩ := own_form hO
  unfold maxLen at hmax
  have C1 : Aside (∀ (j : Nat) (u : Value), [x][j]? = some u → w.cell? ((⟨gv, 0, none⟩ : Addr).add j) = some u) := ⟨fun j u hj => by match j, hj with | 0, hj => (simp at hj; subst hj; exact hx)⟩
  have C2 : Aside (∀ u ∈ [x], u.oneCell' = true) := ⟨by simpa using h1⟩
  have C3 : Aside (n + 1 ≤ maxLen ∧ (n + 1) * 24 ≤ 140737488355328) := ⟨by unfold maxLen; omega, by omega⟩
  have hO := hid hO
  clear H hx h1
  rename_i hform
  clear hform
  by_cases hcn : cap = n
  · subst hcn
    go_enter Tryz.func94, Tryz.ntmps94
    go_wp2_with (at_builtin
                 refine wpList_append_own _ rfl _ _ 47 rfl base 43 i0 _ 1 24 Tryz.underlying47 hi0 hz0 hz1 hz2 rfl (by decide) (.slice A cap cap) cap vs rfl hO.out ⟨gv, 0, none⟩ 1 1 [x] rfl rfl C1.out C2.out C3.out.1 C3.out.2 hb ?_
                 intro v' w1 hown' hgrow _
                 have A1 : Aside (w1.ownsRow base 43 1 v' (cap + 1) (vs ++ [x]) ∧ w.grownBy w1 (Value.slice A cap cap).ownBlock) := ⟨hown', hgrow⟩
                 clear hown' hgrow)
    go_ret
    exact ⟨v', rfl, A1.out.1, A1.out.2⟩
  · go_enter Tryz.func94, Tryz.ntmps94
    go_wp2_with (at_builtin
                 refine wpList_append_own _ rfl _ _ 47 rfl base 43 i0 _ 1 24 Tryz.underlying47 hi0 hz0 hz1 hz2 rfl (by decide) (.slice A n cap) n vs rfl hO.out ⟨gv, 0, none⟩ 1 1 [x] rfl rfl C1.out C2.out C3.out.1 C3.out.2 hb ?_
                 intro v' w1 hown' hgrow _
                 have A1 : Aside (w1.ownsRow base 43 1 v' (n + 1) (vs ++ [x]) ∧ w.grownBy w1 (Value.slice A n cap).ownBlock) := ⟨hown', hgrow⟩
                 clear hown' hgrow)
    go_ret
    exact ⟨v', rfl, A1.out.1, A1.out.2⟩

end Go.Proofs.YthfidlhefkjpdaaGreatDoor

namespace Go.Proofs.YthfidlhefkjpdaaGreatDoor
open Go.RowKit

theorem page_put {w w1 : World} {base g : Nat} {p : Pg} {x : List UInt8} {v v' u : Value} {vs : List Value} (hb : base ≤ g)
    (hB : Blk w g 138 #[.int .i64 p.lsn, .int .u8 (p.kind.toNat : Int), .int .u32 (p.extra : Int), v]) (hO : w.ownsRow base 43 1 v p.items.length vs) (hR : Rows w base vs p.items)
    (hu : w.ownsRow base 5 1 u x.length (x.map u8)) (hO' : w1.ownsRow base 43 1 v' (p.items.length + 1) (vs ++ [u])) (hG : w.grownBy w1 v.ownBlock) :
    PageAt (w1.setCell ⟨g, 3, none⟩ v') base g { p with items := p.items ++ [x] } ∧ Fr (fun b => b = g ∨ v.ownBlock = some b) w (w1.setCell ⟨g, 3, none⟩ v') := by
  have hne := hB.own_ne hO (by decide)
  have hF1 : Fr (fun b => v.ownBlock = some b) w w1 := ⟨hG.os, hG.tape, hG.output, hG.size, fun b hb hn => hG.block b hb (fun e => hn e.symm)⟩
  have hB1 := hB.fr hF1 (fun e => hne e.symm)
  have hF2 : Fr (· = g) w1 (w1.setCell ⟨g, 3, none⟩ v') := Fr.set (p := ⟨g, 3, none⟩) (Fr.refl (· = g) w1) (.inl rfl) v'
  have hR1 : Rows w1 base (vs ++ [u]) (p.items ++ [x]) := (hR.snoc hu).fr hF1 (fun b _ hb e => (own_ty hO e).ne hb (by decide))
  refine ⟨⟨hb, v', vs ++ [u], hB1.set_ 3 _, ?_, ?_⟩, ?_⟩
  · rw [show ({ p with items := p.items ++ [x] } : Pg).items.length = p.items.length + 1 by simp]
    exact own_fr hO' hF2 (fun b hb e => (own_ty hO' hb).ne (e ▸ hB1.ty) (by decide))
  · exact hR1.fr hF2 (fun b _ hb e => hb.ne (e ▸ hB1.ty) (by decide))
  · exact (hF1.mono (fun b _ h => .inr h)).trans hF2 (fun b _ h => .inl h)

theorem cell?_keep_alloc (w : World) (g i : Nat) (hg : g < w.heap.size) (o : Obj) : (w.alloc o).cell? ⟨g, i, none⟩ = w.cell? ⟨g, i, none⟩ := World.cell?_alloc_lt w o ⟨g, i, none⟩ hg

theorem own_one {w : World} {base n : Nat} {e : TypeId} {v : Value} {xs : List Value} (h : w.ownsRow base e 1 v n xs) : v.oneCell' = true := by
  obtain ⟨A, cap, rfl, _⟩ := own_form h
  rfl

set_option maxRecDepth 100000 in
set_option maxHeartbeats 1000000 in
theorem insert_ok (base g : Nat) (p : Pg) (A : Option Addr) (c : Nat) (x : List UInt8) (w : World) (hP : PageAt w base g p) (hw : p.wf) (hx : RdB w A x.length x) (hl : x.length ≤ 200) (hroom : (x.length : Int) ≤ roomOf p) (hbase : base ≤ w.heap.size) :
    Calls Tryz.prog 51 #[.pointer (some ⟨g, 0, none⟩), .int .i64 (p.items.length : Int), .slice A x.length c] w fun e w' => e = .returned (.int .i64 0) ∧ PageAt w' base g { p with items := p.items ++ [x] } ∧ Below base w w' := by
  have hbad := bad_any base g p p.items.length w hP
  have hrm := room_any base g p w hP hw
  have hk := hw.slots
  have hP' := hP
  obtain ⟨hb, v, vs, hB, hO, hR⟩ := hP'
  obtain ⟨i1, cap, rfl, hcap, hmax, hform⟩ := own_form hO
  have c3 := hB.cell 3
  have f3 := hB.frozen 3
  simp at c3
  have hgl := hB.lt
  have QA : Aside (PageAt w base g p ∧ base ≤ g ∧ Blk w g 138 #[.int .i64 p.lsn, .int .u8 (p.kind.toNat : Int), .int .u32 (p.extra : Int), .slice i1 p.items.length cap] ∧ w.ownsRow base 43 1 (.slice i1 p.items.length cap) p.items.length vs ∧ Rows w base vs p.items ∧ RdB w A x.length x ∧ some g ≠ (Value.slice i1 p.items.length cap).ownBlock) := ⟨hP, hb, hB, hO, hR, hx, hB.own_ne hO (by decide)⟩
  clear hP hw hb hB hO hR hx hform hcap hmax
  have h1 : decide ((200 : Int) < (x.length : Int)) = false := by simp; omega
  obtain ⟨r, hr⟩ : ∃ r, roomOf p = r := ⟨_, rfl⟩
  rw [hr] at hroom hrm
  have h2 : decide (r < (x.length : Int)) = false := by simp; omega
  have hd : decide (p.items.length ≤ p.items.length) = true := by simp
  rw [hd] at hbad
  have hnn : ((p.items.length : Int) != (p.items.length : Int)) = false := by simp
  clear hr hd
  go_enter Tryz.func51, Tryz.ntmps51
  go_wp2_with fail
  refine hbad.mono ?_
  rintro e w' ⟨rfl, rfl⟩
  go_wp2_with fail
  refine hrm.mono ?_
  rintro e w' ⟨rfl, rfl⟩
  go_wp2_with fail
  go_region_with (first
    | (go_at_call 47
       (with_reducible refine Calls.mono (clone_any A x.length c x _ ?_ ?_) ?_)
       · exact QA.out.2.2.2.2.2.1.below (by repeat (first | exact Below.refl _ _ | refine bl_drew ?_ | refine bl_alloc ?_ _))
       · omega
       rintro e w1 ⟨u, rfl, hown1, hb1⟩
       obtain ⟨ua, uc, rfl, hx1, hx2, hx3⟩ := own_form hown1
       clear hx1 hx2 hx3
       replace hb1 : Below w.heap.size w w1 := ⟨hb1.os, hb1.tape, hb1.output, hb1.size, hb1.block⟩
       have c3' := ((bcell hb1).1 g 3 hgl).trans c3
       have f3' := ((bcell hb1).2 g 3 hgl).trans f3
       have Q1 : Aside (Below w.heap.size w w1 ∧ w1.ownsRow w.heap.size 5 1 (.slice ua x.length uc) x.length (x.map u8)) := ⟨hb1, hown1⟩
       have hz1 : w.heap.size ≤ w1.heap.size := hb1.size
       have hgl1 : g < w1.heap.size := by omega
       have c3a := cell?_keep_alloc w1 g 3 hgl1 (.cells #[.slice ua x.length uc] 43)
       clear hown1 hb1)
    | (go_at_call 94
       (with_reducible refine Calls.mono (insEnd_any base p.items.length w1.heap.size (.slice i1 p.items.length cap) (.slice ua x.length uc) vs _ ?_ ?_ ?_ ?_ ?_) ?_)
       · exact (own_fr QA.out.2.2.2.1 (Fr.of_below Q1.out.1 (fun _ => False)) (fun _ _ h => h)).alloc _
       · exact cell_new1 w1 _ _
       · exact own_one Q1.out.2
       · omega
       · show base ≤ (w1.alloc _).heap.size
         rw [World.size_alloc]; omega
       rintro e w2 ⟨v', rfl, hown2, hg2⟩
       obtain ⟨va, vc, rfl, hx1, hx2, hx3⟩ := own_form hown2
       clear hx1 hx2 hx3
       have hg2' : w1.grownBy w2 (Value.slice i1 p.items.length cap).ownBlock := only_trans (World.grownBy_alloc w1 _ _) hg2
       have hbg : w2.heap[g]? = w.heap[g]? := (hg2'.block g (by omega) QA.out.2.2.2.2.2.2).trans (Q1.out.1.block g hgl)
       have c3'' := (World.cell?_of_block (w := w) (a := ⟨g, 3, none⟩) hbg).trans c3
       have f3'' := (World.frozen?_of_block (w := w) (a := ⟨g, 3, none⟩) hbg).trans f3
       have Q2 : Aside (w2.ownsRow base 43 1 (.slice va (p.items.length + 1) vc) (p.items.length + 1) (vs ++ [.slice ua x.length uc]) ∧ w1.grownBy w2 (Value.slice i1 p.items.length cap).ownBlock) := ⟨hown2, hg2'⟩
       clear hown2 hg2 hg2' hbg))
  all_goals go_wp2
  all_goals go_ret
  all_goals
    have hF := Fr.of_below Q1.out.1 (fun _ => False)
    have hO1 := own_fr QA.out.2.2.2.1 hF (fun _ _ h => h)
    obtain ⟨h1, h2⟩ := page_put QA.out.2.1 (QA.out.2.2.1.fr hF (fun h => h)) hO1 (QA.out.2.2.2.2.1.below Q1.out.1) (own_mono Q1.out.2 hbase) Q2.out.1 Q2.out.2
    exact ⟨rfl, h1, (Q1.out.1.mono hbase).trans (h2.below (by omega) (fun b hb => by
      rcases hb with rfl | hb
      · exact QA.out.2.1
      · exact (hO1.lt b hb).1))⟩

end Go.Proofs.YthfidlhefkjpdaaGreatDoor

namespace Go.Proofs.YthfidlhefkjpdaaGreatDoor
open Go.RowKit

theorem piece_le (bs : List UInt8) (a b : Nat) : (piece bs a b).length ≤ b - a := by
  simp [piece]; omega

theorem own_drewN0 {w : World} {base : Nat} {e : TypeId} {size n : Nat} {v : Value} {xs : List Value} (h : w.ownsRow base e size v n xs) : w.drew.ownsRow base e size v n xs := h

theorem from_to (b o f e c : Nat) (hf : f ≤ e) (he : e ≤ c) (_hc : 512 ≤ c) (W : World) :
    (Instr.sliceAt 43 (.slice (some ⟨b, o, none⟩) 512 c) (some (.int .i64 (f : Int))) (some (.int .i64 (e : Int))) none).run Tryz.prog W = .ok (.slice (if c = f then some ⟨b, o, none⟩ else some ⟨b, o + f, none⟩) (e - f) (c - f)) W := by
  have h1 : (0 : Int) ≤ (f : Int) := by omega
  have h2 : (f : Int) ≤ (e : Int) := by omega
  have h3 : (e : Int) ≤ (c : Int) := by omega
  by_cases h : c = f
  · subst h
    simp [go_sem, sliced, h2, h3]
  · simp [go_sem, sliced, h, h2, h3, Addr.add_lit]

theorem rd_piece {W : World} {b o f e c : Nat} {bs : List UInt8} (h : RdB W (some ⟨b, o, none⟩) 512 bs) (hf : f ≤ e) (he : e ≤ 512) (hc5 : 512 ≤ c) :
    RdB W (if c = f then some (⟨b, o, none⟩ : Addr) else some ⟨b, o + f, none⟩) (e - f) (piece bs f e) := by
  have hl := h.1
  have h1 := ((h.cut (k := f) (by omega)).take (k := e - f) (by omega)).at4
  by_cases hc : c = f
  · rw [if_pos hc]
    refine ⟨by rw [piece_length (by omega)], fun h0 => ?_⟩
    omega
  · rw [if_neg hc]
    exact h1

set_option maxRecDepth 100000 in
set_option maxHeartbeats 1000000 in
theorem parse_ok (A : Option Addr) (c : Nat) (bs : List UInt8) (p : Pg) (w : World) (hR : RdB w A 512 bs) (hc : 512 ≤ c) (hc2 : c ≤ 9223372036854775807) (hp : parseP bs = some p) :
    Calls Tryz.prog 34 #[.slice A 512 c] w fun e w' => ∃ g, e = .returned (.tuple #[.pointer (some ⟨g, 0, none⟩), .int .i64 0]) ∧ PageAt w' w.heap.size g p ∧ Below w.heap.size w w' := by
  have hcon : bs.length = 512 ∧ opens bs = true ∧ lowN (piece bs 4 12) ≤ 9223372036854775807 ∧ slotN bs ≤ 100 := by
    unfold parseP at hp
    split at hp
    · assumption
    · cases hp
  obtain ⟨hl, hop, hlow, hsl⟩ := hcon
  unfold parseP at hp
  rw [if_pos ⟨hl, hop, hlow, hsl⟩] at hp
  obtain ⟨r, hit, hp⟩ : ∃ r, itemsP bs (18 + 2 * slotN bs) (slotN bs) 18 512 = some r ∧ (if allZ (piece bs (18 + 2 * slotN bs) r.2) then some ⟨(lowN (piece bs 4 12) : Int), bs.getD 12 0, lowN (piece bs 13 17), r.1⟩ else none) = some p := by
    cases h : itemsP bs (18 + 2 * slotN bs) (slotN bs) 18 512 with
    | none => rw [h] at hp; cases hp
    | some r => rw [h] at hp; exact ⟨r, rfl, hp⟩
  have hz : allZ (piece bs (18 + 2 * slotN bs) r.2) = true := by
    cases h : allZ (piece bs (18 + 2 * slotN bs) r.2) with
    | true => rfl
    | false => rw [h] at hp; cases hp
  rw [hz] at hp
  simp only [if_true, Option.some.injEq] at hp
  obtain ⟨b, o, rfl, hb, hcell⟩ := hR.2 (by omega)
  have HRd : Aside (∀ W, Below w.heap.size w W → RdB W (some ⟨b, o, none⟩) 512 bs) := ⟨fun W hB => hR.below hB⟩
  have HC : Aside (∀ W, Below w.heap.size w W → ∀ i, i < 512 → W.cell? ⟨b, o + i, none⟩ = some (.int .u8 ((bs.getD i 0).toNat : Int))) := ⟨fun W hB i h => by
    have hi : i < bs.length := by omega
    rw [List.getD_eq_getElem?_getD, List.getElem?_eq_getElem hi]
    exact ((bcell hB).1 b _ hb).trans (hcell i hi)⟩
  have hop' := open_ok (some ⟨b, o, none⟩) 512 c bs w hR (by omega) (by omega) hc hc2 hop
  obtain ⟨n, hn⟩ : ∃ n, slotN bs = n := ⟨_, rfl⟩
  rw [hn] at hsl hit hz
  have S : Aside (bs.length = 512 ∧ slotN bs = n ∧ itemsP bs (18 + 2 * n) n 18 512 = some r ∧ allZ (piece bs (18 + 2 * n) r.2) = true ∧ (⟨(lowN (piece bs 4 12) : Int), bs.getD 12 0, lowN (piece bs 13 17), r.1⟩ : Pg) = p) := ⟨hl, hn, hit, hz, hp⟩
  clear hl hn hit hz hp hR hcell hop
  have hd1 : ¬ c = 4 := by omega
  go_enter Tryz.func34, Tryz.ntmps34
  go_wp2_with fail
  go_step3
  go_wp2_with fail
  refine hop'.mono ?_
  rintro e w1 ⟨v, rfl, hown, hb1⟩
  have B1 : Aside (Below w.heap.size w w1) := ⟨hb1⟩
  clear hown hb1 hop'
  have p4 : RdB w1 (some ⟨b, o + 4, none⟩) 8 (piece bs 4 12) := (((HRd.out _ B1.out).cut (k := 4) (by omega)).take (k := 8) (by omega)).at4
  have P4 := hid p4
  clear p4
  go_wp2_with fail
  refine (low_any _ 8 (c - 4) _ _ P4.out (Nat.le_trans (piece_le _ _ _) (by omega))).mono ?_
  rintro e w2 ⟨rfl, hb2⟩
  have B2 : Aside (Below w.heap.size w w2) := ⟨B1.out.trans (hb2.mono B1.out.size)⟩
  clear hb2
  obtain ⟨L, hL⟩ : ∃ L, lowN (piece bs 4 12) = L := ⟨_, rfl⟩
  rw [hL] at hlow ⊢
  have hL := hid hL
  have hc17 := HC.out _ B2.out 17 (by omega)
  have hc12 := HC.out _ B2.out 12 (by omega)
  have h17 : (bs.getD 17 0).toNat = n := S.out.2.1
  rw [h17] at hc17
  have hd3 : decide ((9223372036854775807 : Int) < (L : Int)) = false := by simp; omega
  have hd4 : decide ((100 : Int) < (n : Int)) = false := by simp; omega
  clear h17
  go_wp2_with fail
  have p13 : RdB w2 (some ⟨b, o + 13, none⟩) 4 (piece bs 13 17) := (((HRd.out _ B2.out).cut (k := 13) (by omega)).take (k := 4) (by omega)).at4
  have hX1 : lowN (piece bs 13 17) < 4294967296 := by
    have h1 := lowN_lt (piece bs 13 17)
    have h2 : 256 ^ (piece bs 13 17).length ≤ 256 ^ 4 := Nat.pow_le_pow_right (by omega) (piece_le _ _ _)
    omega
  have P13 := hid p13
  clear p13
  have hc17c : (17 : Int) ≤ (c : Int) := by omega
  have hd13 : ¬ c = 13 := by omega
  have wL : IntKind.i64.wrap (L : Int) = (L : Int) := wrap_nat (by omega) (by omega)
  obtain ⟨X, hX⟩ : ∃ X, lowN (piece bs 13 17) = X := ⟨_, rfl⟩
  rw [hX] at hX1
  have hX := hid hX
  have wX : IntKind.u32.wrap (X : Int) = (X : Int) := by rw [IntKind.wrap_u32']; omega
  obtain ⟨kd, hkd⟩ : ∃ kd, bs.getD 12 0 = kd := ⟨_, rfl⟩
  rw [hkd] at hc12
  have hkd := hid hkd
  have HK : Aside (∀ W, Below w.heap.size w W → W.cell? ⟨b, o + 12, none⟩ = some (.int .u8 (kd.toNat : Int))) := ⟨fun W hB => by have := HC.out W hB 12 (by omega); rw [hkd.out] at this; exact this⟩
  go_region_held3 (fun w' => w'.cell? ⟨b, o + 12, none⟩ = some (.int .u8 (kd.toNat : Int)))
    (first | exact HK.out _ (by repeat (first | exact B3.out | exact B2.out | refine bl_drew ?_ | refine bl_alloc ?_ _)))
    ((go_at_call 76
      (with_reducible refine Calls.mono (low_any (some ⟨b, o + 13, none⟩) 4 (c - 13) (piece bs 13 17) _ ?_ ?_) ?_)
      · exact P13.out.below (by repeat (first | exact Below.refl _ _ | refine bl_drew ?_))
      · exact Nat.le_trans (piece_le _ _ _) (by omega)
      rintro e w3 ⟨rfl, hb3⟩
      rw [hX.out]
      have B3 : Aside (Below w.heap.size w w3) := ⟨B2.out.trans ((bl_undrew hb3).mono B2.out.size)⟩
      clear hb3))
  go_wp2_with fail
  obtain ⟨W4, hW4⟩ : ∃ W4, (w3.alloc (.cells #[.int .i64 (L : Int), .int .u8 (kd.toNat : Int), .int .u32 (X : Int), .slice none 0 0] 138)) = W4 := ⟨_, rfl⟩
  have hb4 : Below w.heap.size w W4 := by rw [← hW4]; exact bl_alloc B3.out _
  have hP4 : PageAt W4 w.heap.size w3.heap.size ⟨(L : Int), kd, X, []⟩ := by
    rw [← hW4]
    exact ⟨B3.out.size, .slice none 0 0, [], alloc_new w3 _, World.ownsRow_nil _ _ _ _, Rows.nil _ _⟩
  obtain ⟨G, hG⟩ : ∃ G, w3.heap.size = G := ⟨_, rfl⟩
  rw [hW4, hG]
  rw [hG] at hP4
  clear hW4 hG hc12 hc17 wL wX P4 P13 HK
  have hc17 := HC.out _ hb4 17 (by omega)
  rw [show (bs.getD 17 0).toNat = n from S.out.2.1] at hc17
  have B4 : Aside (Below w.heap.size w W4 ∧ PageAt W4 w.heap.size G ⟨(L : Int), kd, X, []⟩) := ⟨hb4, hP4⟩
  clear hb4 hP4
  go_region_held3 (fun w' => w'.cell? ⟨b, o + 17, none⟩ = some (.int .u8 (n : Int))) (exact hc17) (fail)
  obtain ⟨T, hT⟩ : ∃ T : Nat, 18 + 2 * n = T := ⟨_, rfl⟩
  have hT' : IntKind.i64.wrap (18 + IntKind.i64.wrap (2 * IntKind.i64.wrap (n : Int))) = (T : Int) := by
    rw [wrap_nat (a := (n : Int)) (by omega) (by omega), wrap_nat (a := 2 * (n : Int)) (by omega) (by omega), wrap_nat (by omega) (by omega)]
    omega
  rw [hT', wrap_nat (a := (n : Int)) (by omega) (by omega), wrap_nat (a := 2 * (n : Int)) (by omega) (by omega)]
  have hT := hid hT
  clear hT'
  go_wp2_with fail
  have hTb : T ≤ 218 := by have := hT.out; omega
  go_loopg [5, 10] n (fun q e i wr => ∃ (k e0 iN : Nat) (pre rest : List (List UInt8)), k + q = n ∧ Hid (iN = 18 + 2 * k) ∧ i = .int .i64 (iN : Nat) ∧ e = .int .i64 (e0 : Nat) ∧ e0 ≤ 512 ∧ T ≤ e0 ∧
    Hid (itemsP bs T q iN e0 = some (rest, r.2) ∧ pre ++ rest = r.1 ∧ pre.length = k ∧ PageAt wr w.heap.size G ⟨(L : Int), kd, X, pre⟩ ∧ Below w.heap.size w wr))
  case atStart => exact ⟨0, 512, 18, [], r.1, by omega, rfl, rfl, rfl, by omega, by omega, by rw [← hT.out]; exact S.out.2.2.1, rfl, rfl, B4.out.2, bl_drew B4.out.1⟩
  case round =>
    obtain ⟨k, e0, iN, pre, rest, hk, hiN, rfl, rfl, he0, hTe, hr⟩ := hrel
    by_cases hlt : k < n
    · obtain ⟨m, rfl⟩ : ∃ m, gk = m + 1 := ⟨gk - 1, by omega⟩
      obtain ⟨hit, hpr, hpl, hPw, hBw⟩ := hr.out
      have hiNv := hiN.out
      have hTv := hT.out
      rw [itemsP] at hit
      obtain ⟨f, hf⟩ : ∃ f, fromN bs iN = f := ⟨_, rfl⟩
      rw [hf] at hit
      have hbad : badF f e0 T = false := by
        cases h : badF f e0 T with
        | false => rfl
        | true => rw [h] at hit; cases hit
      rw [hbad] at hit
      simp only [Bool.false_eq_true, if_false, Option.map_eq_some_iff] at hit
      obtain ⟨⟨rest', e'⟩, hit', hpair⟩ := hit
      simp only [Prod.mk.injEq] at hpair
      obtain ⟨hrest, he'⟩ := hpair
      subst hrest he'
      simp only [badF, Bool.or_eq_false_iff, decide_eq_false_iff_not] at hbad
      obtain ⟨hb1, hb2, hb3⟩ := hbad
      have hf0 : f ≤ e0 := by omega
      have hTf : T ≤ f := by omega
      have hf2 : e0 - f ≤ 200 := by omega
      have hiT : iN < T := by omega
      have hi512 : iN + 1 < 512 := by omega
      have hx0 := HC.out _ hBw iN (by omega)
      have hx1 := HC.out _ hBw (iN + 1) (by omega)
      obtain ⟨x0, ex0⟩ : ∃ x, (bs.getD iN 0).toNat = x := ⟨_, rfl⟩
      obtain ⟨x1, ex1⟩ : ∃ x, (bs.getD (iN + 1) 0).toNat = x := ⟨_, rfl⟩
      have hx0l : x0 < 256 := by rw [← ex0]; exact UInt8.toNat_lt _
      have hx1l : x1 < 256 := by rw [← ex1]; exact UInt8.toNat_lt _
      rw [ex0] at hx0
      rw [ex1] at hx1
      have hor : bits .or .i64 (x0 : Int) ((x1 : Int) * 256) = (f : Int) := by
        rw [two_bytes x0 x1 hx0l hx1l, ← hf, fromN, ex0, ex1]
      have hd5 : decide (iN < T) = true := by simp; omega
      have hd6 : decide (e0 < f) = false := by simp; omega
      have hd7 : decide (f < T) = false := by simp; omega
      have hd8 : decide ((200 : Int) < (e0 : Int) - (f : Int)) = false := by simp; omega
      have wi1 : IntKind.i64.wrap ((iN : Int) + 1) = (iN : Int) + 1 := wrap_nat (by omega) (by omega)
      have ti1 : ((iN : Int) + 1).toNat = iN + 1 := by omega
      have HH : Aside (k < n ∧ iN = 18 + 2 * k ∧ itemsP bs T m (iN + 2) f = some (rest', r.2) ∧ pre ++ piece bs f e0 :: rest' = r.1 ∧ pre.length = k ∧ PageAt wr w.heap.size G ⟨(L : Int), kd, X, pre⟩ ∧ Below w.heap.size w wr ∧ k + (m + 1) = n ∧ 18 + 2 * n = T) := ⟨hlt, hiNv, hit', hpr, hpl, hPw, hBw, hk, hTv⟩
      clear hit' hpr hpl hPw hBw hiNv hTv hf hb1 hb2 hb3 ex0 ex1 hr hiN hk hlt
      have hi0 : (0 : Int) ≤ (iN : Int) + 1 := by omega
      have hi5 : (iN : Int) + 1 < 512 := by omega
      have hi5' : (iN : Int) < 512 := by omega
      go_wp2_with fail
      go_region_held3 (fun w' => w'.cell? ⟨b, o + iN, none⟩ = some (.int .u8 (x0 : Int)) ∧ w'.cell? ⟨b, o + (iN + 1), none⟩ = some (.int .u8 (x1 : Int))) (exact ⟨hx0, hx1⟩) (fail)
      go_wp2_with fail
      rw [hor]
      obtain ⟨wq, hwq⟩ : ∃ wq, wr.drew = wq := ⟨_, rfl⟩
      have hBq : Below w.heap.size w wq := by rw [← hwq]; exact bl_drew HH.out.2.2.2.2.2.2.1
      have hPq : PageAt wq w.heap.size G ⟨(L : Int), kd, X, pre⟩ := by rw [← hwq]; exact HH.out.2.2.2.2.2.1
      rw [hwq]
      have hpl := HH.out.2.2.2.2.1
      obtain ⟨hGb, v0, vs, hBk, hO, hRw⟩ := hPq
      obtain ⟨i1, cap, rfl, hcap, _, _⟩ := own_form hO
      have hGl := hBk.lt
      have hne := hBk.own_ne hO (by decide)
      have c3 := hBk.cell 3
      have f3 := hBk.frozen 3
      simp only [List.getElem?_toArray, List.getElem?_cons_succ, List.getElem?_cons_zero] at c3
      have hO' : wq.ownsRow w.heap.size 43 1 (.slice i1 pre.length cap) pre.length vs := hO
      have c3q : wq.cell? ⟨G, 3, none⟩ = some (.slice i1 pre.length cap) := c3
      rw [hpl] at hO' c3q
      have QQ : Aside (Below w.heap.size w wq ∧ Blk wq G 138 #[.int .i64 (L : Int), .int .u8 (kd.toNat : Int), .int .u32 (X : Int), .slice i1 k cap] ∧ wq.ownsRow w.heap.size 43 1 (.slice i1 k cap) k vs ∧ Rows wq w.heap.size vs pre ∧ some G ≠ (Value.slice i1 k cap).ownBlock ∧ w.heap.size ≤ G) := ⟨hBq, by rw [← hpl]; exact hBk, hO', hRw, by rw [← hpl]; exact hne, hGb⟩
      have hcapk : k ≤ cap := by rw [← hpl]; exact hcap
      obtain ⟨AD, hAD⟩ : ∃ AD, (if c = f then some (⟨b, o, none⟩ : Addr) else some ⟨b, o + f, none⟩) = AD := ⟨_, rfl⟩
      have hsl2 := from_to b o f e0 c hf0 (by omega) hc
      rw [hAD] at hsl2
      have HRp : Aside (∀ W, Below w.heap.size w W → RdB W AD (e0 - f) (piece bs f e0)) := ⟨fun W hB => by rw [← hAD]; exact rd_piece (HRd.out W hB) hf0 he0 hc⟩
      have hkl : k ≤ 100 := by have := HH.out.1; omega
      have hzq : w.heap.size ≤ wq.heap.size := hBq.size
      clear hwq hBq hpl hGb hBk hO hRw hcap hne c3 hO' hAD hor hx0 hx1
      obtain ⟨i0, hi0, hz0, hz1, hz2⟩ := info_parts infoBS
      have tok1 : True := trivial
      have HE : Aside (∀ args w, (callFunc 47 args).run Tryz.prog w = .ok (.enter 47 args) w) := ⟨enters_of Tryz.func47 (by kernel_rfl) rfl⟩
      go_region_law (first
        | (have _t := tok1
           (refine step_call1 (o := ⟨some 91, _, _, _, _, _⟩) 47 (by rfl) _ _ (by rfl) HE.out (.slice AD (e0 - f) (c - f)) (by go_simp) (clone_any AD (e0 - f) (c - f) (piece bs f e0) _ ?_ ?_) ?_)
           · exact HRp.out _ (by repeat (first | exact QQ.out.1 | refine bl_drew ?_))
           · omega
           rintro e w5 ⟨u, rfl, hown5, hb5⟩
           obtain ⟨ua, uc, rfl, hy1, hy2, hy3⟩ := own_form hown5
           clear hy1 hy2 hy3
           replace hb5 : Below wq.heap.size wq w5 := ⟨hb5.os, hb5.tape, hb5.output, hb5.size, hb5.block⟩
           have c35 := ((bcell hb5).1 G 3 hGl).trans c3q
           have hz5 : wq.heap.size ≤ w5.heap.size := hb5.size
           have hGl5 : G < w5.heap.size := by omega
           have c3a := (cell?_keep_alloc w5 G 3 hGl5 (.cells #[.slice ua (e0 - f) uc] 43)).trans c35
           have Q5 : Aside (Below wq.heap.size wq w5 ∧ w5.ownsRow w.heap.size 5 1 (.slice ua (e0 - f) uc) (e0 - f) ((piece bs f e0).map u8)) := ⟨hb5, own_mono hown5 hzq⟩
           clear hown5 hb5 tok1
           refine ⟨_, rfl, ?_⟩)
        | (have _t := Q5
           (refine step_append_lies (o := ⟨some 93, _, _, _, _, _⟩) _ (by rfl) _ _ _ (by rfl) w.heap.size 43 i0 _ 1 24 Tryz.underlying47 hi0 hz0 hz1 hz2 rfl (by omega) (.slice i1 k cap) k vs (by rfl) ?_ ⟨w5.heap.size, 0, none⟩ 1 1 [.slice ua (e0 - f) uc] (by rfl) (by rfl) ?_ ?_ (by omega) ?_ (by omega) ?_ (w5.heap.size + 1) ?_ ?_)
           · exact own_drewN0 ((own_fr QQ.out.2.2.1 (Fr.of_below Q5.out.1 (fun _ => False)) (fun _ _ h => h)).alloc _)
           · exact news_blk (cs := #[_]) (t := 43) (fr := (0, 0)) (alloc_new w5 _)
           · simp [Value.oneCell']
           · unfold maxLen; omega
           · show w.heap.size ≤ (w5.alloc _).heap.size
             rw [World.size_alloc]; omega
           · show (w5.alloc _).heap.size = _
             rw [World.size_alloc]
           intro g6 cap6 w6 hown6 hgrow6 hat6 hlt6
           have hg6 : w5.grownBy w6 (Value.slice i1 k cap).ownBlock := only_trans (World.grownBy_alloc w5 _ _) ⟨hgrow6.os, hgrow6.tape, hgrow6.output, hgrow6.size, hgrow6.block⟩
           have hbG : w6.heap[G]? = wq.heap[G]? := (hg6.block G hGl5 QQ.out.2.2.2.2.1).trans (Q5.out.1.block G hGl)
           have c36 := (World.cell?_of_block (w := wq) (a := ⟨G, 3, none⟩) hbG).trans c3q
           have f36 := (World.frozen?_of_block (w := wq) (a := ⟨G, 3, none⟩) hbG).trans f3
           have Q6 : Aside (w6.ownsRow w.heap.size 43 1 (.slice (some ⟨g6, 0, none⟩) (k + 1) cap6) (k + 1) (vs ++ [.slice ua (e0 - f) uc]) ∧ w5.grownBy w6 (Value.slice i1 k cap).ownBlock) := ⟨hown6, hg6⟩
           clear hown6 hgrow6 hg6 hbG))
      all_goals go_wp2_with fail
      all_goals
        obtain ⟨r1, r2, r3, r4, r5, r6, r7, r8, r9⟩ := HH.out
        have hlenp : (piece bs f e0).length = e0 - f := piece_length (by have := S.out.1; omega)
        have hF := Fr.of_below Q5.out.1 (fun _ => False)
        obtain ⟨h1, h2⟩ := page_put (p := ⟨(L : Int), kd, X, pre⟩) (x := piece bs f e0) QQ.out.2.2.2.2.2 (QQ.out.2.1.fr hF (fun h => h)) (by rw [r5]; exact own_fr QQ.out.2.2.1 hF (fun _ _ h => h)) (QQ.out.2.2.2.1.below Q5.out.1) (by rw [hlenp]; exact Q5.out.2) (by rw [show (⟨(L : Int), kd, X, pre⟩ : Pg).items.length = k from r5]; exact Q6.out.1) Q6.out.2
        have hO5 := own_fr QQ.out.2.2.1 hF (fun _ _ h => h)
        have hBf := (QQ.out.1.trans (Q5.out.1.mono hzq)).trans (h2.below (Nat.le_trans hzq hz5) (fun x hx => by
          rcases hx with rfl | hx
          · exact QQ.out.2.2.2.2.2
          · exact (hO5.lt x hx).1))
        go_roundg m
        case rel => exact ⟨k + 1, f, iN + 2, pre ++ [piece bs f e0], rest', by omega, (by omega : iN + 2 = 18 + 2 * (k + 1)), by go_num, rfl, by omega, by omega, r3, by rw [List.append_assoc]; exact r4, by simp [r5], h1, hBf⟩
        case measure => omega
    · obtain rfl : k = n := by omega
      obtain rfl : gk = 0 := by omega
      obtain ⟨hit, hpr, hpl, hPw, hBw⟩ := hr.out
      have hd5 : decide (iN < T) = false := by have := hT.out; have := hiN.out; simp; omega
      simp only [itemsP, Option.some.injEq, Prod.mk.injEq] at hit
      obtain ⟨hre, hee⟩ := hit
      have HE : Aside (e0 = r.2 ∧ pre = r.1 ∧ PageAt wr w.heap.size G ⟨(L : Int), kd, X, pre⟩ ∧ Below w.heap.size w wr) := ⟨hee, by rw [← hpr, ← hre]; simp, hPw, hBw⟩
      clear hre hee hpr hpl hPw hBw hr
      have hcT : ¬ c = T := by omega
      go_wp2_with fail
      have hRT : RdB wr (some ⟨b, o + T, none⟩) (e0 - T) (piece bs T e0) := by
        have := rd_piece (c := c) (HRd.out wr HE.out.2.2.2) hTe he0 hc
        rw [if_neg hcT] at this
        exact this
      refine (trim_any _ _ _ _ _ hRT (by omega) (by omega)).mono ?_
      rintro e w7 ⟨A7, k7, c7, rfl, hk7, hb7⟩
      have hz : allZ (piece bs T e0) = true := by rw [HE.out.1, ← hT.out]; exact S.out.2.2.2.1
      rw [hz] at hk7
      simp only [decide_eq_true_eq] at hk7
      subst hk7
      have H7 : Aside (Below wr.heap.size wr w7) := ⟨hb7⟩
      clear hz hb7 hRT
      go_wp2_with fail
      try rw [Exit.noGoto_ret]
      go_ret2
      refine ⟨G, rfl, ?_, HE.out.2.2.2.trans (H7.out.mono HE.out.2.2.2.size)⟩
      have hP7 := HE.out.2.2.1.below H7.out
      have hpe := S.out.2.2.2.2
      rw [← hpe, hL.out, hkd.out, hX.out, ← HE.out.2.1]
      exact hP7

end Go.Proofs.YthfidlhefkjpdaaGreatDoor
