/- Reading a page back, as a plain function; what was written is read back.
   page: slices.Insert at the end; Insert at the end. -/
import Derived.Test.YthfidlhefkjpdaaGreatDoorTae
import Derived.Test.YthfidlhefkjpdaaGreatDoorTaj
import Derived.Test.YthfidlhefkjpdaaGreatDoorTaf
import Derived.Test.YthfidlhefkjpdaaGreatDoorTaa
import Derived.Test.YthfidlhefkjpdaaGreatDoorTag
namespace Go.Proofs.YthfidlhefkjpdaaGreatDoor

def piece (bs : List UInt8) (a b : Nat) : List UInt8 := (bs.drop a).take (b - a)
def fromN (bs : List UInt8) (i : Nat) : Nat := (bs.getD i 0).toNat + 256 * (bs.getD (i + 1) 0).toNat
def badF (f e at' : Nat) : Bool := decide (e < f) || (decide (f < at') || decide (200 < e - f))
def itemsP (bs : List UInt8) (at' : Nat) : Nat → Nat → Nat → Option (List (List UInt8) × Nat)
  | 0, _, e => some ([], e)
  | k + 1, i, e => if badF (fromN bs i) e at' then none else (itemsP bs at' k (i + 2) (fromN bs i)).map fun r => (piece bs (fromN bs i) e :: r.1, r.2)
def slotN (bs : List UInt8) : Nat := (bs.getD 17 0).toNat
def parseP (bs : List UInt8) : Option Pg :=
  if bs.length = 512 ∧ opens bs = true ∧ lowN (piece bs 4 12) ≤ 9223372036854775807 ∧ slotN bs ≤ 100 then
    match itemsP bs (18 + 2 * slotN bs) (slotN bs) 18 512 with
    | none => none
    | some r => if allZ (piece bs (18 + 2 * slotN bs) r.2) then some ⟨(lowN (piece bs 4 12) : Int), bs.getD 12 0, lowN (piece bs 13 17), r.1⟩ else none
  else none

theorem piece_length {bs : List UInt8} {a b : Nat} (h : b ≤ bs.length) : (piece bs a b).length = b - a := by
  simp [piece]; omega
theorem lowN_append (a b : List UInt8) : lowN (a ++ b) = lowN a + 256 ^ a.length * lowN b := by
  induction a with
  | nil => simp [lowN]
  | cons c r ih =>
    simp only [List.cons_append, lowN, ih, List.length_cons, Nat.pow_succ]
    rw [Nat.mul_add, Nat.mul_comm (256 ^ r.length) 256, Nat.mul_assoc]
    omega
theorem lowN_leN (k u : Nat) (h : u < 256 ^ k) : lowN (leN k u) = u := by
  have key : ∀ k, lowN (leN k u) = u % 256 ^ k := by
    intro k
    induction k with
    | zero => simp [leN, lowN, Nat.mod_one]
    | succ k ih =>
      rw [leN, lowN_append, ih, leN_length]
      simp only [lowN, UInt8.toNat_ofNat', Nat.reducePow, Nat.mul_zero, Nat.add_zero]
      rw [Nat.pow_succ, Nat.mod_mul]
  rw [key, Nat.mod_eq_of_lt h]

theorem getD_app_right (a b : List UInt8) (i : Nat) (h : a.length ≤ i) : (a ++ b).getD i 0 = b.getD (i - a.length) 0 := by
  simp [List.getD_eq_getElem?_getD, List.getElem?_append_right h]
theorem getD_app_left (a b : List UInt8) (i : Nat) (h : i < a.length) : (a ++ b).getD i 0 = a.getD i 0 := by
  simp [List.getD_eq_getElem?_getD, List.getElem?_append_left h]
theorem piece_app (a m b : List UInt8) (i j : Nat) (hi : a.length = i) (hj : i + m.length = j) : piece (a ++ (m ++ b)) i j = m := by
  subst hi hj
  simp [piece]

theorem bytesP_eq (p : Pg) (hw : p.wf) : bytesP p = le4 (crcOf (bodyP p)) ++ (bufK p p.items.length).drop 4 := rfl
theorem bytesP_getD (p : Pg) (i : Nat) (h : 4 ≤ i) : (bytesP p).getD i 0 = (bufK p p.items.length).getD i 0 := by
  unfold bytesP sealB
  rw [getD_app_right _ _ _ (by simpa [le4] using h)]
  simp only [le4, List.length_cons, List.length_nil, bodyP, List.getD_eq_getElem?_getD, List.getElem?_drop]
  rw [show 4 + (i - 4) = i by omega]
theorem bytesP_piece (p : Pg) (a b : Nat) (h : 4 ≤ a) : piece (bytesP p) a b = piece (bufK p p.items.length) a b := by
  unfold piece bytesP sealB bodyP
  congr 1
  rw [List.drop_append, List.drop_of_length_le (by simpa [le4] using h), List.nil_append, List.drop_drop]
  simp only [le4, List.length_cons, List.length_nil]
  rw [show 4 + (a - (0 + 1 + 1 + 1 + 1)) = a by omega]

theorem buf_shape (p : Pg) (k : Nat) : ∃ r, bufK p k = zeros 4 ++ (leN 8 p.lsn.toNat ++ (p.kind :: (leN 4 p.extra ++ (UInt8.ofNat p.items.length :: r)))) := by
  refine ⟨slots p.items k ++ (zeros (512 - tot (p.items.take k) - (18 + 2 * k)) ++ tails p.items k), ?_⟩
  simp [bufK, hdr]
theorem buf_lsn (p : Pg) (k : Nat) : piece (bufK p k) 4 12 = leN 8 p.lsn.toNat := by
  obtain ⟨r, h⟩ := buf_shape p k
  rw [h]
  exact piece_app _ _ _ _ _ (zeros_length 4) (by rw [leN_length])
theorem buf_kind (p : Pg) (k : Nat) : (bufK p k).getD 12 0 = p.kind := by
  obtain ⟨r, h⟩ := buf_shape p k
  rw [h, ← List.append_assoc, getD_app_right _ _ _ (by simp [zeros_length, leN_length])]
  simp [zeros_length, leN_length]
theorem buf_extra (p : Pg) (k : Nat) : piece (bufK p k) 13 17 = leN 4 p.extra := by
  obtain ⟨r, h⟩ := buf_shape p k
  rw [h]
  have e : zeros 4 ++ (leN 8 p.lsn.toNat ++ (p.kind :: (leN 4 p.extra ++ (UInt8.ofNat p.items.length :: r)))) = (zeros 4 ++ (leN 8 p.lsn.toNat ++ [p.kind])) ++ (leN 4 p.extra ++ (UInt8.ofNat p.items.length :: r)) := by simp
  rw [e]
  exact piece_app _ _ _ _ _ (by simp [zeros_length, leN_length]) (by rw [leN_length])
theorem buf_count (p : Pg) (k : Nat) : (bufK p k).getD 17 0 = UInt8.ofNat p.items.length := by
  obtain ⟨r, h⟩ := buf_shape p k
  have e : zeros 4 ++ (leN 8 p.lsn.toNat ++ (p.kind :: (leN 4 p.extra ++ (UInt8.ofNat p.items.length :: r)))) = (zeros 4 ++ (leN 8 p.lsn.toNat ++ (p.kind :: leN 4 p.extra))) ++ (UInt8.ofNat p.items.length :: r) := by simp
  rw [h, e, getD_app_right _ _ _ (by simp [zeros_length, leN_length])]
  simp [zeros_length, leN_length]

theorem slots_split (xs : List (List UInt8)) (n k : Nat) (h : k < n) : ∃ r, slots xs n = slots xs k ++ (UInt8.ofNat (512 - tot (xs.take (k + 1))) :: UInt8.ofNat ((512 - tot (xs.take (k + 1))) / 256) :: r) := by
  induction n with
  | zero => omega
  | succ n ih =>
    rcases Nat.lt_or_ge k n with h1 | h1
    · obtain ⟨r, hr⟩ := ih h1
      rw [slots, hr]
      exact ⟨_, by rw [List.append_assoc]; rfl⟩
    · obtain rfl : k = n := by omega
      exact ⟨[], rfl⟩
theorem tails_split (xs : List (List UInt8)) (n k : Nat) (h : k < n) (hn : n ≤ xs.length) : ∃ a, tails xs n = a ++ (xs[k]'(by omega) ++ tails xs k) := by
  induction n with
  | zero => omega
  | succ n ih =>
    rcases Nat.lt_or_ge k n with h1 | h1
    · obtain ⟨a, ha⟩ := ih h1 (by omega)
      rw [tails, ha]
      exact ⟨_, by rw [← List.append_assoc]⟩
    · obtain rfl : k = n := by omega
      refine ⟨[], ?_⟩
      rw [tails, List.nil_append]
      simp [List.getD_eq_getElem?_getD, List.getElem?_eq_getElem (show k < xs.length by omega)]

theorem buf_from {p : Pg} (hw : p.wf) {k : Nat} (h : k < p.items.length) : fromN (bufK p p.items.length) (18 + 2 * k) = 512 - tot (p.items.take (k + 1)) := by
  obtain ⟨r, hr⟩ := slots_split p.items p.items.length k h
  have e : bufK p p.items.length = (hdr p ++ slots p.items k) ++ (UInt8.ofNat (512 - tot (p.items.take (k + 1))) :: UInt8.ofNat ((512 - tot (p.items.take (k + 1))) / 256) :: (r ++ (zeros (512 - tot (p.items.take p.items.length) - (18 + 2 * p.items.length)) ++ tails p.items p.items.length))) := by
    unfold bufK
    rw [hr]
    simp
  have hl : (hdr p ++ slots p.items k).length = 18 + 2 * k := by simp [hdr_length, slots_length]
  unfold fromN
  rw [e, getD_app_right _ _ _ (by omega), getD_app_right _ _ _ (by omega), hl, Nat.sub_self, show 18 + 2 * k + 1 - (18 + 2 * k) = 1 by omega]
  simp
  omega

theorem buf_item {p : Pg} (hw : p.wf) {k : Nat} (h : k < p.items.length) : piece (bufK p p.items.length) (512 - tot (p.items.take (k + 1))) (512 - tot (p.items.take k)) = p.items[k] := by
  obtain ⟨a, ha⟩ := tails_split p.items p.items.length k h (Nat.le_refl _)
  have hr := room_take hw (k := p.items.length) (Nat.le_refl _)
  have hr1 := room_take hw (k := k + 1) h
  have ht := tot_take_succ h
  have hL := tails_length p.items p.items.length (Nat.le_refl _)
  have hK := tails_length p.items k (by omega)
  rw [ha] at hL
  simp only [List.length_append] at hL
  have e : bufK p p.items.length = (hdr p ++ (slots p.items p.items.length ++ (zeros (512 - tot (p.items.take p.items.length) - (18 + 2 * p.items.length)) ++ a))) ++ (p.items[k] ++ tails p.items k) := by
    unfold bufK
    rw [ha]
    simp
  rw [e]
  refine piece_app _ _ _ _ _ ?_ ?_
  · simp [hdr_length, slots_length, zeros_length]
    simp at hr hL
    omega
  · omega

theorem buf_gap {p : Pg} (hw : p.wf) : piece (bufK p p.items.length) (18 + 2 * p.items.length) (512 - tot (p.items.take p.items.length)) = zeros (512 - tot (p.items.take p.items.length) - (18 + 2 * p.items.length)) := by
  have hr := room_take hw (k := p.items.length) (Nat.le_refl _)
  have e : bufK p p.items.length = (hdr p ++ slots p.items p.items.length) ++ (zeros (512 - tot (p.items.take p.items.length) - (18 + 2 * p.items.length)) ++ tails p.items p.items.length) := by
    unfold bufK
    simp
  rw [e]
  refine piece_app _ _ _ _ _ (by simp [hdr_length, slots_length]) ?_
  rw [zeros_length]
  omega

theorem allZ_zeros (n : Nat) : allZ (zeros n) = true := by simp [allZ, zeros]

theorem items_back {p : Pg} (hw : p.wf) : ∀ j k, k + j = p.items.length →
    itemsP (bytesP p) (18 + 2 * p.items.length) j (18 + 2 * k) (512 - tot (p.items.take k)) = some (p.items.drop k, 512 - tot (p.items.take p.items.length))
  | 0, k, h => by
    obtain rfl : k = p.items.length := by omega
    simp [itemsP]
  | j + 1, k, h => by
    have hk : k < p.items.length := by omega
    have hr1 := room_take hw (k := k + 1) hk
    have hrn := room_take hw (k := p.items.length) (Nat.le_refl _)
    have hle : tot (p.items.take (k + 1)) ≤ tot (p.items.take p.items.length) := by
      rw [List.take_length]; exact tot_take_le _ _
    have ht := tot_take_succ hk
    have hit := hw.item _ (List.getElem_mem hk)
    have hf : fromN (bytesP p) (18 + 2 * k) = 512 - tot (p.items.take (k + 1)) := by
      have := buf_from hw hk
      unfold fromN at this ⊢
      rw [bytesP_getD _ _ (by omega), bytesP_getD _ _ (by omega)]
      exact this
    have hp : piece (bytesP p) (512 - tot (p.items.take (k + 1))) (512 - tot (p.items.take k)) = p.items[k] := by
      rw [bytesP_piece _ _ _ (by omega)]
      exact buf_item hw hk
    have hbad : badF (512 - tot (p.items.take (k + 1))) (512 - tot (p.items.take k)) (18 + 2 * p.items.length) = false := by
      simp only [badF, Bool.or_eq_false_iff, decide_eq_false_iff_not]
      omega
    rw [itemsP, hf, hbad, show 18 + 2 * k + 2 = 18 + 2 * (k + 1) by omega, items_back hw j (k + 1) (by omega), hp]
    simp only [Bool.false_eq_true, if_false, Option.map_some]
    rw [List.drop_eq_getElem_cons hk]

theorem slot_back {p : Pg} (hw : p.wf) : slotN (bytesP p) = p.items.length := by
  have := hw.slots
  unfold slotN
  rw [bytesP_getD _ _ (by omega), buf_count]
  simp
  omega

/-- What was written is read back. -/
theorem parse_back {p : Pg} (hw : p.wf) : parseP (bytesP p) = some p := by
  have h4 : lowN (piece (bytesP p) 4 12) = p.lsn.toNat := by
    rw [bytesP_piece _ _ _ (by omega), buf_lsn]
    exact lowN_leN 8 _ (by have := hw.lsn0; have := hw.lsn1; omega)
  have h13 : lowN (piece (bytesP p) 13 17) = p.extra := by
    rw [bytesP_piece _ _ _ (by omega), buf_extra]
    exact lowN_leN 4 _ (by have := hw.extra; omega)
  have hi := items_back hw p.items.length 0 (by omega)
  have hl0 := hw.lsn0
  have hl1 := hw.lsn1
  unfold parseP
  rw [if_pos ⟨bytesP_length hw, opens_seal _, by omega, by rw [slot_back hw]; exact hw.slots⟩, slot_back hw]
  have e0 : 512 - tot (p.items.take 0) = 512 := by simp [tot]
  rw [e0] at hi
  rw [show 18 = 18 + 2 * 0 from rfl, hi]
  simp only
  rw [bytesP_piece _ _ _ (by omega), buf_gap hw, allZ_zeros, h4, h13, bytesP_getD _ _ (by omega), buf_kind]
  simp only [if_true, List.drop_zero]
  rw [Int.toNat_of_nonneg hl0]

end Go.Proofs.YthfidlhefkjpdaaGreatDoor

namespace Go.Proofs.YthfidlhefkjpdaaGreatDoor
open Go.RowKit

theorem infoBS : (Tryz.prog.info? 43).map (fun i => (i.zero, i.size, i.bytes)) = some (some (.slice none 0 0), 1, 24) := by kernel_rfl

set_option maxRecDepth 100000 in
set_option maxHeartbeats 400000 in
theorem insEnd_any (base n gv : Nat) (v x : Value) (vs : List Value) (w : World) (hO : w.ownsRow base 43 1 v n vs) (hx : w.cell? ⟨gv, 0, none⟩ = some x) (h1 : x.oneCell' = true) (hn : n ≤ 1000) (hb : base ≤ w.heap.size) :
    Calls Tryz.prog 94 #[v, .int .i64 (n : Int), .slice (some ⟨gv, 0, none⟩) 1 1] w fun e w' => ∃ v', e = .returned v' ∧ w'.ownsRow base 43 1 v' (n + 1) (vs ++ [x]) ∧ w.grownBy w' v.ownBlock := by
  obtain ⟨i0, hi0, hz0, hz1, hz2⟩ := info_parts infoBS
  have H := hO
  obtain ⟨A, cap, rfl, hcap, hmax, _⟩ := own_form hO
  unfold maxLen at hmax
  have C1 : Aside (∀ (j : Nat) (u : Value), [x][j]? = some u → w.cell? ((⟨gv, 0, none⟩ : Addr).add j) = some u) := ⟨fun j u hj => by match j, hj with | 0, hj => (simp at hj; subst hj; exact hx)⟩
  have C2 : Aside (∀ u ∈ [x], u.oneCell' = true) := ⟨by simpa using h1⟩
  have C3 : Aside (n + 1 ≤ maxLen ∧ (n + 1) * 24 ≤ 140737488355328) := ⟨by unfold maxLen; omega, by omega⟩
  have hO := hid hO
  clear H hx h1
  rename_i hform
  clear hform
  by_cases hcn : cap = n
  · subst hcn
    go_enter Tryz.func94, Tryz.ntmps94
    go_wp2_with (at_builtin
                 refine wpList_append_own _ rfl _ _ 47 rfl base 43 i0 _ 1 24 Tryz.underlying47 hi0 hz0 hz1 hz2 rfl (by decide) (.slice A cap cap) cap vs rfl hO.out ⟨gv, 0, none⟩ 1 1 [x] rfl rfl C1.out C2.out C3.out.1 C3.out.2 hb ?_
                 intro v' w1 hown' hgrow _
                 have A1 : Aside (w1.ownsRow base 43 1 v' (cap + 1) (vs ++ [x]) ∧ w.grownBy w1 (Value.slice A cap cap).ownBlock) := ⟨hown', hgrow⟩
                 clear hown' hgrow)
    go_ret
    exact ⟨v', rfl, A1.out.1, A1.out.2⟩
  · go_enter Tryz.func94, Tryz.ntmps94
    go_wp2_with (at_builtin
                 refine wpList_append_own _ rfl _ _ 47 rfl base 43 i0 _ 1 24 Tryz.underlying47 hi0 hz0 hz1 hz2 rfl (by decide) (.slice A n cap) n vs rfl hO.out ⟨gv, 0, none⟩ 1 1 [x] rfl rfl C1.out C2.out C3.out.1 C3.out.2 hb ?_
                 intro v' w1 hown' hgrow _
                 have A1 : Aside (w1.ownsRow base 43 1 v' (n + 1) (vs ++ [x]) ∧ w.grownBy w1 (Value.slice A n cap).ownBlock) := ⟨hown', hgrow⟩
                 clear hown' hgrow)
    go_ret
    exact ⟨v', rfl, A1.out.1, A1.out.2⟩

end Go.Proofs.YthfidlhefkjpdaaGreatDoor
