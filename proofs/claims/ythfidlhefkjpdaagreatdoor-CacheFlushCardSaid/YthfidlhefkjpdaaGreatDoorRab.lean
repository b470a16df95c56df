/- The bytes of a page, as a plain function.
   page.setLow.
   The walks of package crc: Open.
   Small walks of package page.
   page: bad, free, Room. -/
import Derived.Test.YthfidlhefkjpdaaGreatDoorRaa
import Derived.Outline
import Derived.Deep.LoopGhost
import Derived.Deep.RegionHeld3
import Derived.Laws.Cover3
import Derived.ChangeKeysEq
namespace Go.Proofs.YthfidlhefkjpdaaGreatDoor

theorem zeros_add (a b : Nat) : zeros (a + b) = zeros a ++ zeros b := by simp [zeros, List.replicate_append_replicate]
theorem zeros_two (n : Nat) : zeros (n + 2) = 0 :: 0 :: zeros n := by simp [zeros, List.replicate_succ]
theorem zeros_one : zeros 1 = [0] := rfl
theorem set_mid (a b : List UInt8) (y c : UInt8) : (a ++ (y :: b)).set a.length c = a ++ (c :: b) := by
  rw [List.set_append_right _ _ (Nat.le_refl _), Nat.sub_self]
  rfl
theorem set_at (a b : List UInt8) (y c : UInt8) (i : Nat) (h : a.length = i) : (a ++ (y :: b)).set i c = a ++ (c :: b) := by subst h; exact set_mid a b y c
theorem splice_at (a m b x : List UInt8) (i : Nat) (hi : a.length = i) (h : x.length = m.length) : splice (a ++ (m ++ b)) i x = a ++ (x ++ b) := by subst hi; exact splice_mid a m b x h

def hdr (p : Pg) : List UInt8 := zeros 4 ++ (leN 8 p.lsn.toNat ++ (p.kind :: (leN 4 p.extra ++ [UInt8.ofNat p.items.length])))
def slots (xs : List (List UInt8)) : Nat → List UInt8
  | 0 => []
  | k + 1 => slots xs k ++ [UInt8.ofNat (512 - tot (xs.take (k + 1))), UInt8.ofNat ((512 - tot (xs.take (k + 1))) / 256)]
def tails (xs : List (List UInt8)) : Nat → List UInt8
  | 0 => []
  | k + 1 => xs.getD k [] ++ tails xs k
def bufK (p : Pg) (k : Nat) : List UInt8 := hdr p ++ (slots p.items k ++ (zeros (512 - tot (p.items.take k) - (18 + 2 * k)) ++ tails p.items k))
def bodyP (p : Pg) : List UInt8 := (bufK p p.items.length).drop 4
def bytesP (p : Pg) : List UInt8 := sealB (bodyP p)

theorem hdr_length (p : Pg) : (hdr p).length = 18 := by simp [hdr, zeros_length, leN_length]
theorem slots_length (xs : List (List UInt8)) (k : Nat) : (slots xs k).length = 2 * k := by
  induction k with
  | zero => rfl
  | succ k ih => simp [slots, ih]; omega
theorem tails_length (xs : List (List UInt8)) (k : Nat) (h : k ≤ xs.length) : (tails xs k).length = tot (xs.take k) := by
  induction k with
  | zero => rfl
  | succ k ih =>
    have hlt : k < xs.length := h
    rw [tot_take_succ hlt, tails, List.length_append, ih (by omega)]
    simp [List.getD_eq_getElem?_getD, List.getElem?_eq_getElem hlt]
    omega
theorem bufK_length (p : Pg) (k : Nat) (h : k ≤ p.items.length) (hu : 18 + 2 * k + tot (p.items.take k) ≤ 512) : (bufK p k).length = 512 := by
  simp [bufK, hdr_length, slots_length, tails_length _ _ h, zeros_length]
  omega
theorem room_take {p : Pg} (hw : p.wf) {k : Nat} (h : k ≤ p.items.length) : 18 + 2 * k + tot (p.items.take k) ≤ 512 := by
  have := hw.used
  have := tot_take_le p.items k
  omega
theorem bodyP_length {p : Pg} (hw : p.wf) : (bodyP p).length = 508 := by
  rw [bodyP, List.length_drop, bufK_length p _ (Nat.le_refl _) (room_take hw (Nat.le_refl _))]
theorem bytesP_length {p : Pg} (hw : p.wf) : (bytesP p).length = 512 := by
  simp [bytesP, sealB, le4, bodyP_length hw]

theorem buf_start (p : Pg) : ((splice (((splice (zeros 512) 4 (leN 8 p.lsn.toNat))).set 12 p.kind) 13 (leN 4 p.extra)).set 17 (UInt8.ofNat p.items.length)) = bufK p 0 := by
  have e : zeros 512 = zeros 4 ++ (zeros 8 ++ (0 :: (zeros 4 ++ (0 :: zeros 494)))) := by
    have h1 : ∀ n, (0 : UInt8) :: zeros n = zeros (n + 1) := fun n => by simp [zeros, List.replicate_succ]
    rw [h1, ← zeros_add, h1, ← zeros_add, ← zeros_add]
  rw [e, splice_at _ _ _ _ 4 (zeros_length 4) (by rw [leN_length, zeros_length])]
  have e2 : zeros 4 ++ (leN 8 p.lsn.toNat ++ (0 :: (zeros 4 ++ (0 :: zeros 494)))) = (zeros 4 ++ leN 8 p.lsn.toNat) ++ (0 :: (zeros 4 ++ (0 :: zeros 494))) := by simp
  rw [e2, set_at _ _ _ _ 12 (by simp [zeros_length, leN_length])]
  have e3 : (zeros 4 ++ leN 8 p.lsn.toNat) ++ (p.kind :: (zeros 4 ++ (0 :: zeros 494))) = ((zeros 4 ++ leN 8 p.lsn.toNat) ++ [p.kind]) ++ (zeros 4 ++ (0 :: zeros 494)) := by simp
  rw [e3, splice_at _ _ _ _ 13 (by simp [zeros_length, leN_length]) (by rw [leN_length, zeros_length])]
  have e4 : ((zeros 4 ++ leN 8 p.lsn.toNat) ++ [p.kind]) ++ (leN 4 p.extra ++ (0 :: zeros 494)) = (((zeros 4 ++ leN 8 p.lsn.toNat) ++ [p.kind]) ++ leN 4 p.extra) ++ (0 :: zeros 494) := by simp
  rw [e4, set_at _ _ _ _ 17 (by simp [zeros_length, leN_length])]
  simp [bufK, hdr, slots, tails, tot]

theorem buf_step {p : Pg} (hw : p.wf) {k e : Nat} (hk : k < p.items.length) (he : e = 512 - tot (p.items.take (k + 1))) :
    ((splice (bufK p k) e p.items[k]).set (18 + 2 * k) (UInt8.ofNat e)).set (18 + 2 * k + 1) (UInt8.ofNat (e / 256)) = bufK p (k + 1) := by
  have hr := room_take hw (k := k + 1) hk
  have ht := tot_take_succ hk
  subst he
  obtain ⟨x, hx⟩ : ∃ x, p.items[k] = x := ⟨_, rfl⟩
  have htl : tails p.items (k + 1) = x ++ tails p.items k := by
    simp [tails, List.getD_eq_getElem?_getD, List.getElem?_eq_getElem hk, hx]
  rw [hx] at ht ⊢
  unfold bufK
  rw [htl, slots]
  obtain ⟨m, hm⟩ : ∃ m, 512 - tot (p.items.take (k + 1)) - (18 + 2 * (k + 1)) = m := ⟨_, rfl⟩
  have hz : zeros (512 - tot (p.items.take k) - (18 + 2 * k)) = 0 :: 0 :: (zeros m ++ zeros x.length) := by
    rw [← zeros_add, ← zeros_two]
    congr 1
    omega
  rw [hz, hm]
  have e1 : hdr p ++ (slots p.items k ++ ((0 :: 0 :: (zeros m ++ zeros x.length)) ++ tails p.items k)) = ((hdr p ++ slots p.items k) ++ (0 :: 0 :: zeros m)) ++ (zeros x.length ++ tails p.items k) := by simp
  rw [e1, splice_at _ _ _ _ _ (by simp [hdr_length, slots_length, zeros_length]; omega) (by rw [zeros_length])]
  have e2 : ((hdr p ++ slots p.items k) ++ (0 :: 0 :: zeros m)) ++ (x ++ tails p.items k) = (hdr p ++ slots p.items k) ++ (0 :: (0 :: zeros m ++ (x ++ tails p.items k))) := by simp
  rw [e2, set_at _ _ _ _ (18 + 2 * k) (by simp [hdr_length, slots_length])]
  have e3 : (hdr p ++ slots p.items k) ++ (UInt8.ofNat (512 - tot (p.items.take (k + 1))) :: (0 :: zeros m ++ (x ++ tails p.items k))) = ((hdr p ++ slots p.items k) ++ [UInt8.ofNat (512 - tot (p.items.take (k + 1)))]) ++ (0 :: (zeros m ++ (x ++ tails p.items k))) := by simp
  rw [e3, set_at _ _ _ _ (18 + 2 * k + 1) (by simp [hdr_length, slots_length]; omega)]
  simp

end Go.Proofs.YthfidlhefkjpdaaGreatDoor

namespace Go.Proofs.YthfidlhefkjpdaaGreatDoor
open Go.RowKit

set_option maxRecDepth 100000 in
set_option maxHeartbeats 400000 in
theorem setLow_any (g off n c u : Nat) (bs : List UInt8) (w : World) (hB : Byt w g bs) (hn : off + n ≤ bs.length) (hc : n ≤ 8) (hu : u < 18446744073709551616) :
    Calls Tryz.prog 71 #[.slice (some ⟨g, off, none⟩) n c, .int .u64 (u : Int)] w fun e w' => e = .returned (.tuple #[]) ∧ Byt w' g (splice bs off (leN n u)) ∧ w.grownBy w' (some g) := by
  go_enter Tryz.func71, Tryz.ntmps71
  go_wp2
  go_loopg [1, 7] n (fun q x i wr => ∃ k : Nat, k + q = n ∧ i = .int .i64 (k : Nat) ∧ x = .int .u64 ((u / 256 ^ k : Nat) : Int) ∧ Byt wr g (splice bs off (leN k u)) ∧ w.grownBy wr (some g))
  case atStart => exact ⟨0, by omega, rfl, by simp, by rw [leN, splice_nil]; exact hB, World.grownBy.refl _ _⟩
  case round =>
    obtain ⟨k, hk, rfl, rfl, hW, hG⟩ := hrel
    by_cases hlt : k < n
    · have hl := splice_length (bs := bs) (off := off) (xs := leN k u) (by rw [leN_length]; omega)
      obtain ⟨v, hcell⟩ := hW.some_ (i := off + k) (by omega)
      have hfr := hW.frozen (off + k)
      have hlb : u / 256 ^ k < 18446744073709551616 := Nat.lt_of_le_of_lt (Nat.div_le_self _ _) hu
      obtain ⟨y, hy⟩ : ∃ y, u / 256 ^ k = y := ⟨_, rfl⟩
      have A : Aside (u / 256 ^ k = y ∧ Byt wr g (splice bs off (leN k u)) ∧ w.grownBy wr (some g)) := ⟨hy, hW, hG⟩
      rw [hy] at hlb ⊢
      clear hy hW hG hl
      go_wp2
      obtain ⟨hy, hW, hG⟩ := A.out
      go_roundg (n - 1 - k)
      case rel =>
        refine ⟨k + 1, by omega, by go_num, ?_, ?_, only_set hG (.inl rfl) _⟩
        · rw [← hy, Nat.pow_succ, ← Nat.div_div_eq_div_mul]; simp
        · have hl := leN_length k u
          have := hW.set (off + k) (UInt8.ofNat (u / 256 ^ k))
          rw [hy] at this
          rw [leN, ← splice_snoc _ (by omega), hl, hy, ofNat_val _ y (by omega)]
          exact this
      case measure => omega
    · obtain rfl : k = n := by omega
      go_wp2
      go_end0
      exact ⟨rfl, hW, hG⟩
end Go.Proofs.YthfidlhefkjpdaaGreatDoor

namespace Go.Proofs.YthfidlhefkjpdaaGreatDoor
open Go.RowKit

def opens (bs : List UInt8) : Bool := bs.take 4 == le4 (crcOf (bs.drop 4))

theorem cell_new1 (w : World) (x : Value) (t : TypeId) : (w.alloc (.cells #[x] t)).cell? ⟨w.heap.size, 0, none⟩ = some x := by
  unfold World.cell?
  rw [alloc_new]
  rfl

theorem arr4_at (b o n c : Nat) (hn : 4 ≤ n) (W : World) : (Instr.arrayAt 171 (.slice (some ⟨b, o, none⟩) n c)).run Tryz.prog W = .ok (.pointer (some ⟨b, o, none⟩)) W :=
  run_arrayAt (P := Tryz.prog) W 171 5 4 _ n c Tryz.underlying171 hn

theorem from4_at (b o n c : Nat) (hn : 4 < n) (hnc : n ≤ c) (_hc : c ≤ 9223372036854775807) (W : World) :
    (Instr.sliceAt 43 (.slice (some ⟨b, o, none⟩) n c) (some (.int .i64 4)) none none).run Tryz.prog W = .ok (.slice (some ⟨b, o + 4, none⟩) (n - 4) (c - 4)) W := by
  have hc4 : ¬ c = 4 := by omega
  simp [go_sem, sliced, hc4, Addr.add_lit]
  all_goals omega

theorem part5 (x0 x1 x2 x3 : Int) (W : World) : (part 5 #[.int .u8 x0, .int .u8 x1, .int .u8 x2, .int .u8 x3] 0).run Tryz.prog W = .ok (.int .u8 x0) W ∧
    (part 5 #[.int .u8 x0, .int .u8 x1, .int .u8 x2, .int .u8 x3] 1).run Tryz.prog W = .ok (.int .u8 x1) W ∧
    (part 5 #[.int .u8 x0, .int .u8 x1, .int .u8 x2, .int .u8 x3] 2).run Tryz.prog W = .ok (.int .u8 x2) W ∧
    (part 5 #[.int .u8 x0, .int .u8 x1, .int .u8 x2, .int .u8 x3] 3).run Tryz.prog W = .ok (.int .u8 x3) W :=
  ⟨by kernel_rfl, by kernel_rfl, by kernel_rfl, by kernel_rfl⟩

theorem eq4 (x0 x1 x2 x3 y0 y1 y2 y3 : Int) (W : World) : (Op.equalIn 10000 171 (.agg #[.int .u8 x0, .int .u8 x1, .int .u8 x2, .int .u8 x3]) (.agg #[.int .u8 y0, .int .u8 y1, .int .u8 y2, .int .u8 y3])).run Tryz.prog W =
    .ok (x0 == y0 && (x1 == y1 && (x2 == y2 && x3 == y3))) W := by
  obtain ⟨i0, hi0, hz0, hz1, hz2⟩ := info_parts info5
  have hc : Tryz.prog.cellsOf 5 = 1 := by kernel_rfl
  obtain ⟨p0, p1, p2, p3⟩ := part5 x0 x1 x2 x3 W
  obtain ⟨q0, q1, q2, q3⟩ := part5 y0 y1 y2 y3 W
  have e : ∀ a b : Int, (Op.equalIn 9999 5 (.int .u8 a) (.int .u8 b)).run Tryz.prog W = .ok (a == b) W := fun a b => run_equalIn_int W 9998 5 .u8 .u8 a b Tryz.underlying5
  rw [run_equalIn_array _ _ _ _ Tryz.underlying171 hi0, hc]
  rw [show List.range 4 = [0, 1, 2, 3] from rfl]
  simp only [Op.eqItems, Sem.run_bind, Nat.mul_one, p0, p1, p2, p3, q0, q1, q2, q3, e, Result.andThen_ok]
  cases h0 : (x0 == y0) <;> cases h1 : (x1 == y1) <;> cases h2 : (x2 == y2) <;> cases h3 : (x3 == y3) <;> simp [Op.eqItems, Sem.run_bind, p0, p1, p2, p3, q0, q1, q2, q3, e, Result.andThen, -beq_iff_eq, -beq_eq_false_iff_ne, h0, h1, h2, h3]

theorem opens_seal (bs : List UInt8) : opens (sealB bs) = true := by
  simp [opens, sealB, le4]

theorem drop_seal (bs : List UInt8) : (sealB bs).drop 4 = bs := by simp [sealB, le4]

theorem opens_eq (bs : List UInt8) (h4 : 4 < bs.length) {x0 x1 x2 x3 : Int} (e0 : (bs[0].toNat : Int) = x0) (e1 : (bs[1].toNat : Int) = x1) (e2 : (bs[2].toNat : Int) = x2) (e3 : (bs[3].toNat : Int) = x3) :
    (x0 == (crcOf (bs.drop 4) : Int) % 256 && (x1 == (crcOf (bs.drop 4) : Int) / 256 % 256 && (x2 == (crcOf (bs.drop 4) : Int) / 65536 % 256 && x3 == (crcOf (bs.drop 4) : Int) / 16777216))) = opens bs := by
  have hlt := crcOf_lt (bs.drop 4)
  have et : bs.take 4 = [bs[0], bs[1], bs[2], bs[3]] := by
    match bs, h4 with
    | a :: b :: c :: d :: r, _ => rfl
  unfold opens
  rw [et, Bool.eq_iff_iff]
  generalize crcOf (bs.drop 4) = s at hlt ⊢
  simp only [le4, Bool.and_eq_true, beq_iff_eq, List.cons.injEq, and_true, ← UInt8.toNat_inj, UInt8.toNat_ofNat', Nat.reducePow]
  rw [← e0, ← e1, ← e2, ← e3]
  constructor <;> rintro ⟨h0, h1, h2, h3⟩ <;> refine ⟨?_, ?_, ?_, ?_⟩ <;> omega

set_option maxRecDepth 100000 in
set_option maxHeartbeats 400000 in
theorem clone_any (A : Option Addr) (n c : Nat) (bs : List UInt8) (w : World) (hR : RdB w A n bs) (hn : n ≤ 140737488350000) :
    Calls Tryz.prog 47 #[.slice A n c] w fun e w' => ∃ v, e = .returned v ∧ w'.ownsRow w.heap.size 5 1 v n (bs.map u8) ∧ Below w.heap.size w w' := by
  have q22 : ∀ (w : World) (a : Option Addr) (n c n' c' : Nat), (binOp .eql 43 (.slice a n c) (.slice none n' c')).run Tryz.prog w = .ok (.bool a.isNone) w := fun w a n c n' c' => Lib.run_eql_slice_nil w _ _ a n c n' c' Tryz.underlying43
  obtain ⟨i0, hi0, hz0, hz1, hz2⟩ := info_parts info5
  have hl := hR.1
  cases A with
  | none =>
    have hn0 : n = 0 := by
      rcases Nat.eq_zero_or_pos n with h | h
      · exact h
      · obtain ⟨b, o, e, _⟩ := hR.2 h
        cases e
    subst hn0
    obtain rfl := List.eq_nil_of_length_eq_zero hl
    have hi : (none : Option Addr).isNone = true := rfl
    go_enter Tryz.func47, Tryz.ntmps47
    go_wp2
    go_ret
    exact ⟨_, rfl, World.ownsRow_nil _ _ _ _, Below.refl _ _⟩
  | some ad =>
    have hi : (some ad : Option Addr).isNone = false := rfl
    have hcells : ∀ w', Below w.heap.size w w' → ∀ (j : Nat) (u : Value), (bs.map u8)[j]? = some u → w'.cell? (ad.add j) = some u := by
      rcases Nat.eq_zero_or_pos n with h | h
      · subst h
        obtain rfl := List.eq_nil_of_length_eq_zero hl
        intro w' _ j u hu
        simp at hu
      · obtain ⟨ad', e, h1⟩ := hR.news h
        injection e with e
        subst e
        exact h1
    have hl := hid hl
    go_enter Tryz.func47, Tryz.ntmps47
    go_wp2_with (at_builtin
                 refine wpList_append_own _ rfl _ _ 43 rfl w.heap.size 5 i0 _ 1 1 Tryz.underlying43 hi0 hz0 hz1 hz2 rfl (by decide) (.slice (some ⟨w.heap.size, 0, none⟩) 0 0) 0 [] rfl (own_blk (cs := #[]) (alloc_new _ _) (Nat.le_refl _) rfl rfl rfl (Nat.zero_le _)) ad n c (bs.map u8) rfl ?c0 ?c1 ?c2 ?c3 ?c4 ?c5 ?_
                 (case c0 => rw [List.length_map, hl.out, Nat.mul_one])
                 (case c1 => exact hcells _ ((Below.refl _ _).alloc (Nat.le_refl _) _))
                 (case c2 => exact u8_one bs)
                 (case c3 => unfold maxLen; omega)
                 (case c4 => omega)
                 (case c5 => simp)
                 intro v' w1 hown' hgrow _
                 have HB : Aside (Below w.heap.size w w1) := ⟨((Below.refl _ w).alloc (Nat.le_refl _) _).grown hgrow (by simp) (by rintro k e; cases e; simp)⟩
                 rw [Nat.zero_add, List.nil_append] at hown')
    go_ret
    exact ⟨v', rfl, hown', HB.out⟩

set_option maxRecDepth 100000 in
set_option maxHeartbeats 400000 in
theorem open_bad (A : Option Addr) (n c : Nat) (bs : List UInt8) (w : World) (hR : RdB w A n bs) (hn : 4 < n) (hnn : n ≤ 140737488350000) (hnc : n ≤ c) (hc : c ≤ 9223372036854775807) (ho : opens bs = false) :
    Calls Tryz.prog 75 #[.slice A n c] w fun e w' => e = .returned (.tuple #[.slice none 0 0, .bool false]) ∧ Below w.heap.size w w' := by
  obtain ⟨b, o, rfl, hb, hcell⟩ := hR.2 (by omega)
  have hl := hR.1
  have h0 := hcell 0 (by omega)
  have h1 := hcell 1 (by omega)
  have h2 := hcell 2 (by omega)
  have h3 := hcell 3 (by omega)
  rw [Nat.add_zero] at h0
  obtain ⟨x0, e0⟩ : ∃ x : Int, (bs[0].toNat : Int) = x := ⟨_, rfl⟩
  obtain ⟨x1, e1⟩ : ∃ x : Int, (bs[1].toNat : Int) = x := ⟨_, rfl⟩
  obtain ⟨x2, e2⟩ : ∃ x : Int, (bs[2].toNat : Int) = x := ⟨_, rfl⟩
  obtain ⟨x3, e3⟩ : ∃ x : Int, (bs[3].toNat : Int) = x := ⟨_, rfl⟩
  rw [e0] at h0; rw [e1] at h1; rw [e2] at h2; rw [e3] at h3
  have HR4 : RdB w (some ⟨b, o + 4, none⟩) (n - 4) (bs.drop 4) := by
    have := hR.cut (k := 4) (by omega)
    simpa [Addr.add_lit] using this
  have hd : decide ((n : Int) < 4) = false := by simp; omega
  have hc4 : ¬ c = 4 := by omega
  have hcmp := opens_eq bs (by omega) e0 e1 e2 e3
  rw [ho] at hcmp
  have B : Aside ((bs[0].toNat : Int) = x0 ∧ (bs[1].toNat : Int) = x1 ∧ (bs[2].toNat : Int) = x2 ∧ (bs[3].toNat : Int) = x3) := ⟨e0, e1, e2, e3⟩
  clear e0 e1 e2 e3 hR hcell
  have hl := hid hl
  have HS : Aside (∀ W, Below w.heap.size w W → (W.cell? ⟨b, o, none⟩ = some (.int .u8 x0) ∧ W.cell? ⟨b, o + 1, none⟩ = some (.int .u8 x1) ∧ W.cell? ⟨b, o + 2, none⟩ = some (.int .u8 x2) ∧ W.cell? ⟨b, o + 3, none⟩ = some (.int .u8 x3))) :=
    ⟨fun W hB => ⟨((bcell hB).1 b _ hb).trans h0, ((bcell hB).1 b _ hb).trans h1, ((bcell hB).1 b _ hb).trans h2, ((bcell hB).1 b _ hb).trans h3⟩⟩
  have fe := eq4
  have fa := arr4_at b o n c (by omega)
  have fs := from4_at b o n c hn hnc (by omega)
  go_enter Tryz.func75, Tryz.ntmps75
  go_wp2_with fail
  go_region_held3 (fun w' => w'.cell? ⟨b, o, none⟩ = some (.int .u8 x0) ∧ w'.cell? ⟨b, o + 1, none⟩ = some (.int .u8 x1) ∧ w'.cell? ⟨b, o + 2, none⟩ = some (.int .u8 x2) ∧ w'.cell? ⟨b, o + 3, none⟩ = some (.int .u8 x3))
    (first | exact HS.out _ (by repeat (first | exact HB1.out | exact Below.refl _ _ | refine bl_drew ?_ | refine bl_alloc ?_ _)))
    (first
    | (go_at_call 110
       (with_reducible refine Calls.mono (sum_any w.heap.size (some ⟨b, o + 4, none⟩) (n - 4) (c - 4) (bs.drop 4) _ ?sa ?sb ?sc) ?_)
       (case sa => exact cell_new1 w _ _)
       (case sb => exact HR4.below (bl_drew (bl_alloc (Below.refl _ _) _)))
       (case sc => omega)
       rintro e w' ⟨rfl, rfl⟩)
    | (go_at_call 109
       (with_reducible refine Calls.mono (head_any _ _ (crcOf_lt _)) ?_)
       rintro e w1 ⟨rfl, hb1⟩
       have HB1 : Aside (Below w.heap.size w w1) := ⟨(bl_drew (bl_alloc (Below.refl _ _) _)).trans (hb1.mono (by simp))⟩
       clear hb1))
  all_goals go_wp2
  all_goals go_ret2
  all_goals exact ⟨rfl, HB1.out⟩

set_option maxRecDepth 100000 in
set_option maxHeartbeats 400000 in
theorem open_ok (A : Option Addr) (n c : Nat) (bs : List UInt8) (w : World) (hR : RdB w A n bs) (hn : 4 < n) (hnn : n ≤ 140737488350000) (hnc : n ≤ c) (hc : c ≤ 9223372036854775807) (ho : opens bs = true) :
    Calls Tryz.prog 75 #[.slice A n c] w fun e w' => ∃ v, e = .returned (.tuple #[v, .bool true]) ∧ w'.ownsRow w.heap.size 5 1 v (n - 4) ((bs.drop 4).map u8) ∧ Below w.heap.size w w' := by
  obtain ⟨b, o, rfl, hb, hcell⟩ := hR.2 (by omega)
  have hl := hR.1
  have h0 := hcell 0 (by omega)
  have h1 := hcell 1 (by omega)
  have h2 := hcell 2 (by omega)
  have h3 := hcell 3 (by omega)
  rw [Nat.add_zero] at h0
  obtain ⟨x0, e0⟩ : ∃ x : Int, (bs[0].toNat : Int) = x := ⟨_, rfl⟩
  obtain ⟨x1, e1⟩ : ∃ x : Int, (bs[1].toNat : Int) = x := ⟨_, rfl⟩
  obtain ⟨x2, e2⟩ : ∃ x : Int, (bs[2].toNat : Int) = x := ⟨_, rfl⟩
  obtain ⟨x3, e3⟩ : ∃ x : Int, (bs[3].toNat : Int) = x := ⟨_, rfl⟩
  rw [e0] at h0; rw [e1] at h1; rw [e2] at h2; rw [e3] at h3
  have HR4 : RdB w (some ⟨b, o + 4, none⟩) (n - 4) (bs.drop 4) := by
    have := hR.cut (k := 4) (by omega)
    simpa [Addr.add_lit] using this
  have hd : decide ((n : Int) < 4) = false := by simp; omega
  have hc4 : ¬ c = 4 := by omega
  have hcmp := opens_eq bs (by omega) e0 e1 e2 e3
  rw [ho] at hcmp
  have B : Aside ((bs[0].toNat : Int) = x0 ∧ (bs[1].toNat : Int) = x1 ∧ (bs[2].toNat : Int) = x2 ∧ (bs[3].toNat : Int) = x3) := ⟨e0, e1, e2, e3⟩
  clear e0 e1 e2 e3 hR hcell
  have hl := hid hl
  have HS : Aside (∀ W, Below w.heap.size w W → (W.cell? ⟨b, o, none⟩ = some (.int .u8 x0) ∧ W.cell? ⟨b, o + 1, none⟩ = some (.int .u8 x1) ∧ W.cell? ⟨b, o + 2, none⟩ = some (.int .u8 x2) ∧ W.cell? ⟨b, o + 3, none⟩ = some (.int .u8 x3))) :=
    ⟨fun W hB => ⟨((bcell hB).1 b _ hb).trans h0, ((bcell hB).1 b _ hb).trans h1, ((bcell hB).1 b _ hb).trans h2, ((bcell hB).1 b _ hb).trans h3⟩⟩
  have fe := eq4
  have fa := arr4_at b o n c (by omega)
  have fs := from4_at b o n c hn hnc (by omega)
  go_enter Tryz.func75, Tryz.ntmps75
  go_wp2_with fail
  go_region_held3 (fun w' => w'.cell? ⟨b, o, none⟩ = some (.int .u8 x0) ∧ w'.cell? ⟨b, o + 1, none⟩ = some (.int .u8 x1) ∧ w'.cell? ⟨b, o + 2, none⟩ = some (.int .u8 x2) ∧ w'.cell? ⟨b, o + 3, none⟩ = some (.int .u8 x3))
    (first | exact HS.out _ (by repeat (first | exact HB1.out | exact Below.refl _ _ | refine bl_drew ?_ | refine bl_alloc ?_ _)))
    (first
    | (go_at_call 110
       (with_reducible refine Calls.mono (sum_any w.heap.size (some ⟨b, o + 4, none⟩) (n - 4) (c - 4) (bs.drop 4) _ ?sa ?sb ?sc) ?_)
       (case sa => exact cell_new1 w _ _)
       (case sb => exact HR4.below (bl_drew (bl_alloc (Below.refl _ _) _)))
       (case sc => omega)
       rintro e w' ⟨rfl, rfl⟩)
    | (go_at_call 109
       (with_reducible refine Calls.mono (head_any _ _ (crcOf_lt _)) ?_)
       rintro e w1 ⟨rfl, hb1⟩
       have HB1 : Aside (Below w.heap.size w w1) := ⟨(bl_drew (bl_alloc (Below.refl _ _) _)).trans (hb1.mono (by simp))⟩
       clear hb1))
  all_goals
    go_wp2_with fail
    refine (clone_any (some ⟨b, o + 4, none⟩) (n - 4) (c - 4) (bs.drop 4) _ (HR4.below ?_) (by omega)).mono ?_
    · exact HB1.out
    rintro e w2 ⟨v, rfl, hown, hb2⟩
    go_wp2
    go_ret2
    exact ⟨v, rfl, own_mono hown HB1.out.size, HB1.out.trans (hb2.mono HB1.out.size)⟩
end Go.Proofs.YthfidlhefkjpdaaGreatDoor

namespace Go.Proofs.YthfidlhefkjpdaaGreatDoor
open Go.RowKit

theorem pageNew_any (kind extra : Nat) (w : World) (hk : kind < 256) (he : extra < 4294967296) :
    Calls Tryz.prog 50 #[.int .i64 (kind : Int), .int .u32 (extra : Int)] w fun e w' => e = .returned (.pointer (some ⟨w.heap.size, 0, none⟩)) ∧ PageAt w' w.heap.size w.heap.size ⟨0, UInt8.ofNat kind, extra, []⟩ ∧ Below w.heap.size w w' := by
  go_enter Tryz.func50, Tryz.ntmps50
  go_wp2
  go_ret
  refine ⟨rfl, ⟨Nat.le_refl _, .slice none 0 0, [], ?_, World.ownsRow_nil _ _ _ _, Rows.nil _ _⟩, (Below.refl _ _).alloc (Nat.le_refl _) _⟩
  have e : ((UInt8.ofNat kind).toNat : Int) = (kind : Int) := by simp; omega
  rw [e]
  exact alloc_new w _

theorem pageAt_lsn {w : World} {base g : Nat} {p : Pg} (hP : PageAt w base g p) (y : Int) :
    PageAt (w.setCell ⟨g, 0, none⟩ (.int .i64 y)) base g { p with lsn := y } ∧ w.grownBy (w.setCell ⟨g, 0, none⟩ (.int .i64 y)) (some g) := by
  obtain ⟨hb, v, vs, hB, hO, hR⟩ := hP
  have hF : w.grownBy (w.setCell ⟨g, 0, none⟩ (.int .i64 y)) (some g) := only_set (World.grownBy.refl _ _) (.inl rfl) _
  exact ⟨⟨hb, v, vs, hB.set_ 0 _, own_fr hO (Fr.of_only hF) (fun b hb' e => (own_ty hO hb').ne (e ▸ hB.ty) (by decide)), hR.fr (Fr.of_only hF) (fun b _ hb' e => hb'.ne (e ▸ hB.ty) (by decide))⟩, hF⟩

theorem setLSN_any (base g : Nat) (p : Pg) (x : Int) (w : World) (hP : PageAt w base g p) (hx : -9223372036854775808 ≤ x ∧ x ≤ 9223372036854775807) :
    Calls Tryz.prog 28 #[.pointer (some ⟨g, 0, none⟩), .int .i64 x] w fun e w' => e = .returned (.tuple #[]) ∧ PageAt w' base g { p with lsn := max x 0 } ∧ w.grownBy w' (some g) := by
  have hP' := hP
  obtain ⟨hb, v, vs, hB, hO, hR⟩ := hP
  have c0 := hB.cell 0
  have f0 := hB.frozen 0
  simp at c0
  have A : Aside (PageAt w base g p) := ⟨hP'⟩
  clear hP'
  clear hb hB hO hR
  go_enter Tryz.func28, Tryz.ntmps28
  go_wp2
  all_goals
    go_end0
    obtain ⟨h1, h2⟩ := pageAt_lsn A.out (max x 0)
    first
      | (have e : max x 0 = x := by omega
         rw [e] at h1 h2 ⊢
         exact ⟨rfl, h1, h2⟩)
      | (have e : max x 0 = 0 := by omega
         rw [e] at h1 h2 ⊢
         exact ⟨rfl, h1, h2⟩)

theorem lsn_any (base g : Nat) (p : Pg) (w : World) (hP : PageAt w base g p) :
    Calls Tryz.prog 37 #[.pointer (some ⟨g, 0, none⟩)] w fun e w' => e = .returned (.int .i64 p.lsn) ∧ w = w' := by
  obtain ⟨_, v, vs, hB, _, _⟩ := hP
  have c0 := hB.cell 0
  simp at c0
  clear hB
  go_enter Tryz.func37, Tryz.ntmps37
  go_wp2
  go_ret
  exact ⟨rfl, rfl⟩

theorem len_any (base g : Nat) (p : Pg) (w : World) (hP : PageAt w base g p) :
    Calls Tryz.prog 36 #[.pointer (some ⟨g, 0, none⟩)] w fun e w' => e = .returned (.int .i64 (p.items.length : Int)) ∧ w = w' := by
  obtain ⟨_, v, vs, hB, hO, _⟩ := hP
  obtain ⟨A, cap, rfl, _⟩ := own_form hO
  have c0 := hB.cell 3
  simp at c0
  clear hB hO
  go_enter Tryz.func36, Tryz.ntmps36
  go_wp2
  go_ret
  exact ⟨rfl, rfl⟩

end Go.Proofs.YthfidlhefkjpdaaGreatDoor

namespace Go.Proofs.YthfidlhefkjpdaaGreatDoor
open Go.RowKit

/-- the page's items as the walk reads them -/
theorem page_items {w : World} {base g : Nat} {p : Pg} (hP : PageAt w base g p) : ∃ A cap, w.cell? ⟨g, 3, none⟩ = some (.slice A p.items.length cap) ∧ p.items.length ≤ cap ∧
    (0 < p.items.length → ∃ gr, A = some ⟨gr, 0, none⟩ ∧ gr < w.heap.size ∧ ∀ i (h : i < p.items.length), ∃ B c, w.cell? ⟨gr, i, none⟩ = some (.slice B p.items[i].length c) ∧ p.items[i].length ≤ c ∧ RdB w B p.items[i].length p.items[i]) := by
  obtain ⟨_, v, vs, hB, hO, hR⟩ := hP
  obtain ⟨A, cap, rfl, hcap, _, hc⟩ := own_form hO
  refine ⟨A, cap, ?_, hcap, fun h0 => ?_⟩
  · have := hB.cell 3; simpa using this
  · obtain ⟨gr, e, _, hlt, hcc⟩ := hc h0
    refine ⟨gr, e, hlt, fun i hi => ?_⟩
    obtain ⟨v, h1, h2⟩ := hR.2 i hi
    obtain ⟨B, c, rfl, hle, _⟩ := own_form h2
    exact ⟨B, c, (hcc i hi).trans h1, hle, RdB.of_own h2⟩

theorem bad_any (base g : Nat) (p : Pg) (i : Nat) (w : World) (hP : PageAt w base g p) :
    Calls Tryz.prog 92 #[.pointer (some ⟨g, 0, none⟩), .int .i64 (i : Int)] w fun e w' => e = .returned (.bool (decide (p.items.length ≤ i))) ∧ w = w' := by
  obtain ⟨A, cap, c3, _, _⟩ := page_items hP
  have h0 : decide ((i : Int) < 0) = false := by simp
  clear hP
  go_enter Tryz.func92, Tryz.ntmps92
  go_wp2
  go_ret
  exact ⟨rfl, rfl⟩

set_option maxRecDepth 100000 in
set_option maxHeartbeats 400000 in
theorem free_any (base g : Nat) (p : Pg) (w : World) (hP : PageAt w base g p) (hw : p.wf) :
    Calls Tryz.prog 128 #[.pointer (some ⟨g, 0, none⟩)] w fun e w' => e = .returned (.int .i64 (494 - 2 * (p.items.length : Int) - tot p.items)) ∧ w = w' := by
  obtain ⟨A, cap, c3, _, hI⟩ := page_items hP
  have hI := hid hI
  have hk := hw.slots
  have hu := hw.used
  clear hP hw
  obtain ⟨xs, hxs⟩ : ∃ xs, p.items = xs := ⟨_, rfl⟩
  rw [hxs] at c3 hI hk hu ⊢
  clear hxs
  obtain ⟨n, hn⟩ : ∃ n, xs.length = n := ⟨_, rfl⟩
  rw [hn] at c3 hk hu ⊢
  have hn := hid hn
  go_enter Tryz.func128, Tryz.ntmps128
  go_wp2
  go_loopg [3, 18] n (fun q s i wr => wr = w ∧ ∃ k : Nat, k + q = n ∧ i = .int .i64 (k : Nat) ∧ s = .int .i64 (494 - 2 * (n : Int) - tot (xs.take k)))
  case atStart => exact ⟨rfl, 0, by omega, rfl, by simp [tot]⟩
  case round =>
    obtain ⟨rfl, k, hk', rfl, rfl⟩ := hrel
    have ht := tot_take_le xs k
    by_cases hlt : k < n
    · obtain ⟨gr, rfl, _, hc⟩ := hI.out (by have := hn.out; omega)
      obtain ⟨B, c, hcell, _, _⟩ := hc k (by have := hn.out; omega)
      have hs := tot_take_succ (xs := xs) (k := k) (by rw [hn.out]; exact hlt)
      have ht2 := tot_take_le xs (k + 1)
      obtain ⟨m, hm⟩ : ∃ m, (xs[k]'(by rw [hn.out]; exact hlt)).length = m := ⟨_, rfl⟩
      rw [hm] at hcell hs
      have hs := hid hs
      obtain ⟨t0, ht0⟩ : ∃ t0, tot (xs.take k) = t0 := ⟨_, rfl⟩
      have hm2 : t0 + m ≤ tot xs := by have := hs.out; omega
      rw [ht0] at ht hs ⊢
      clear hc hm ht2 ht0
      go_wp2
      go_roundg (n - 1 - k)
      case rel => exact ⟨rfl, k + 1, by omega, by go_num, by rw [hs.out]; go_num⟩
      case measure => omega
    · obtain rfl : k = n := by omega
      go_wp2
      go_ret
      exact ⟨by rw [List.take_of_length_le (by rw [hn.out]; exact Nat.le_refl _)]; rfl, rfl⟩

def roomOf (p : Pg) : Int := if 100 ≤ p.items.length then -1 else min (max (494 - 2 * (p.items.length : Int) - tot p.items - 2) (-1)) 200

set_option maxHeartbeats 400000 in
theorem room_any (base g : Nat) (p : Pg) (w : World) (hP : PageAt w base g p) (hw : p.wf) :
    Calls Tryz.prog 93 #[.pointer (some ⟨g, 0, none⟩)] w fun e w' => e = .returned (.int .i64 (roomOf p)) ∧ w = w' := by
  obtain ⟨A, cap, c3, _, _⟩ := page_items hP
  have hk := hw.slots
  have hu := hw.used
  have hF := free_any base g p w hP hw
  clear hP hw
  obtain ⟨n, hn⟩ : ∃ n, p.items.length = n := ⟨_, rfl⟩
  obtain ⟨t, ht⟩ : ∃ t, tot p.items = t := ⟨_, rfl⟩
  unfold roomOf
  rw [hn] at c3 hk hu hF ⊢
  rw [ht] at hu hF ⊢
  clear hn ht
  by_cases h1 : 100 ≤ n
  · have hd : decide ((100 : Int) ≤ n) = true := by simp; omega
    go_enter Tryz.func93, Tryz.ntmps93
    go_wp2
    go_ret
    exact ⟨rfl, rfl⟩
  · have hd : decide ((100 : Int) ≤ n) = false := by simp; omega
    go_enter Tryz.func93, Tryz.ntmps93
    go_wp2_with fail
    refine hF.mono ?_
    rintro e w' ⟨rfl, rfl⟩
    go_wp2
    all_goals go_ret
    all_goals refine ⟨?_, rfl⟩
    all_goals refine congrArg (fun x => Ending.returned (.int .i64 x)) ?_
    all_goals omega

end Go.Proofs.YthfidlhefkjpdaaGreatDoor
