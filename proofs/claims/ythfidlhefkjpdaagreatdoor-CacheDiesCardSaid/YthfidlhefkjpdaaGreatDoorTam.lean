/- page.Parse of bytes that are a page. -/
import Derived.Test.YthfidlhefkjpdaaGreatDoorTak
import Derived.Test.YthfidlhefkjpdaaGreatDoorTai
import Derived.Test.YthfidlhefkjpdaaGreatDoorTad
import Derived.Test.YthfidlhefkjpdaaGreatDoorTal
namespace Go.Proofs.YthfidlhefkjpdaaGreatDoor
open Go.RowKit

theorem piece_le (bs : List UInt8) (a b : Nat) : (piece bs a b).length ≤ b - a := by
  simp [piece]; omega

theorem own_drewN0 {w : World} {base : Nat} {e : TypeId} {size n : Nat} {v : Value} {xs : List Value} (h : w.ownsRow base e size v n xs) : w.drew.ownsRow base e size v n xs := h

theorem from_to (b o f e c : Nat) (hf : f ≤ e) (he : e ≤ c) (_hc : 512 ≤ c) (W : World) :
    (Instr.sliceAt 43 (.slice (some ⟨b, o, none⟩) 512 c) (some (.int .i64 (f : Int))) (some (.int .i64 (e : Int))) none).run Tryz.prog W = .ok (.slice (if c = f then some ⟨b, o, none⟩ else some ⟨b, o + f, none⟩) (e - f) (c - f)) W := by
  have h1 : (0 : Int) ≤ (f : Int) := by omega
  have h2 : (f : Int) ≤ (e : Int) := by omega
  have h3 : (e : Int) ≤ (c : Int) := by omega
  by_cases h : c = f
  · subst h
    simp [go_sem, sliced, h2, h3]
  · simp [go_sem, sliced, h, h2, h3, Addr.add_lit]

theorem rd_piece {W : World} {b o f e c : Nat} {bs : List UInt8} (h : RdB W (some ⟨b, o, none⟩) 512 bs) (hf : f ≤ e) (he : e ≤ 512) (hc5 : 512 ≤ c) :
    RdB W (if c = f then some (⟨b, o, none⟩ : Addr) else some ⟨b, o + f, none⟩) (e - f) (piece bs f e) := by
  have hl := h.1
  have h1 := ((h.cut (k := f) (by omega)).take (k := e - f) (by omega)).at4
  by_cases hc : c = f
  · rw [if_pos hc]
    refine ⟨by rw [piece_length (by omega)], fun h0 => ?_⟩
    omega
  · rw [if_neg hc]
    exact h1

set_option maxRecDepth 100000 in
set_option maxHeartbeats 1000000 in
theorem parse_ok (A : Option Addr) (c : Nat) (bs : List UInt8) (p : Pg) (w : World) (hR : RdB w A 512 bs) (hc : 512 ≤ c) (hc2 : c ≤ 9223372036854775807) (hp : parseP bs = some p) :
    Calls Tryz.prog 34 #[.slice A 512 c] w fun e w' => ∃ g, e = .returned (.tuple #[.pointer (some ⟨g, 0, none⟩), .int .i64 0]) ∧ PageAt w' w.heap.size g p ∧ Below w.heap.size w w' := by
  have hcon : bs.length = 512 ∧ opens bs = true ∧ lowN (piece bs 4 12) ≤ 9223372036854775807 ∧ slotN bs ≤ 100 := by
    unfold parseP at hp
    split at hp
    · assumption
    · cases hp
  obtain ⟨hl, hop, hlow, hsl⟩ := hcon
  unfold parseP at hp
  rw [if_pos ⟨hl, hop, hlow, hsl⟩] at hp
  obtain ⟨r, hit, hp⟩ : ∃ r, itemsP bs (18 + 2 * slotN bs) (slotN bs) 18 512 = some r ∧ (if allZ (piece bs (18 + 2 * slotN bs) r.2) then some ⟨(lowN (piece bs 4 12) : Int), bs.getD 12 0, lowN (piece bs 13 17), r.1⟩ else none) = some p := by
    cases h : itemsP bs (18 + 2 * slotN bs) (slotN bs) 18 512 with
    | none => rw [h] at hp; cases hp
    | some r => rw [h] at hp; exact ⟨r, rfl, hp⟩
  have hz : allZ (piece bs (18 + 2 * slotN bs) r.2) = true := by
    cases h : allZ (piece bs (18 + 2 * slotN bs) r.2) with
    | true => rfl
    | false => rw [h] at hp; cases hp
  rw [hz] at hp
  simp only [if_true, Option.some.injEq] at hp
  obtain ⟨b, o, rfl, hb, hcell⟩ := hR.2 (by omega)
  have HRd : Aside (∀ W, Below w.heap.size w W → RdB W (some ⟨b, o, none⟩) 512 bs) := ⟨fun W hB => hR.below hB⟩
  have HC : Aside (∀ W, Below w.heap.size w W → ∀ i, i < 512 → W.cell? ⟨b, o + i, none⟩ = some (.int .u8 ((bs.getD i 0).toNat : Int))) := ⟨fun W hB i h => by
    have hi : i < bs.length := by omega
    rw [List.getD_eq_getElem?_getD, List.getElem?_eq_getElem hi]
    exact ((bcell hB).1 b _ hb).trans (hcell i hi)⟩
  have hop' := open_ok (some ⟨b, o, none⟩) 512 c bs w hR (by omega) (by omega) hc hc2 hop
  obtain ⟨n, hn⟩ : ∃ n, slotN bs = n := ⟨_, rfl⟩
  rw [hn] at hsl hit hz
  have S : Aside (bs.length = 512 ∧ slotN bs = n ∧ itemsP bs (18 + 2 * n) n 18 512 = some r ∧ allZ (piece bs (18 + 2 * n) r.2) = true ∧ (⟨(lowN (piece bs 4 12) : Int), bs.getD 12 0, lowN (piece bs 13 17), r.1⟩ : Pg) = p) := ⟨hl, hn, hit, hz, hp⟩
  clear hl hn hit hz hp hR hcell hop
  have hd1 : ¬ c = 4 := by omega
  go_enter Tryz.func34, Tryz.ntmps34
  go_wp2_with fail
  go_step3
  go_wp2_with fail
  refine hop'.mono ?_
  rintro e w1 ⟨v, rfl, hown, hb1⟩
  have B1 : Aside (Below w.heap.size w w1) := ⟨hb1⟩
  clear hown hb1 hop'
  have p4 : RdB w1 (some ⟨b, o + 4, none⟩) 8 (piece bs 4 12) := (((HRd.out _ B1.out).cut (k := 4) (by omega)).take (k := 8) (by omega)).at4
  have P4 := hid p4
  clear p4
  go_wp2_with fail
  refine (low_any _ 8 (c - 4) _ _ P4.out (Nat.le_trans (piece_le _ _ _) (by omega))).mono ?_
  rintro e w2 ⟨rfl, hb2⟩
  have B2 : Aside (Below w.heap.size w w2) := ⟨B1.out.trans (hb2.mono B1.out.size)⟩
  clear hb2
  obtain ⟨L, hL⟩ : ∃ L, lowN (piece bs 4 12) = L := ⟨_, rfl⟩
  rw [hL] at hlow ⊢
  have hL := hid hL
  have hc17 := HC.out _ B2.out 17 (by omega)
  have hc12 := HC.out _ B2.out 12 (by omega)
  have h17 : (bs.getD 17 0).toNat = n := S.out.2.1
  rw [h17] at hc17
  have hd3 : decide ((9223372036854775807 : Int) < (L : Int)) = false := by simp; omega
  have hd4 : decide ((100 : Int) < (n : Int)) = false := by simp; omega
  clear h17
  go_wp2_with fail
  have p13 : RdB w2 (some ⟨b, o + 13, none⟩) 4 (piece bs 13 17) := (((HRd.out _ B2.out).cut (k := 13) (by omega)).take (k := 4) (by omega)).at4
  have hX1 : lowN (piece bs 13 17) < 4294967296 := by
    have h1 := lowN_lt (piece bs 13 17)
    have h2 : 256 ^ (piece bs 13 17).length ≤ 256 ^ 4 := Nat.pow_le_pow_right (by omega) (piece_le _ _ _)
    omega
  have P13 := hid p13
  clear p13
  have hc17c : (17 : Int) ≤ (c : Int) := by omega
  have hd13 : ¬ c = 13 := by omega
  have wL : IntKind.i64.wrap (L : Int) = (L : Int) := wrap_nat (by omega) (by omega)
  obtain ⟨X, hX⟩ : ∃ X, lowN (piece bs 13 17) = X := ⟨_, rfl⟩
  rw [hX] at hX1
  have hX := hid hX
  have wX : IntKind.u32.wrap (X : Int) = (X : Int) := by rw [IntKind.wrap_u32']; omega
  obtain ⟨kd, hkd⟩ : ∃ kd, bs.getD 12 0 = kd := ⟨_, rfl⟩
  rw [hkd] at hc12
  have hkd := hid hkd
  have HK : Aside (∀ W, Below w.heap.size w W → W.cell? ⟨b, o + 12, none⟩ = some (.int .u8 (kd.toNat : Int))) := ⟨fun W hB => by have := HC.out W hB 12 (by omega); rw [hkd.out] at this; exact this⟩
  go_region_held3 (fun w' => w'.cell? ⟨b, o + 12, none⟩ = some (.int .u8 (kd.toNat : Int)))
    (first | exact HK.out _ (by repeat (first | exact B3.out | exact B2.out | refine bl_drew ?_ | refine bl_alloc ?_ _)))
    ((go_at_call 76
      (with_reducible refine Calls.mono (low_any (some ⟨b, o + 13, none⟩) 4 (c - 13) (piece bs 13 17) _ ?_ ?_) ?_)
      · exact P13.out.below (by repeat (first | exact Below.refl _ _ | refine bl_drew ?_))
      · exact Nat.le_trans (piece_le _ _ _) (by omega)
      rintro e w3 ⟨rfl, hb3⟩
      rw [hX.out]
      have B3 : Aside (Below w.heap.size w w3) := ⟨B2.out.trans ((bl_undrew hb3).mono B2.out.size)⟩
      clear hb3))
  go_wp2_with fail
  obtain ⟨W4, hW4⟩ : ∃ W4, (w3.alloc (.cells #[.int .i64 (L : Int), .int .u8 (kd.toNat : Int), .int .u32 (X : Int), .slice none 0 0] 138)) = W4 := ⟨_, rfl⟩
  have hb4 : Below w.heap.size w W4 := by rw [← hW4]; exact bl_alloc B3.out _
  have hP4 : PageAt W4 w.heap.size w3.heap.size ⟨(L : Int), kd, X, []⟩ := by
    rw [← hW4]
    exact ⟨B3.out.size, .slice none 0 0, [], alloc_new w3 _, World.ownsRow_nil _ _ _ _, Rows.nil _ _⟩
  obtain ⟨G, hG⟩ : ∃ G, w3.heap.size = G := ⟨_, rfl⟩
  rw [hW4, hG]
  rw [hG] at hP4
  clear hW4 hG hc12 hc17 wL wX P4 P13 HK
  have hc17 := HC.out _ hb4 17 (by omega)
  rw [show (bs.getD 17 0).toNat = n from S.out.2.1] at hc17
  have B4 : Aside (Below w.heap.size w W4 ∧ PageAt W4 w.heap.size G ⟨(L : Int), kd, X, []⟩) := ⟨hb4, hP4⟩
  clear hb4 hP4
  go_region_held3 (fun w' => w'.cell? ⟨b, o + 17, none⟩ = some (.int .u8 (n : Int))) (exact hc17) (fail)
  obtain ⟨T, hT⟩ : ∃ T : Nat, 18 + 2 * n = T := ⟨_, rfl⟩
  have hT' : IntKind.i64.wrap (18 + IntKind.i64.wrap (2 * IntKind.i64.wrap (n : Int))) = (T : Int) := by
    rw [wrap_nat (a := (n : Int)) (by omega) (by omega), wrap_nat (a := 2 * (n : Int)) (by omega) (by omega), wrap_nat (by omega) (by omega)]
    omega
  rw [hT', wrap_nat (a := (n : Int)) (by omega) (by omega), wrap_nat (a := 2 * (n : Int)) (by omega) (by omega)]
  have hT := hid hT
  clear hT'
  go_wp2_with fail
  have hTb : T ≤ 218 := by have := hT.out; omega
  go_loopg [5, 10] n (fun q e i wr => ∃ (k e0 iN : Nat) (pre rest : List (List UInt8)), k + q = n ∧ Hid (iN = 18 + 2 * k) ∧ i = .int .i64 (iN : Nat) ∧ e = .int .i64 (e0 : Nat) ∧ e0 ≤ 512 ∧ T ≤ e0 ∧
    Hid (itemsP bs T q iN e0 = some (rest, r.2) ∧ pre ++ rest = r.1 ∧ pre.length = k ∧ PageAt wr w.heap.size G ⟨(L : Int), kd, X, pre⟩ ∧ Below w.heap.size w wr))
  case atStart => exact ⟨0, 512, 18, [], r.1, by omega, rfl, rfl, rfl, by omega, by omega, by rw [← hT.out]; exact S.out.2.2.1, rfl, rfl, B4.out.2, bl_drew B4.out.1⟩
  case round =>
    obtain ⟨k, e0, iN, pre, rest, hk, hiN, rfl, rfl, he0, hTe, hr⟩ := hrel
    by_cases hlt : k < n
    · obtain ⟨m, rfl⟩ : ∃ m, gk = m + 1 := ⟨gk - 1, by omega⟩
      obtain ⟨hit, hpr, hpl, hPw, hBw⟩ := hr.out
      have hiNv := hiN.out
      have hTv := hT.out
      rw [itemsP] at hit
      obtain ⟨f, hf⟩ : ∃ f, fromN bs iN = f := ⟨_, rfl⟩
      rw [hf] at hit
      have hbad : badF f e0 T = false := by
        cases h : badF f e0 T with
        | false => rfl
        | true => rw [h] at hit; cases hit
      rw [hbad] at hit
      simp only [Bool.false_eq_true, if_false, Option.map_eq_some_iff] at hit
      obtain ⟨⟨rest', e'⟩, hit', hpair⟩ := hit
      simp only [Prod.mk.injEq] at hpair
      obtain ⟨hrest, he'⟩ := hpair
      subst hrest he'
      simp only [badF, Bool.or_eq_false_iff, decide_eq_false_iff_not] at hbad
      obtain ⟨hb1, hb2, hb3⟩ := hbad
      have hf0 : f ≤ e0 := by omega
      have hTf : T ≤ f := by omega
      have hf2 : e0 - f ≤ 200 := by omega
      have hiT : iN < T := by omega
      have hi512 : iN + 1 < 512 := by omega
      have hx0 := HC.out _ hBw iN (by omega)
      have hx1 := HC.out _ hBw (iN + 1) (by omega)
      obtain ⟨x0, ex0⟩ : ∃ x, (bs.getD iN 0).toNat = x := ⟨_, rfl⟩
      obtain ⟨x1, ex1⟩ : ∃ x, (bs.getD (iN + 1) 0).toNat = x := ⟨_, rfl⟩
      have hx0l : x0 < 256 := by rw [← ex0]; exact UInt8.toNat_lt _
      have hx1l : x1 < 256 := by rw [← ex1]; exact UInt8.toNat_lt _
      rw [ex0] at hx0
      rw [ex1] at hx1
      have hor : bits .or .i64 (x0 : Int) ((x1 : Int) * 256) = (f : Int) := by
        rw [two_bytes x0 x1 hx0l hx1l, ← hf, fromN, ex0, ex1]
      have hd5 : decide (iN < T) = true := by simp; omega
      have hd6 : decide (e0 < f) = false := by simp; omega
      have hd7 : decide (f < T) = false := by simp; omega
      have hd8 : decide ((200 : Int) < (e0 : Int) - (f : Int)) = false := by simp; omega
      have wi1 : IntKind.i64.wrap ((iN : Int) + 1) = (iN : Int) + 1 := wrap_nat (by omega) (by omega)
      have ti1 : ((iN : Int) + 1).toNat = iN + 1 := by omega
      have HH : Aside (k < n ∧ iN = 18 + 2 * k ∧ itemsP bs T m (iN + 2) f = some (rest', r.2) ∧ pre ++ piece bs f e0 :: rest' = r.1 ∧ pre.length = k ∧ PageAt wr w.heap.size G ⟨(L : Int), kd, X, pre⟩ ∧ Below w.heap.size w wr ∧ k + (m + 1) = n ∧ 18 + 2 * n = T) := ⟨hlt, hiNv, hit', hpr, hpl, hPw, hBw, hk, hTv⟩
      clear hit' hpr hpl hPw hBw hiNv hTv hf hb1 hb2 hb3 ex0 ex1 hr hiN hk hlt
      have hi0 : (0 : Int) ≤ (iN : Int) + 1 := by omega
      have hi5 : (iN : Int) + 1 < 512 := by omega
      have hi5' : (iN : Int) < 512 := by omega
      go_wp2_with fail
      go_region_held3 (fun w' => w'.cell? ⟨b, o + iN, none⟩ = some (.int .u8 (x0 : Int)) ∧ w'.cell? ⟨b, o + (iN + 1), none⟩ = some (.int .u8 (x1 : Int))) (exact ⟨hx0, hx1⟩) (fail)
      go_wp2_with fail
      rw [hor]
      obtain ⟨wq, hwq⟩ : ∃ wq, wr.drew = wq := ⟨_, rfl⟩
      have hBq : Below w.heap.size w wq := by rw [← hwq]; exact bl_drew HH.out.2.2.2.2.2.2.1
      have hPq : PageAt wq w.heap.size G ⟨(L : Int), kd, X, pre⟩ := by rw [← hwq]; exact HH.out.2.2.2.2.2.1
      rw [hwq]
      have hpl := HH.out.2.2.2.2.1
      obtain ⟨hGb, v0, vs, hBk, hO, hRw⟩ := hPq
      obtain ⟨i1, cap, rfl, hcap, _, _⟩ := own_form hO
      have hGl := hBk.lt
      have hne := hBk.own_ne hO (by decide)
      have c3 := hBk.cell 3
      have f3 := hBk.frozen 3
      simp only [List.getElem?_toArray, List.getElem?_cons_succ, List.getElem?_cons_zero] at c3
      have hO' : wq.ownsRow w.heap.size 43 1 (.slice i1 pre.length cap) pre.length vs := hO
      have c3q : wq.cell? ⟨G, 3, none⟩ = some (.slice i1 pre.length cap) := c3
      rw [hpl] at hO' c3q
      have QQ : Aside (Below w.heap.size w wq ∧ Blk wq G 138 #[.int .i64 (L : Int), .int .u8 (kd.toNat : Int), .int .u32 (X : Int), .slice i1 k cap] ∧ wq.ownsRow w.heap.size 43 1 (.slice i1 k cap) k vs ∧ Rows wq w.heap.size vs pre ∧ some G ≠ (Value.slice i1 k cap).ownBlock ∧ w.heap.size ≤ G) := ⟨hBq, by rw [← hpl]; exact hBk, hO', hRw, by rw [← hpl]; exact hne, hGb⟩
      have hcapk : k ≤ cap := by rw [← hpl]; exact hcap
      obtain ⟨AD, hAD⟩ : ∃ AD, (if c = f then some (⟨b, o, none⟩ : Addr) else some ⟨b, o + f, none⟩) = AD := ⟨_, rfl⟩
      have hsl2 := from_to b o f e0 c hf0 (by omega) hc
      rw [hAD] at hsl2
      have HRp : Aside (∀ W, Below w.heap.size w W → RdB W AD (e0 - f) (piece bs f e0)) := ⟨fun W hB => by rw [← hAD]; exact rd_piece (HRd.out W hB) hf0 he0 hc⟩
      have hkl : k ≤ 100 := by have := HH.out.1; omega
      have hzq : w.heap.size ≤ wq.heap.size := hBq.size
      clear hwq hBq hpl hGb hBk hO hRw hcap hne c3 hO' hAD hor hx0 hx1
      obtain ⟨i0, hi0, hz0, hz1, hz2⟩ := info_parts infoBS
      have tok1 : True := trivial
      have HE : Aside (∀ args w, (callFunc 47 args).run Tryz.prog w = .ok (.enter 47 args) w) := ⟨enters_of Tryz.func47 (by kernel_rfl) rfl⟩
      go_region_law (first
        | (have _t := tok1
           (refine step_call1 (o := ⟨some 91, _, _, _, _, _⟩) 47 (by rfl) _ _ (by rfl) HE.out (.slice AD (e0 - f) (c - f)) (by go_simp) (clone_any AD (e0 - f) (c - f) (piece bs f e0) _ ?_ ?_) ?_)
           · exact HRp.out _ (by repeat (first | exact QQ.out.1 | refine bl_drew ?_))
           · omega
           rintro e w5 ⟨u, rfl, hown5, hb5⟩
           obtain ⟨ua, uc, rfl, hy1, hy2, hy3⟩ := own_form hown5
           clear hy1 hy2 hy3
           replace hb5 : Below wq.heap.size wq w5 := ⟨hb5.os, hb5.tape, hb5.output, hb5.size, hb5.block⟩
           have c35 := ((bcell hb5).1 G 3 hGl).trans c3q
           have hz5 : wq.heap.size ≤ w5.heap.size := hb5.size
           have hGl5 : G < w5.heap.size := by omega
           have c3a := (cell?_keep_alloc w5 G 3 hGl5 (.cells #[.slice ua (e0 - f) uc] 43)).trans c35
           have Q5 : Aside (Below wq.heap.size wq w5 ∧ w5.ownsRow w.heap.size 5 1 (.slice ua (e0 - f) uc) (e0 - f) ((piece bs f e0).map u8)) := ⟨hb5, own_mono hown5 hzq⟩
           clear hown5 hb5 tok1
           refine ⟨_, rfl, ?_⟩)
        | (have _t := Q5
           (refine step_append_lies (o := ⟨some 93, _, _, _, _, _⟩) _ (by rfl) _ _ _ (by rfl) w.heap.size 43 i0 _ 1 24 Tryz.underlying47 hi0 hz0 hz1 hz2 rfl (by omega) (.slice i1 k cap) k vs (by rfl) ?_ ⟨w5.heap.size, 0, none⟩ 1 1 [.slice ua (e0 - f) uc] (by rfl) (by rfl) ?_ ?_ (by omega) ?_ (by omega) ?_ (w5.heap.size + 1) ?_ ?_)
           · exact own_drewN0 ((own_fr QQ.out.2.2.1 (Fr.of_below Q5.out.1 (fun _ => False)) (fun _ _ h => h)).alloc _)
           · exact news_blk (cs := #[_]) (t := 43) (fr := (0, 0)) (alloc_new w5 _)
           · simp [Value.oneCell']
           · unfold maxLen; omega
           · show w.heap.size ≤ (w5.alloc _).heap.size
             rw [World.size_alloc]; omega
           · show (w5.alloc _).heap.size = _
             rw [World.size_alloc]
           intro g6 cap6 w6 hown6 hgrow6 hat6 hlt6
           have hg6 : w5.grownBy w6 (Value.slice i1 k cap).ownBlock := only_trans (World.grownBy_alloc w5 _ _) ⟨hgrow6.os, hgrow6.tape, hgrow6.output, hgrow6.size, hgrow6.block⟩
           have hbG : w6.heap[G]? = wq.heap[G]? := (hg6.block G hGl5 QQ.out.2.2.2.2.1).trans (Q5.out.1.block G hGl)
           have c36 := (World.cell?_of_block (w := wq) (a := ⟨G, 3, none⟩) hbG).trans c3q
           have f36 := (World.frozen?_of_block (w := wq) (a := ⟨G, 3, none⟩) hbG).trans f3
           have Q6 : Aside (w6.ownsRow w.heap.size 43 1 (.slice (some ⟨g6, 0, none⟩) (k + 1) cap6) (k + 1) (vs ++ [.slice ua (e0 - f) uc]) ∧ w5.grownBy w6 (Value.slice i1 k cap).ownBlock) := ⟨hown6, hg6⟩
           clear hown6 hgrow6 hg6 hbG))
      all_goals go_wp2_with fail
      all_goals
        obtain ⟨r1, r2, r3, r4, r5, r6, r7, r8, r9⟩ := HH.out
        have hlenp : (piece bs f e0).length = e0 - f := piece_length (by have := S.out.1; omega)
        have hF := Fr.of_below Q5.out.1 (fun _ => False)
        obtain ⟨h1, h2⟩ := page_put (p := ⟨(L : Int), kd, X, pre⟩) (x := piece bs f e0) QQ.out.2.2.2.2.2 (QQ.out.2.1.fr hF (fun h => h)) (by rw [r5]; exact own_fr QQ.out.2.2.1 hF (fun _ _ h => h)) (QQ.out.2.2.2.1.below Q5.out.1) (by rw [hlenp]; exact Q5.out.2) (by rw [show (⟨(L : Int), kd, X, pre⟩ : Pg).items.length = k from r5]; exact Q6.out.1) Q6.out.2
        have hO5 := own_fr QQ.out.2.2.1 hF (fun _ _ h => h)
        have hBf := (QQ.out.1.trans (Q5.out.1.mono hzq)).trans (h2.below (Nat.le_trans hzq hz5) (fun x hx => by
          rcases hx with rfl | hx
          · exact QQ.out.2.2.2.2.2
          · exact (hO5.lt x hx).1))
        go_roundg m
        case rel => exact ⟨k + 1, f, iN + 2, pre ++ [piece bs f e0], rest', by omega, (by omega : iN + 2 = 18 + 2 * (k + 1)), by go_num, rfl, by omega, by omega, r3, by rw [List.append_assoc]; exact r4, by simp [r5], h1, hBf⟩
        case measure => omega
    · obtain rfl : k = n := by omega
      obtain rfl : gk = 0 := by omega
      obtain ⟨hit, hpr, hpl, hPw, hBw⟩ := hr.out
      have hd5 : decide (iN < T) = false := by have := hT.out; have := hiN.out; simp; omega
      simp only [itemsP, Option.some.injEq, Prod.mk.injEq] at hit
      obtain ⟨hre, hee⟩ := hit
      have HE : Aside (e0 = r.2 ∧ pre = r.1 ∧ PageAt wr w.heap.size G ⟨(L : Int), kd, X, pre⟩ ∧ Below w.heap.size w wr) := ⟨hee, by rw [← hpr, ← hre]; simp, hPw, hBw⟩
      clear hre hee hpr hpl hPw hBw hr
      have hcT : ¬ c = T := by omega
      go_wp2_with fail
      have hRT : RdB wr (some ⟨b, o + T, none⟩) (e0 - T) (piece bs T e0) := by
        have := rd_piece (c := c) (HRd.out wr HE.out.2.2.2) hTe he0 hc
        rw [if_neg hcT] at this
        exact this
      refine (trim_any _ _ _ _ _ hRT (by omega) (by omega)).mono ?_
      rintro e w7 ⟨A7, k7, c7, rfl, hk7, hb7⟩
      have hz : allZ (piece bs T e0) = true := by rw [HE.out.1, ← hT.out]; exact S.out.2.2.2.1
      rw [hz] at hk7
      simp only [decide_eq_true_eq] at hk7
      subst hk7
      have H7 : Aside (Below wr.heap.size wr w7) := ⟨hb7⟩
      clear hz hb7 hRT
      go_wp2_with fail
      try rw [Exit.noGoto_ret]
      go_ret2
      refine ⟨G, rfl, ?_, HE.out.2.2.2.trans (H7.out.mono HE.out.2.2.2.size)⟩
      have hP7 := HE.out.2.2.1.below H7.out
      have hpe := S.out.2.2.2.2
      rw [← hpe, hL.out, hkd.out, hX.out, ← HE.out.2.1]
      exact hP7

end Go.Proofs.YthfidlhefkjpdaaGreatDoor
