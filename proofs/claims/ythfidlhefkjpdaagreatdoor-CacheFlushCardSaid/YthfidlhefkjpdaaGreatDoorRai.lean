/- num.Put of small numbers, num.PutText of short texts.
   wal.Append (short bodies).
   wal.Flush where nothing is planned.
   wal.Flush in one; what stays.
   A pool in memory. -/
import Derived.Test.YthfidlhefkjpdaaGreatDoorRab
import Derived.Test.YthfidlhefkjpdaaGreatDoorRaa
import Derived.Test.YthfidlhefkjpdaaGreatDoorRah
import Derived.Deep.LoopGhost
import Derived.Test.YthfidlhefkjpdaaGreatDoorRac
import Derived.Deep.AppendLies
namespace Go.Proofs.YthfidlhefkjpdaaGreatDoor
open Go.RowKit

set_option maxRecDepth 100000 in
set_option maxHeartbeats 1000000 in
theorem put_small (u : Nat) (w : World) (hu : u < 128) : Calls Tryz.prog 87 #[.int .u64 (u : Int)] w fun e w' => ∃ v, e = .returned v ∧ w'.ownsRow w.heap.size 5 1 v 1 ([UInt8.ofNat u].map u8) ∧ Below w.heap.size w w' := by
  obtain ⟨i0, hi0, hz0, hz1, hz2⟩ := info_parts info5
  have hd : decide ((128 : Int) ≤ (u : Int)) = false := by simp; omega
  have hv : (.int .u8 (u : Int) : Value) = u8 (UInt8.ofNat u) := by simp [u8]; omega
  have HV := hid hv
  clear hv
  go_enter Tryz.func87, Tryz.ntmps87
  go_wp2_with fail
  go_loopg [0, 3] 0 (fun q x s wr => wr = w ∧ x = .int .u64 (u : Int) ∧ s = .slice none 0 0)
  case atStart => exact ⟨rfl, rfl, rfl⟩
  case round =>
    obtain ⟨rfl, rfl, rfl⟩ := hrel
    go_wp2_with (at_builtin
                 refine wpList_append_own _ rfl _ _ 43 rfl wr.heap.size 5 i0 _ 1 1 Tryz.underlying43 hi0 hz0 hz1 hz2 rfl (by decide) (.slice none 0 0) 0 [] rfl (World.ownsRow_nil _ _ _ _) ⟨wr.heap.size, 0, none⟩ 1 1 [.int .u8 (u : Int)] rfl rfl (cell_one_new _ _ _) (by simp [Value.oneCell']) (by unfold maxLen; omega) (by omega) (by simp) ?_
                 intro v' w1 hown' hgrow _
                 have Q : Aside (w1.ownsRow wr.heap.size 5 1 v' 1 [.int .u8 (u : Int)] ∧ Below wr.heap.size wr w1) := ⟨hown', (bl_alloc (Below.refl _ _) _).grown hgrow (by simp) (by rintro k e; cases e)⟩
                 clear hown' hgrow)
    go_ret
    refine ⟨v', rfl, ?_, Q.out.2⟩
    have := Q.out.1
    rw [HV.out] at this
    exact this

set_option maxRecDepth 100000 in
set_option maxHeartbeats 1000000 in
theorem putText_small (A : Option Addr) (n c : Nat) (bs : List UInt8) (w : World) (hR : RdB w A n bs) (hn : n < 128) :
    Calls Tryz.prog 44 #[.slice A n c] w fun e w' => ∃ A' cap, e = .returned (.slice A' (1 + n) cap) ∧ w'.ownsRow w.heap.size 5 1 (.slice A' (1 + n) cap) (1 + n) ((UInt8.ofNat n :: bs).map u8) ∧ Below w.heap.size w w' := by
  have HR : Aside (∀ W, Below w.heap.size w W → RdB W A n bs) := ⟨fun W hB => hR.below hB⟩
  clear hR
  go_enter Tryz.func44, Tryz.ntmps44
  go_wp2_with fail
  refine (put_small n w hn).mono ?_
  rintro e w1 ⟨v, rfl, hown, hb1⟩
  obtain ⟨va, vc, rfl, h1, h2, h3⟩ := own_form hown
  have Q : Aside (w1.ownsRow w.heap.size 5 1 (.slice va 1 vc) 1 ([UInt8.ofNat n].map u8) ∧ Below w.heap.size w w1) := ⟨hown, hb1⟩
  clear hown hb1 h1 h2 h3
  go_wp2_with ((refine wpList_app_bytes (by rfl) (.tmp 6) (.tmp 7) (by rfl) w.heap.size (.slice va 1 vc) 1 [UInt8.ofNat n] (by rfl) Q.out.1 A n c bs (by rfl) (HR.out _ Q.out.2) (by omega) Q.out.2.size ?_)
               intro A' cap w2 hown2 hg2 hat2
               have Q2 : Aside (w2.ownsRow w.heap.size 5 1 (.slice A' (1 + n) cap) (1 + n) (([UInt8.ofNat n] ++ bs).map u8) ∧ Below w.heap.size w w2) := ⟨hown2, Q.out.2.trans (grown_below hg2 Q.out.1 Q.out.2.size)⟩
               clear hown2 hg2 hat2)
  go_ret
  exact ⟨A', cap, rfl, Q2.out.1, Q2.out.2⟩

end Go.Proofs.YthfidlhefkjpdaaGreatDoor

namespace Go.Proofs.YthfidlhefkjpdaaGreatDoor
open Go.RowKit

theorem infoRec : (Tryz.prog.info? 91).map (fun i => (i.zero, i.size, i.bytes)) = some (some (.agg #[.int .i64 0, .int .i64 0, .slice none 0 0]), 3, 40) := by kernel_rfl

theorem own_form_n {w : World} {base n size : Nat} {e : TypeId} {v : Value} {xs : List Value} (h : w.ownsRow base e size v n xs) : ∃ A cap, v = .slice A n cap := by
  obtain ⟨hl, ⟨rfl, rfl⟩ | ⟨g, cap, cur, rfl, _⟩⟩ := h
  · exact ⟨none, 0, rfl⟩
  · exact ⟨_, cap, rfl⟩

/-- The stream is set anew behind an append to it. -/
theorem LogAt.streamed {w w' : World} {base gl gd : Nat} {sv rv sv' : Value} {L : Lg} {st : List UInt8} (h : LogAt w base gl gd sv rv L) (ho : w'.ownsRow base 5 1 sv' st.length (st.map u8)) (hg : w.grownBy w' sv.ownBlock) :
    LogAt (w'.setCell ⟨gl, 5, none⟩ sv') base gl gd sv' rv { L with stream := st } ∧ Fr (lT gl sv rv) w (w'.setCell ⟨gl, 5, none⟩ sv') := by
  obtain ⟨h1, h2, h3, xs, h4⟩ := h
  have hF1 : Fr (fun b => sv.ownBlock = some b) w w' := ⟨hg.os, hg.tape, hg.output, hg.size, fun b hb hn => hg.block b hb (fun e => hn e.symm)⟩
  have hgl : ¬ sv.ownBlock = some gl := fun e => (own_ty h3 e).ne h1.ty (by decide)
  have b1 : Blk w' gl 89 (lgCells gd L.first L.count L.run L.most sv L.safe rv L.old L.dead) := h1.fr hF1 hgl
  have r1 := own_fr h4 hF1 (fun b hb e => (own_ty h4 hb).ne (own_ty h3 e) (by decide))
  have hF2 : Fr (· = gl) w' (w'.setCell ⟨gl, 5, none⟩ sv') := (Fr.refl (· = gl) w').set (p := ⟨gl, 5, none⟩) (.inl rfl) _
  refine ⟨⟨?_, h2, own_fr ho hF2 (fun b hb e => by subst e; exact (own_ty ho hb).ne b1.ty (by decide)), xs, own_fr r1 hF2 (fun b hb e => by subst e; exact (own_ty r1 hb).ne b1.ty (by decide))⟩, ?_⟩
  · have := b1.set_ 5 sv'
    simpa [lgCells] using this
  · exact (hF1.mono fun b _ hb => .inr (.inl hb)).trans hF2 (fun b _ hb => .inl hb)
/-- The records are set anew behind an append to them. -/
theorem LogAt.recorded {w w' : World} {base gl gd k : Nat} {sv rv rv' : Value} {L : Lg} {xs : List Value} (h : LogAt w base gl gd sv rv L) (ho : w'.ownsRow base 91 3 rv' k xs) (hg : w.grownBy w' rv.ownBlock) :
    LogAt (w'.setCell ⟨gl, 7, none⟩ rv') base gl gd sv rv' { L with nrec := k } ∧ Fr (lT gl sv rv) w (w'.setCell ⟨gl, 7, none⟩ rv') := by
  obtain ⟨h1, h2, h3, ys, h4⟩ := h
  have hF1 : Fr (fun b => rv.ownBlock = some b) w w' := ⟨hg.os, hg.tape, hg.output, hg.size, fun b hb hn => hg.block b hb (fun e => hn e.symm)⟩
  have hgl : ¬ rv.ownBlock = some gl := fun e => (own_ty h4 e).ne h1.ty (by decide)
  have b1 : Blk w' gl 89 (lgCells gd L.first L.count L.run L.most sv L.safe rv L.old L.dead) := h1.fr hF1 hgl
  have r1 := own_fr h3 hF1 (fun b hb e => (own_ty h3 hb).ne (own_ty h4 e) (by decide))
  have hF2 : Fr (· = gl) w' (w'.setCell ⟨gl, 7, none⟩ rv') := (Fr.refl (· = gl) w').set (p := ⟨gl, 7, none⟩) (.inl rfl) _
  refine ⟨⟨?_, h2, own_fr r1 hF2 (fun b hb e => by subst e; exact (own_ty r1 hb).ne b1.ty (by decide)), xs, own_fr ho hF2 (fun b hb e => by subst e; exact (own_ty ho hb).ne b1.ty (by decide))⟩, ?_⟩
  · have := b1.set_ 7 rv'
    simpa [lgCells] using this
  · exact (hF1.mono fun b _ hb => .inr (.inr hb)).trans hF2 (fun b _ hb => .inl hb)

def recL (kind n : Nat) (bs : List UInt8) : List UInt8 := UInt8.ofNat kind :: UInt8.ofNat n :: bs

set_option maxRecDepth 100000 in
set_option maxHeartbeats 2000000 in
theorem lappend_any (base gl gd gs gm : Nat) (sv rv : Value) (L : Lg) (D : Dk) (kind : Nat) (A : Option Addr) (n c : Nat) (bs : List UInt8) (w : World) (h : LD w base gl gd gs gm sv rv L D) (hw : L.wf) (hold : L.old = false) (hd : L.dead = false)
    (hk1 : 1 ≤ kind) (hk2 : kind ≤ 255) (hR : RdB w A n bs) (hap : ∀ b o, 0 < n → A = some ⟨b, o, none⟩ → ¬ lT gl sv rv b) (hn : n < 128) (hnr : L.nrec ≤ 1099511627776) :
    Calls Tryz.prog 10 #[.pointer (some ⟨gl, 0, none⟩), .int .i64 (kind : Int), .slice A n c] w fun e w' =>
      (L.stream.length + (n + 2) ≤ L.count * 498 → e = .returned (.tuple #[.int .i64 (L.lsn L.stream.length), .int .i64 0]) ∧
        ∃ sv' rv', LD w' base gl gd gs gm sv' rv' { L with stream := L.stream ++ recL kind n bs, nrec := L.nrec + 1 } D ∧ Fr (lT gl sv rv) w w' ∧ Nx w sv sv' ∧ Nx w rv rv') ∧
      (¬ L.stream.length + (n + 2) ≤ L.count * 498 → e = .returned (.tuple #[.int .i64 0, .int .i64 90]) ∧ LD w' base gl gd gs gm sv rv L D ∧ Below w.heap.size w w') := by
  have hgl := h.glt
  have hv : (.int .u8 (kind : Int) : Value) = u8 (UInt8.ofNat kind) := by simp [u8]; omega
  have HV := hid hv
  have hkw : IntKind.u8.wrap (kind : Int) = (kind : Int) := by simp [IntKind.wrap, IntKind.bits, IntKind.signed]; omega
  have d1 : decide ((kind : Int) < 1) = false := by simp; omega
  have d2 : decide ((255 : Int) < (kind : Int)) = false := by simp; omega
  have d3 : decide ((1200 : Int) < (n : Int)) = false := by simp; omega
  have H : Aside (LD w base gl gd gs gm sv rv L D ∧ L.wf ∧ L.old = false ∧ L.dead = false ∧ L.nrec ≤ 1099511627776 ∧ gl < w.heap.size ∧ bs.length = n) := ⟨h, hw, hold, hd, hnr, hgl, hR.1⟩
  have HR : Aside (∀ W, Below w.heap.size w W → RdB W A n bs) := ⟨fun W hB => hR.below hB⟩
  have hbase : base ≤ w.heap.size := by have := h.log.2.1; omega
  have HAP := hid hap
  clear h hw hold hd hR hnr hv hk1 hgl hap
  go_enter Tryz.func10, Tryz.ntmps10
  go_wp2_with fail
  obtain ⟨W0, hW0⟩ : ∃ W0, w.alloc (.cells #[.int .u8 (kind : Int)] 5) = W0 := ⟨_, rfl⟩
  have hb0 : Below w.heap.size w W0 := by rw [← hW0]; exact bl_alloc (Below.refl _ _) _
  have hY0 : Byt W0 w.heap.size [UInt8.ofNat kind] := by
    rw [← hW0, HV.out]; exact Byt.new w [UInt8.ofNat kind]
  rw [hW0]
  have HW0 : Aside (Below w.heap.size w W0 ∧ Byt W0 w.heap.size [UInt8.ofNat kind]) := ⟨hb0, hY0⟩
  clear hW0 hb0 hY0
  refine (putText_small A n c bs W0 (HR.out _ HW0.out.1) hn).mono ?_
  rintro e w1 ⟨A1, cap1, rfl, hown1, hb1⟩
  have hlt0 := HW0.out.2.lt
  have H1 : Aside (Below w.heap.size w w1 ∧ w1.ownsRow w.heap.size 5 1 (.slice (some ⟨w.heap.size, 0, none⟩) 1 1) 1 ([UInt8.ofNat kind].map u8) ∧ RdB w1 A1 (1 + n) (UInt8.ofNat n :: bs)) :=
    ⟨HW0.out.1.trans (hb1.mono HW0.out.1.size), (HW0.out.2.below hb1 hlt0).own (Nat.le_refl _) (by simp [maxLen]), RdB.of_own hown1⟩
  clear hown1 hb1 hlt0
  obtain ⟨m, hm⟩ : ∃ m, 1 + (1 + n) = m := ⟨_, rfl⟩
  go_wp2_with (
    (with_reducible refine wpList_app_bytes (o := ⟨some 15, _, _, _, _, _⟩) rfl (.tmp 12) (.tmp 14) rfl w.heap.size (.slice (some ⟨w.heap.size, 0, none⟩) 1 1) 1 [UInt8.ofNat kind] rfl H1.out.2.1 A1 (1 + n) cap1 (UInt8.ofNat n :: bs) rfl H1.out.2.2 ?_ ?_ ?_)
    · omega
    · exact H1.out.1.size
    intro A2 cap2 w2 ho2 hg2 _
    rw [hm] at ho2
    try rw [hm]
    have hb2 := H1.out.1.trans (grown_below hg2 H1.out.2.1 H1.out.1.size)
    have H2 : Aside (Below w.heap.size w w2 ∧ RdB w2 A2 m (recL kind n bs) ∧ LD w2 base gl gd gs gm sv rv L D) := ⟨hb2, RdB.of_own ho2, H.out.1.below hb2⟩
    have c8 := H2.out.2.2.log.cells.2.2.2.2.2.2.2.2.1
    have c9 := H2.out.2.2.log.cells.2.2.2.2.2.2.2.2.2
    rw [H.out.2.2.1] at c8
    rw [H.out.2.2.2.1] at c9
    clear ho2 hg2 hb2)
  refine (lroom_any base gl gd sv rv L w2 H2.out.2.2.log H.out.2.1).mono ?_
  rintro e w3 ⟨rfl, hb3⟩
  have hb03 := H2.out.1.trans (hb3.mono H2.out.1.size)
  have H3 : Aside (Below w.heap.size w w3 ∧ RdB w3 A2 m (recL kind n bs) ∧ LD w3 base gl gd gs gm sv rv L D) := ⟨hb03, H2.out.2.1.below hb3, H2.out.2.2.below hb3⟩
  clear hb3 hb03 H1 H2 HW0 c8 c9
  obtain ⟨sl, hsl⟩ : ∃ sl, L.stream.length = sl := ⟨_, rfl⟩
  obtain ⟨R, hRr⟩ : ∃ R, L.count * 498 - L.stream.length = R := ⟨_, rfl⟩
  have hlen := H.out.2.1.len
  have hcnt := H.out.2.1.count
  rw [hRr]
  by_cases hfull : L.stream.length + (n + 2) ≤ L.count * 498
  · have dR : decide ((R : Int) < (m : Int)) = false := by simp; omega
    have dR2 : decide (R < m) = false := by simp; omega
    have hlsl : sl ≤ 2039808 := by omega
    have hml : m ≤ 129 := by omega
    have HZ : Aside (L.stream.length = sl ∧ L.stream.length + (n + 2) ≤ L.count * 498 ∧ 1 + (1 + n) = m) := ⟨hsl, hfull, hm⟩
    clear hRr hlen hcnt hfull hsl hm
    go_wp2_with fail
    refine (lend_any base gl gd sv rv L w3 H3.out.2.2.log H.out.2.1).mono ?_
    rintro e w' ⟨rfl, rfl⟩
    obtain ⟨AS, capS, rfl, -⟩ := H3.out.2.2.log.form
    rw [HZ.out.1]
    have c5 := H3.out.2.2.log.cells.2.2.2.2.2.1
    rw [HZ.out.1] at c5
    obtain ⟨AT, hAT⟩ : ∃ AT, L.lsn sl = AT := ⟨_, rfl⟩
    rw [hAT]
    have hAT := hid hAT
    go_wp2_with (
      (with_reducible refine wpList_app_bytes (o := ⟨some 51, _, _, _, _, _⟩) rfl (.tmp 49) (.tmp 50) rfl base (.slice AS sl capS) sl L.stream rfl ?_ A2 m cap2 (recL kind n bs) rfl H3.out.2.1 ?_ ?_ ?_)
      · rw [← HZ.out.1]; exact H3.out.2.2.log.2.2.1
      · omega
      · have := H3.out.1.size; omega
      intro A5 cap5 w5 ho5 hg5 hat5
      have hl5 : (L.stream ++ recL kind n bs).length = sl + m := by rw [List.length_append, HZ.out.1, ← HZ.out.2.2]; simp [recL, H.out.2.2.2.2.2.2]; omega
      have hst5 := H3.out.2.2.log.streamed (sv' := .slice A5 (sl + m) cap5) (st := L.stream ++ recL kind n bs) (by rw [hl5]; exact ho5) (by rw [HZ.out.1]; exact hg5)
      have hb5 : Blk w5 gl 89 (lgCells gd L.first L.count L.run L.most (.slice AS L.stream.length capS) L.safe rv L.old L.dead) := (hg5.block gl H3.out.2.2.log.lt (fun e => (own_ty H3.out.2.2.log.2.2.1 (by rw [HZ.out.1]; exact e.symm)).ne H3.out.2.2.log.1.ty (by decide))).trans H3.out.2.2.log.1
      have c55 := hb5.cell 5
      have f55 := hb5.frozen 5
      simp [lgCells] at c55
      have H5 : Aside (LogAt (w5.setCell ⟨gl, 5, none⟩ (.slice A5 (sl + m) cap5)) base gl gd (.slice A5 (sl + m) cap5) rv { L with stream := L.stream ++ recL kind n bs } ∧ Fr (lT gl (.slice AS L.stream.length capS) rv) w3 (w5.setCell ⟨gl, 5, none⟩ (.slice A5 (sl + m) cap5)) ∧
        ((Value.slice A5 (sl + m) cap5).ownBlock = (Value.slice AS sl capS).ownBlock ∨ (Value.slice A5 (sl + m) cap5).ownBlock = some w3.heap.size)) := ⟨hst5.1, hst5.2, hat5⟩
      clear ho5 hg5 hat5 hst5 hb5)
    obtain ⟨i1, capr, rfl⟩ := own_form_n H3.out.2.2.log.2.2.2.choose_spec
    obtain ⟨w6, hw6⟩ : ∃ w6, w5.setCell ⟨gl, 5, none⟩ (.slice A5 (sl + m) cap5) = w6 := ⟨_, rfl⟩
    rw [hw6] at H5 ⊢
    clear hw6 c55 f55 c5
    obtain ⟨k, hk⟩ : ∃ k, L.nrec = k := ⟨_, rfl⟩
    have c7 := H5.out.1.cells.2.2.2.2.2.2.2.1
    have f7 := H5.out.1.1.frozen 7
    obtain ⟨xs, hx⟩ := H5.out.1.2.2.2
    have hx : w6.ownsRow base 91 3 (.slice i1 L.nrec capr) L.nrec xs := hx
    rw [hk] at c7 hx
    have hne : some gl ≠ (Value.slice i1 k capr).ownBlock := H5.out.1.1.own_ne hx (by decide)
    have hgl6 := H5.out.1.lt
    have hz6 : w.heap.size ≤ w6.heap.size := Nat.le_trans H3.out.1.size H5.out.2.1.size
    have hkl : k ≤ 1099511627776 := by rw [← hk]; exact H.out.2.2.2.2.1
    have HX : Aside (w6.ownsRow base 91 3 (.slice i1 k capr) k xs ∧ L.nrec = k ∧ some gl ≠ (Value.slice i1 k capr).ownBlock) := ⟨hx, hk, hne⟩
    have HRb : Aside (∀ W, Below w6.heap.size w6 W → RdB W A n bs) := ⟨fun W hW => ((HR.out w3 H3.out.1).fr H5.out.2.1 (fun b o h0 e => HAP.out b o h0 e)).below hW⟩
    clear hx hk hne
    obtain ⟨i0, hi0, hz0, hz1, hz2⟩ := info_parts infoRec
    have tok1 : True := trivial
    have HE : Aside (∀ args w, (callFunc 47 args).run Tryz.prog w = .ok (.enter 47 args) w) := ⟨enters_of Tryz.func47 (by kernel_rfl) rfl⟩
    go_region_law (first
      | (have _t := tok1
         (refine step_call1 (o := ⟨some 62, _, _, _, _, _⟩) 47 (by rfl) _ _ (by rfl) HE.out (.slice A n c) (by go_simp) (clone_any A n c bs _ ?_ ?_) ?_)
         · exact HRb.out _ (by repeat (first | exact Below.refl _ _ | refine bl_drew ?_))
         · omega
         rintro e w7 ⟨u, rfl, hown7, hb7⟩
         obtain ⟨ua, uc, rfl, hy1, hy2, hy3⟩ := own_form hown7
         clear hy1 hy2 hy3
         replace hb7 : Below w6.heap.size w6 w7 := ⟨hb7.os, hb7.tape, hb7.output, hb7.size, hb7.block⟩
         have c77 := ((bcell hb7).1 gl 7 hgl6).trans c7
         have hz7 : w6.heap.size ≤ w7.heap.size := hb7.size
         have hgl7 : gl < w7.heap.size := by omega
         have c7a := (cell?_keep_alloc w7 gl 7 hgl7 (.cells #[.int .i64 AT, .int .i64 (kind : Int), .slice ua n uc] 91)).trans c77
         have Q7 : Aside (Below w6.heap.size w6 w7) := ⟨hb7⟩
         clear hown7 hb7 tok1
         refine ⟨_, rfl, ?_⟩)
      | (have _t := Q7
         (refine step_append_lies (o := ⟨some 65, _, _, _, _, _⟩) _ (by rfl) (.tmp 58) (.tmp 64) 83 (by rfl) base 91 i0 _ 3 40 Tryz.underlying83 hi0 hz0 hz1 hz2 rfl (by omega) (.slice i1 k capr) k xs (by go_simp) ?_ ⟨w7.heap.size, 0, none⟩ 1 1 [.int .i64 AT, .int .i64 (kind : Int), .slice ua n uc] (by go_simp) (by rfl) ?_ ?_ (by omega) ?_ (by omega) ?_ (w7.heap.size + 1) ?_ ?_)
         · exact own_drewN0 ((own_fr HX.out.1 (Fr.of_below Q7.out (fun _ => False)) (fun _ _ h => h)).alloc _)
         · exact news_blk (cs := #[_, _, _]) (t := 91) (fr := (0, 0)) (alloc_new w7 _)
         · simp [Value.oneCell']
         · unfold maxLen; omega
         · show base ≤ (w7.alloc _).heap.size
           rw [World.size_alloc]; omega
         · show (w7.alloc _).heap.size = _
           rw [World.size_alloc]
         intro g8 cap8 w8 hown8 hgrow8 hat8 hlt8
         have hg8 : w7.grownBy w8 (Value.slice i1 k capr).ownBlock := only_trans (World.grownBy_alloc w7 _ _) ⟨hgrow8.os, hgrow8.tape, hgrow8.output, hgrow8.size, hgrow8.block⟩
         have hbG : w8.heap[gl]? = w6.heap[gl]? := (hg8.block gl hgl7 HX.out.2.2).trans (Q7.out.block gl hgl6)
         have c78 := (World.cell?_of_block (w := w6) (a := ⟨gl, 7, none⟩) hbG).trans c7
         have f78 := (World.frozen?_of_block (w := w6) (a := ⟨gl, 7, none⟩) hbG).trans f7
         have Q8 : Aside (w8.ownsRow base 91 3 (.slice (some ⟨g8, 0, none⟩) (k + 1) cap8) (k + 1) (xs ++ [.int .i64 AT, .int .i64 (kind : Int), .slice ua n uc]) ∧ w7.grownBy w8 (Value.slice i1 k capr).ownBlock ∧ ((Value.slice i1 k capr).ownBlock = some g8 ∨ g8 = w7.heap.size + 1)) := ⟨hown8, hg8, hat8⟩
         clear hown8 hgrow8 hg8 hbG hat8))
    all_goals go_wp2_with fail
    all_goals go_ret2
    all_goals
      have q2 := Q8.out.2.1
      have q3 := Q8.out.2.2
      have q5 := H5.out.2.2
      rw [show (Value.slice i1 k capr).ownBlock = (Value.slice i1 L.nrec capr).ownBlock by rw [HX.out.2.1]] at q2 q3
      rw [show (Value.slice AS sl capS).ownBlock = (Value.slice AS L.stream.length capS).ownBlock by rw [HZ.out.1]] at q5
      obtain ⟨hLr, hFr⟩ := (H5.out.1.below Q7.out).recorded Q8.out.1 q2
      have hld := (((H3.out.2.2.onLog H5.out.2.1 H5.out.1).below Q7.out).onLog hFr hLr)
      have hlt := HZ.out.2.1
      refine ⟨fun _ => ⟨?_, .slice A5 (sl + m) cap5, .slice (some ⟨g8, 0, none⟩) (k + 1) cap8, ?_, ?_, ?_, ?_⟩, fun h => absurd hlt (by omega)⟩
      · rw [HZ.out.1, hAT.out]; rfl
      · rw [HX.out.2.1]; exact hld
      · have h1 : Fr (lT gl (.slice AS L.stream.length capS) (.slice i1 L.nrec capr)) w w6 := (Fr.of_below H3.out.1 _).trans H5.out.2.1 (fun _ _ h => h)
        have h2 := h1.trans (Fr.of_below Q7.out (fun _ => False)) (fun _ _ h => h.elim)
        refine h2.trans hFr ?_
        rintro b hb (e | e | e)
        · exact .inl e
        · rcases q5 with h | h
          · rw [h] at e; exact .inr (.inl e)
          · rw [h] at e; injection e with e; have := H3.out.1.size; omega
        · exact .inr (.inr e)
      · intro b e
        rcases q5 with h | h
        · rw [h] at e; exact .inl e
        · rw [h] at e; injection e with e; have := H3.out.1.size; exact .inr (by omega)
      · intro b e
        have e' : g8 = b := by injection e
        rcases q3 with h | h
        · rw [← e']; exact .inl h
        · exact .inr (by omega)
  · have dR : decide ((R : Int) < (m : Int)) = true := by simp; omega
    have dR2 : decide (R < m) = true := by simp; omega
    clear hRr hlen hcnt
    go_wp2_with fail
    go_ret2
    exact ⟨fun h => absurd h hfull, fun _ => ⟨rfl, H3.out.2.2, H3.out.1⟩⟩
end Go.Proofs.YthfidlhefkjpdaaGreatDoor

namespace Go.Proofs.YthfidlhefkjpdaaGreatDoor
open Go.RowKit

/-- k log sectors written, from sector i of the log on. -/
def Dk.logged (D : Dk) (first run : Nat) (st : List UInt8) (i : Nat) : Nat → Dk
  | 0 => D
  | k + 1 => (D.logged first run st i k).write (first + (i + k)) (sectorL run ((st.drop ((i + k) * 498)).take 498))
theorem logged_keep (D : Dk) (first run : Nat) (st : List UInt8) (i : Nat) : ∀ k, (D.logged first run st i k).sec = D.sec ∧ (D.logged first run st i k).plan = D.plan ∧ (D.logged first run st i k).off = D.off ∧ (D.logged first run st i k).steps = D.steps + k
  | 0 => ⟨rfl, rfl, rfl, by simp [Dk.logged]⟩
  | k + 1 => by
    obtain ⟨h1, h2, h3, h4⟩ := logged_keep D first run st i k
    refine ⟨h1, h2, h3, ?_⟩
    show (D.logged first run st i k).steps + 1 = _
    rw [h4]; omega
theorem logged_has (D : Dk) (first run : Nat) (st : List UInt8) (i : Nat) {j : Nat} (hj : j < first ∨ ∀ k, k < 5000 → j ≠ first + (i + k)) : ∀ k, k ≤ 5000 → (D.logged first run st i k).has j = D.has j
  | 0, _ => rfl
  | k + 1, h => by
    rw [Dk.logged, Dk.write_has, if_neg, logged_has D first run st i hj k (by omega)]
    rcases hj with h1 | h1
    · omega
    · exact h1 k (by omega)
theorem logged_wf {D : Dk} (hw : D.wf) (first run : Nat) (st : List UInt8) (i : Nat) : ∀ k, first + (i + k) ≤ D.sec.length → D.steps + k ≤ 1152921504606846976 → (D.logged first run st i k).wf
  | 0, _, _ => hw
  | k + 1, h, hs => by
    obtain ⟨h1, h2, h3, h4⟩ := logged_keep D first run st i k
    refine Dk.write_wf (logged_wf hw first run st i k (by omega) (by omega)) (by rw [h1]; omega) ?_ (by rw [h4]; omega)
    rw [sectorL_length _ _ (by rw [List.length_take]; omega)]
    omega

theorem log_cells4 {w : World} {base gl gd gs gm : Nat} {sv rv : Value} {L : Lg} {D : Dk} (h : LD w base gl gd gs gm sv rv L D) : w.cell? ⟨gl, 0, none⟩ = some (.pointer (some ⟨gd, 0, none⟩)) ∧ w.cell? ⟨gl, 1, none⟩ = some (.int .i64 (L.first : Int)) ∧ w.cell? ⟨gl, 3, none⟩ = some (.int .i64 (L.run : Int)) := by
  obtain ⟨c0, c1, c2, c3, c4, c5, c6, c7, c8, c9⟩ := h.log.cells
  exact ⟨c0, c1, c3⟩

theorem lflush_none (base gl gd gs gm : Nat) (sv rv : Value) (L : Lg) (D : Dk) (w : World) (h : LD w base gl gd gs gm sv rv L D) (hw : L.wf) (hd : L.dead = false) (hs : L.safe = L.stream.length) :
    Calls Tryz.prog 67 #[.pointer (some ⟨gl, 0, none⟩)] w fun e w' => e = .returned (.int .i64 0) ∧ Below w.heap.size w w' := by
  obtain ⟨AS, capS, rfl, -⟩ := h.log.form
  have c5 := h.log.cells.2.2.2.2.2.1
  have c6 := h.log.cells.2.2.2.2.2.2.1
  have c9 := h.log.cells.2.2.2.2.2.2.2.2.2
  rw [hd] at c9
  rw [hs] at c6
  have hn : L.stream.length ≤ 2039808 := by have := hw.len; have := hw.count; omega
  obtain ⟨n, hnn⟩ : ∃ n, L.stream.length = n := ⟨_, rfl⟩
  rw [hnn] at c5 c6 hn
  clear h hw hd hs hnn
  go_enter Tryz.func67, Tryz.ntmps67
  go_wp2_with fail
  go_region_held3 (fun w' => w'.cell? ⟨gl, 5, none⟩ = some (.slice AS n capS) ∧ w'.cell? ⟨gl, 6, none⟩ = some (.int .i64 (n : Int))) (exact ⟨c5, c6⟩) (fail)
  go_wp2_with fail
  go_ret
  exact ⟨rfl, bl_drew (Below.refl _ _)⟩

set_option maxRecDepth 100000 in
set_option maxHeartbeats 2000000 in
theorem lflush_some (base gl gd gs gm : Nat) (sv rv : Value) (L : Lg) (D : Dk) (w : World) (K : Nat) (h : LD w base gl gd gs gm sv rv L D) (hw : L.wf) (hd : L.dead = false) (hDw : D.wf) (hp : D.plan = []) (hoff : D.off = false)
    (hf : L.first + L.count ≤ D.sec.length) (hs : L.safe < L.stream.length) (hst : D.steps + 4098 ≤ 1152921504606846976) (hK : (L.safe / 498 + K) * 498 < L.stream.length + 498 ∧ L.stream.length ≤ (L.safe / 498 + K) * 498) :
    Calls Tryz.prog 67 #[.pointer (some ⟨gl, 0, none⟩)] w fun e w' => e = .returned (.int .i64 0) ∧
      LD w' base gl gd gs gm sv rv { L with safe := L.stream.length } (D.logged L.first L.run L.stream (L.safe / 498) K).sync ∧ Fr (fun b => b = gl ∨ dT gd gs gm b) w w' := by
  obtain ⟨AS, capS, rfl, hcapS, hcapM⟩ := h.log.form
  have hown := h.log.2.2.1
  obtain ⟨A', cap', e', -, -, hA⟩ := own_form hown
  injection e' with e1 e2 e3
  subst e1 e3
  obtain ⟨gS, rfl, -, -, -⟩ := hA (by omega)
  clear hA hown
  have c5 := h.log.cells.2.2.2.2.2.1
  have c6 := h.log.cells.2.2.2.2.2.2.1
  have c9 := h.log.cells.2.2.2.2.2.2.2.2.2
  rw [hd] at c9
  have hgl := h.glt
  have hnle : L.stream.length ≤ 2039808 := by have := hw.len; have := hw.count; omega
  have hnc : L.stream.length ≤ L.count * 498 := hw.len
  obtain ⟨n, hnn⟩ : ∃ n, L.stream.length = n := ⟨_, rfl⟩
  obtain ⟨s, hss⟩ : ∃ s, L.safe = s := ⟨_, rfl⟩
  obtain ⟨i0, hi0⟩ : ∃ i0, s / 498 = i0 := ⟨_, rfl⟩
  have H : Aside (LD w base gl gd gs gm (.slice (some ⟨gS, 0, none⟩) L.stream.length capS) rv L D ∧ L.wf ∧ L.dead = false ∧ D.wf ∧ D.plan = [] ∧ D.off = false ∧ L.first + L.count ≤ D.sec.length ∧ D.steps + 4098 ≤ 1152921504606846976 ∧ L.stream.length = n ∧ L.safe = s ∧ s / 498 = i0) := ⟨h, hw, hd, hDw, hp, hoff, hf, hst, hnn, hss, hi0⟩
  rw [hss, hi0]
  rw [hnn] at c5 hs hK hcapS hnle hnc
  rw [hss] at c6 hs hK
  rw [hi0] at hK
  obtain ⟨hK1, hK2⟩ := hK
  have hKc : i0 + K ≤ L.count := by omega
  have hc4 := hw.count
  have dsn : ((s : Int) == (n : Int)) = false := by simp; omega
  have hq : (s : Int) / 498 = (i0 : Int) := by omega
  have hq2 : IntKind.i64.wrap (Int.tdiv (s : Int) 498) = (i0 : Int) := by rw [Int.tdiv_eq_ediv_of_nonneg (by omega), hq, wrap_nat (by omega) (by omega)]
  clear h hw hd hDw hp hoff hf hst hnn hss hi0
  go_enter Tryz.func67, Tryz.ntmps67
  go_wp2_with fail
  go_region_held3 (fun w' => w'.cell? ⟨gl, 5, none⟩ = some (.slice (some ⟨gS, 0, none⟩) n capS) ∧ w'.cell? ⟨gl, 6, none⟩ = some (.int .i64 (s : Int))) (exact ⟨c5, c6⟩) (fail)
  go_wp2_with fail
  obtain ⟨w1, hw1⟩ : ∃ w1, w.drew = w1 := ⟨_, rfl⟩
  have hb1 : Below w.heap.size w w1 := by rw [← hw1]; exact bl_drew (Below.refl _ _)
  have hI0 : LD w1 base gl gd gs gm (.slice (some ⟨gS, 0, none⟩) L.stream.length capS) rv L D := H.out.1.below hb1
  rw [hw1]
  clear hw1 c5 c6 c9 dsn hq hq2
  have HB1 : Aside (LD w1 base gl gd gs gm (.slice (some ⟨gS, 0, none⟩) L.stream.length capS) rv L D ∧ Below w.heap.size w w1) := ⟨hI0, hb1⟩
  clear hI0 hb1
  go_loopg [3] K (fun q i wr => ∃ k : Nat, k + q = K ∧ i = .int .i64 ((i0 + k : Nat) : Int) ∧ Hid (LD wr base gl gd gs gm (.slice (some ⟨gS, 0, none⟩) L.stream.length capS) rv L (D.logged L.first L.run L.stream i0 k) ∧ Fr (fun b => b = gl ∨ dT gd gs gm b) w wr))
  case atStart => exact ⟨0, by omega, rfl, HB1.out.1, Fr.of_below HB1.out.2 _⟩
  case round =>
    obtain ⟨k, hk, rfl, hI⟩ := hrel
    obtain ⟨j, hj⟩ : ∃ j, i0 + k = j := ⟨_, rfl⟩
    rw [hj]
    have c5 := hI.out.1.log.cells.2.2.2.2.2.1
    rw [H.out.2.2.2.2.2.2.2.2.1] at c5
    obtain ⟨P, hP⟩ : ∃ P, j * 498 = P := ⟨_, rfl⟩
    have hPw : IntKind.i64.wrap ((j : Int) * 498) = (P : Int) := by rw [wrap_nat (by omega) (by omega)]; omega
    by_cases hlt : k < K
    · have hPn : P < n := by omega
      have d1 : decide (P < n) = true := by simp; omega
      have d1' : decide ((P : Int) < (n : Int)) = true := by simp; omega
      obtain ⟨Q, hQ⟩ : ∃ Q, (j + 1) * 498 = Q := ⟨_, rfl⟩
      have hjw : IntKind.i64.wrap ((j : Int) + 1) = ((j + 1 : Nat) : Int) := by rw [wrap_nat (by omega) (by omega)]; omega
      obtain ⟨j1, hj1⟩ : ∃ j1, j + 1 = j1 := ⟨_, rfl⟩
      rw [hj1] at hjw
      have hQw : IntKind.i64.wrap ((j1 : Int) * 498) = (Q : Int) := by rw [wrap_nat (by omega) (by omega)]; omega
      have HJ : Aside (i0 + k = j ∧ j * 498 = P ∧ (j + 1) * 498 = Q ∧ j + 1 = j1 ∧ k < K) := ⟨hj, hP, hQ, hj1, hlt⟩
      have hPQ : P + 498 = Q := by omega
      have hP0 : (0 : Int) ≤ (P : Int) := by omega
      have hPc : ¬ capS = P := by omega
      clear hj hP hQ hj1 hlt
      go_wp2_with fail
      obtain ⟨E, hE⟩ : ∃ E, min Q n = E := ⟨_, rfl⟩
      have hmin : ∀ (a b : TypeId) (W : World), (Builtin.min_ #[a, b] 3 #[.int .i64 (Q : Int), .int .i64 (n : Int)]).run Tryz.prog W = .ok (.int .i64 (E : Int)) W := by
        intro a b W
        simp [Builtin.min_, Builtin.min2]
        split <;> omega
      have hPE : (P : Int) ≤ (E : Int) := by omega
      have hEc : (E : Int) ≤ (capS : Int) := by omega
      go_region_held3 (fun w' => w'.cell? ⟨gl, 5, none⟩ = some (.slice (some ⟨gS, 0, none⟩) n capS)) (exact c5) (fail)
      obtain ⟨wa, hwa⟩ : ∃ wa, wr.drew = wa := ⟨_, rfl⟩
      have ha : LD wa base gl gd gs gm (.slice (some ⟨gS, 0, none⟩) L.stream.length capS) rv L (D.logged L.first L.run L.stream i0 k) ∧ Fr (fun b => b = gl ∨ dT gd gs gm b) w wa := by
        rw [← hwa]; exact ⟨hI.out.1.below (bl_drew (Below.refl _ _)), hI.out.2.drew⟩
      rw [hwa]
      clear hwa hI c5 hmin
      have HA := hid ha
      have hq := ha.1.log.2.2.1
      have hRs : RdB wa (some ⟨gS, P, none⟩) (E - P) ((L.stream.drop (j * 498)).take 498) := by
        have h1 := (((RdB.of_own hq).cut (k := P) (by rw [H.out.2.2.2.2.2.2.2.2.1]; omega)).take (k := E - P) (by rw [H.out.2.2.2.2.2.2.2.2.1]; omega)).at4
        rw [Nat.zero_add] at h1
        have e1 : (L.stream.drop P).take (E - P) = (L.stream.drop (j * 498)).take 498 := by
          rw [HJ.out.2.1]
          rcases Nat.lt_or_ge n Q with hm | hm
          · rw [List.take_of_length_le (by rw [List.length_drop, H.out.2.2.2.2.2.2.2.2.1]; omega), List.take_of_length_le (by rw [List.length_drop, H.out.2.2.2.2.2.2.2.2.1]; omega)]
          · rw [show E - P = 498 by omega]
        rw [e1] at h1
        exact h1
      obtain ⟨used, hused⟩ : ∃ used, (L.stream.drop (j * 498)).take 498 = used := ⟨_, rfl⟩
      rw [hused] at hRs
      have HU : Aside (RdB wa (some ⟨gS, P, none⟩) (E - P) used ∧ (L.stream.drop (j * 498)).take 498 = used) := ⟨hRs, hused⟩
      have hEP : E - P ≤ 498 := by omega
      clear hRs hused hq ha
      obtain ⟨F, hF⟩ : ∃ F, L.first = F := ⟨_, rfl⟩
      obtain ⟨R, hR⟩ : ∃ R, L.run = R := ⟨_, rfl⟩
      have hFl : F + j < D.sec.length := by have := H.out.2.2.2.2.2.2.1; rw [hF] at this; have := HJ.out.1; have := HJ.out.2.2.2.2; omega
      have hDn := H.out.2.2.2.1.n
      obtain ⟨G, hG⟩ : ∃ G, F + j = G := ⟨_, rfl⟩
      have hGw : IntKind.i64.wrap ((F : Int) + (j : Int)) = (G : Int) := by rw [wrap_nat (by omega) (by omega)]; omega
      have hkeep := logged_keep D L.first L.run L.stream i0 k
      have hcs : wa.cell? ⟨gl, 0, none⟩ = some (.pointer (some ⟨gd, 0, none⟩)) ∧ wa.cell? ⟨gl, 1, none⟩ = some (.int .i64 (F : Int)) ∧ wa.cell? ⟨gl, 3, none⟩ = some (.int .i64 (R : Int)) := by
        have := log_cells4 HA.out.1
        rw [hF, hR] at this
        exact this
      have hRb : R < 9223372036854775808 := by have := H.out.2.1.run; omega
      have HG : Aside (L.first = F ∧ L.run = R ∧ F + j = G ∧ G < D.sec.length ∧ (D.logged L.first L.run L.stream i0 k).wf ∧ (D.logged L.first L.run L.stream i0 k).plan = [] ∧ (D.logged L.first L.run L.stream i0 k).off = false ∧ G < (D.logged L.first L.run L.stream i0 k).sec.length) := by
        refine ⟨hF, hR, hG, by omega, logged_wf H.out.2.2.2.1 _ _ _ _ _ ?_ ?_, hkeep.2.1.trans H.out.2.2.2.2.1, hkeep.2.2.1.trans H.out.2.2.2.2.2.1, by rw [hkeep.1]; omega⟩
        · have := HJ.out.1; have := H.out.2.2.2.2.2.2.1; omega
        · have := HJ.out.2.2.2.2; have := H.out.2.2.2.2.2.2.2.1; omega
      clear hF hR hG hkeep hFl hDn
      have hgla : gl < wa.heap.size := HA.out.1.glt
      obtain ⟨c0, c1, c3⟩ := hcs
      have k0 : ∀ W, Below wa.heap.size wa W → W.cell? ⟨gl, 0, none⟩ = some (.pointer (some ⟨gd, 0, none⟩)) ∧ W.cell? ⟨gl, 1, none⟩ = some (.int .i64 (F : Int)) ∧ W.cell? ⟨gl, 3, none⟩ = some (.int .i64 (R : Int)) := fun W hW => ⟨(hW.cell (p := ⟨gl, 0, none⟩) hgla).trans c0, (hW.cell (p := ⟨gl, 1, none⟩) hgla).trans c1, (hW.cell (p := ⟨gl, 3, none⟩) hgla).trans c3⟩
      have k1 : ∀ W D', LD W base gl gd gs gm (.slice (some ⟨gS, 0, none⟩) L.stream.length capS) rv L D' → W.cell? ⟨gl, 0, none⟩ = some (.pointer (some ⟨gd, 0, none⟩)) ∧ W.cell? ⟨gl, 1, none⟩ = some (.int .i64 (F : Int)) ∧ W.cell? ⟨gl, 3, none⟩ = some (.int .i64 (R : Int)) := fun W D' hW => by
        have := log_cells4 hW
        rw [HG.out.1, HG.out.2.1] at this
        exact this
      have K0 := hid k0
      have K1 := hid k1
      clear k0 k1
      go_wp2_with fail
      go_region_held3 (fun w' => w'.cell? ⟨gl, 0, none⟩ = some (.pointer (some ⟨gd, 0, none⟩)) ∧ w'.cell? ⟨gl, 1, none⟩ = some (.int .i64 (F : Int)) ∧ w'.cell? ⟨gl, 3, none⟩ = some (.int .i64 (R : Int)))
        (first | exact ⟨c0, c1, c3⟩ | exact K1.out _ _ R2.out.1 | exact K0.out _ (by repeat (first | exact R1.out.2 | exact Below.refl _ _ | refine bl_drew ?_)))
        (first
         | (go_at_call 82
            (with_reducible refine Calls.mono (build_any R (some ⟨gS, P, none⟩) (E - P) (capS - P) used _ hRb ?_ hEP) ?_)
            · exact HU.out.1.below (by repeat (first | exact Below.refl _ _ | refine bl_drew ?_))
            rintro e w1 ⟨g, cap, rfl, hown, hb1⟩
            have R1 : Aside (RdB w1 (some ⟨g, 0, none⟩) 512 (sectorL R used) ∧ Below wa.heap.size wa w1) := ⟨RdB.of_own hown, bl_undrew hb1⟩
            clear hown hb1)
         | (go_at_call 81
            (with_reducible refine Calls.mono (write_any gd gs gm (D.logged L.first L.run L.stream i0 k) G 512 cap _ (sectorL R used) _ (HA.out.1.disk.below R1.out.2) HG.out.2.2.2.2.1 HG.out.2.2.2.2.2.1 HG.out.2.2.2.2.2.2.1 HG.out.2.2.2.2.2.2.2 R1.out.1 (by omega)) ?_)
            rintro e w2 ⟨rfl, hD2, hF2⟩
            have R2 : Aside (LD w2 base gl gd gs gm (.slice (some ⟨gS, 0, none⟩) L.stream.length capS) rv L (D.logged L.first L.run L.stream i0 (k + 1)) ∧ Fr (dT gd gs gm) wa w2) := by
              refine ⟨(HA.out.1.below R1.out.2).onDisk (fr_dT hF2) ?_, (Fr.of_below R1.out.2 _).trans (fr_dT hF2) (fun _ _ h => h)⟩
              rw [Dk.logged, HJ.out.1, HU.out.2]
              rw [HG.out.1, HG.out.2.1, HG.out.2.2.1]
              rw [HG.out.1, HG.out.2.1] at hD2
              exact hD2
            clear hD2 hF2))
      go_wp2_with fail
      have H2 : Aside (Fr (fun b => b = gl ∨ dT gd gs gm b) w w2) := ⟨ld_frames HA.out.2 (.inr R2.out.2)⟩
      refine (lstep_ok base gl gd gs gm _ rv L _ w2 R2.out.1 H.out.2.2.1).mono ?_
      rintro e w3 ⟨rfl, h3, hF3⟩
      have H3 : Aside (LD w3 base gl gd gs gm (.slice (some ⟨gS, 0, none⟩) L.stream.length capS) rv L (D.logged L.first L.run L.stream i0 (k + 1)) ∧ Fr (fun b => b = gl ∨ dT gd gs gm b) w w3) := ⟨h3, ld_frames H2.out (.inl hF3)⟩
      clear h3 hF3
      go_wp2_with fail
      go_roundg (K - 1 - k)
      case rel =>
        refine ⟨k + 1, by have := HJ.out.2.2.2.2; omega, ?_, H3.out⟩
        have e1 := HJ.out.1
        have e2 := HJ.out.2.2.2.1
        rw [← e2, ← e1]
        rfl
      case measure => have := HJ.out.2.2.2.2; omega
    · obtain rfl : k = K := by omega
      obtain rfl : gk = 0 := by omega
      have d1 : decide (P < n) = false := by simp; omega
      have d1' : decide ((P : Int) < (n : Int)) = false := by simp; omega
      have c0 := hI.out.1.log.cells.1
      have HI := hid hI.out
      have hKl : k ≤ 4096 := by omega
      clear hI hj hP
      go_wp2_with fail
      have hkeep := logged_keep D L.first L.run L.stream i0 k
      refine (sync_any gd gs gm (D.logged L.first L.run L.stream i0 k) wr HI.out.1.disk (logged_wf H.out.2.2.2.1 _ _ _ _ _ (by have := H.out.2.2.2.2.2.2.1; omega) (by have := H.out.2.2.2.2.2.2.2.1; omega)) (hkeep.2.1.trans H.out.2.2.2.2.1) (hkeep.2.2.1.trans H.out.2.2.2.2.2.1) (by rw [hkeep.2.2.2]; have := H.out.2.2.2.2.2.2.2.1; omega)).mono ?_
      rintro e w4 ⟨rfl, hD4, hF4⟩
      have H4 : Aside (LD w4 base gl gd gs gm (.slice (some ⟨gS, 0, none⟩) L.stream.length capS) rv L (D.logged L.first L.run L.stream i0 k).sync ∧ Fr (fun b => b = gl ∨ dT gd gs gm b) w w4) := ⟨HI.out.1.onDisk hF4 hD4, ld_frames HI.out.2 (.inr hF4)⟩
      clear hD4 hF4 c0 hkeep
      go_wp2_with fail
      refine (lstep_ok base gl gd gs gm _ rv L _ w4 H4.out.1 H.out.2.2.1).mono ?_
      rintro e w5 ⟨rfl, h5, hF5⟩
      have H5 : Aside (LD w5 base gl gd gs gm (.slice (some ⟨gS, 0, none⟩) L.stream.length capS) rv L (D.logged L.first L.run L.stream i0 k).sync ∧ Fr (fun b => b = gl ∨ dT gd gs gm b) w w5) := ⟨h5, ld_frames H4.out.2 (.inl hF5)⟩
      have c55 := h5.log.cells.2.2.2.2.2.1
      have c65 := h5.log.cells.2.2.2.2.2.2.1
      have f65 := h5.log.1.frozen 6
      rw [H.out.2.2.2.2.2.2.2.2.1] at c55
      clear h5 hF5
      go_wp2_with fail
      go_ret
      have hfr : Fr (· = gl) w5 (w5.setCell ⟨gl, 6, none⟩ (.int .i64 (n : Int))) := (Fr.refl (· = gl) w5).set (p := ⟨gl, 6, none⟩) (.inl rfl) _
      obtain ⟨h1, h2, h3, xs, h4⟩ := H5.out.1.log
      refine ⟨rfl, H5.out.1.onLog (fr_gl hfr) ⟨?_, h2, own_fr h3 hfr (fun b hb e => by subst e; exact (own_ty h3 hb).ne h1.ty (by decide)), xs, own_fr h4 hfr (fun b hb e => by subst e; exact (own_ty h4 hb).ne h1.ty (by decide))⟩, ld_frames H5.out.2 (.inl hfr)⟩
      have := h1.set_ 6 (.int .i64 (n : Int))
      rw [H.out.2.2.2.2.2.2.2.2.1]
      rw [H.out.2.2.2.2.2.2.2.2.1] at this
      simpa [lgCells] using this
end Go.Proofs.YthfidlhefkjpdaaGreatDoor

namespace Go.Proofs.YthfidlhefkjpdaaGreatDoor
open Go.RowKit

def Dk.lflush (D : Dk) (L : Lg) : Dk := if L.safe = L.stream.length then D else (D.logged L.first L.run L.stream (L.safe / 498) ((L.stream.length + 497) / 498 - L.safe / 498)).sync

/-- What a call that works on the log's sectors leaves. -/
structure DkNext (D D' : Dk) (lo hi : Nat) (n : Int) : Prop where
  len : D'.sec.length = D.sec.length
  plan : D'.plan = []
  off : D'.off = false
  wf : D'.wf
  steps : D'.steps ≤ D.steps + n
  ge : D.steps ≤ D'.steps
  has : ∀ j, j < D.sec.length → (j < lo ∨ hi ≤ j) → D'.has j = D.has j

theorem lflush_next {D : Dk} {L : Lg} (hDw : D.wf) (hp : D.plan = []) (hoff : D.off = false) (hw : L.wf) (hf : L.first + L.count ≤ D.sec.length) (hst : D.steps + 4098 ≤ 1152921504606846976) :
    DkNext D (D.lflush L) L.first (L.first + L.count) (L.count + 1) := by
  have hs0 := hDw.s0
  unfold Dk.lflush
  split
  · exact ⟨rfl, hp, hoff, hDw, by omega, by omega, fun _ _ _ => rfl⟩
  · obtain ⟨K, hK⟩ : ∃ K, (L.stream.length + 497) / 498 - L.safe / 498 = K := ⟨_, rfl⟩
    rw [hK]
    obtain ⟨h1, h2, h3, h4⟩ := logged_keep D L.first L.run L.stream (L.safe / 498) K
    have hlen := hw.len
    have hcnt := hw.count
    have hsf := hw.safe
    have hiK : L.safe / 498 + K ≤ L.count := by omega
    have hw1 := logged_wf hDw L.first L.run L.stream (L.safe / 498) K (by omega) (by omega)
    have hw2 := Dk.sync_wf hw1 (by rw [h4]; omega)
    refine ⟨by simp [Dk.sync, h1], h2.trans hp, h3.trans hoff, hw2, ?_, ?_, ?_⟩
    · show (D.logged L.first L.run L.stream (L.safe / 498) K).steps + 1 ≤ _
      rw [h4]; omega
    · show _ ≤ (D.logged L.first L.run L.stream (L.safe / 498) K).steps + 1
      rw [h4]; omega
    · intro j hj hout
      rw [Dk.sync_has (by rw [h1]; exact hj)]
      have key : ∀ k, L.safe / 498 + k ≤ L.count → (D.logged L.first L.run L.stream (L.safe / 498) k).has j = D.has j := by
        intro k
        induction k with
        | zero => intro _; rfl
        | succ k ih =>
          intro hk
          rw [Dk.logged, Dk.write_has, if_neg (by omega)]
          exact ih (by omega)
      exact key K hiK

theorem lflush_any (base gl gd gs gm : Nat) (sv rv : Value) (L : Lg) (D : Dk) (w : World) (h : LD w base gl gd gs gm sv rv L D) (hw : L.wf) (hd : L.dead = false) (hDw : D.wf) (hp : D.plan = []) (hoff : D.off = false)
    (hf : L.first + L.count ≤ D.sec.length) (hst : D.steps + 4098 ≤ 1152921504606846976) :
    Calls Tryz.prog 67 #[.pointer (some ⟨gl, 0, none⟩)] w fun e w' => e = .returned (.int .i64 0) ∧
      LD w' base gl gd gs gm sv rv { L with safe := L.stream.length } (D.lflush L) ∧ Fr (fun b => b = gl ∨ dT gd gs gm b) w w' := by
  have hsf := hw.safe
  by_cases hs : L.safe = L.stream.length
  · refine (lflush_none base gl gd gs gm sv rv L D w h hw hd hs).mono ?_
    rintro e w' ⟨rfl, hb⟩
    refine ⟨rfl, ?_, Fr.of_below hb _⟩
    have e1 : ({ L with safe := L.stream.length } : Lg) = L := by rw [← hs]
    rw [e1, Dk.lflush, if_pos hs]
    exact h.below hb
  · refine (lflush_some base gl gd gs gm sv rv L D w ((L.stream.length + 497) / 498 - L.safe / 498) h hw hd hDw hp hoff hf (by omega) hst (by omega)).mono ?_
    rintro e w' ⟨rfl, h1, h2⟩
    rw [Dk.lflush, if_neg hs]
    exact ⟨rfl, h1, h2⟩
end Go.Proofs.YthfidlhefkjpdaaGreatDoor

namespace Go.Proofs.YthfidlhefkjpdaaGreatDoor
open Go.RowKit

structure Frm where
  n : Int
  bytes : List UInt8
  lsn : Int
  dirty : Bool
  since : Int
  used : Bool

structure Pl where
  base : Nat
  count : Nat
  most : Nat
  frames : List Frm
  atm : Int → Option Nat
  pins : Int → Option Int
  hand : Nat
  loose : Bool
  dead : Bool

/-- Where all lies: disk, log, pool. -/
structure Ad where
  base : Nat
  gl : Nat
  gd : Nat
  gs : Nat
  gm : Nat
  sv : Value
  rv : Value
  pb : Nat
  gp : Nat
  ga : Nat
  gn : Nat
  fv : Value
  bk : List Nat
  ma : Nat
  mn : Nat

def frmCells (f : Frm) (bv : Value) : Array Value := #[.int .i64 f.n, bv, .int .i64 f.lsn, .bool f.dirty, .int .i64 f.since, .bool f.used]
/-- Block b is the frame f. -/
def FrmAt (w : World) (pb : Nat) (sv : Value) (b : Nat) (f : Frm) : Prop :=
  pb ≤ b ∧ ∃ bv, Blk w b 96 (frmCells f bv) ∧ w.ownsRow pb 5 1 bv f.bytes.length (f.bytes.map u8) ∧ (∀ b, bv.ownBlock = some b → sv.ownBlock ≠ some b)

def ptrs (bk : List Nat) : List Value := bk.map fun b => .pointer (some ⟨b, 0, none⟩)
def atV (bk : List Nat) (atm : Int → Option Nat) : Int → Option Value := fun k => (atm k).map fun i => .pointer (some ⟨bk.getD i 0, 0, none⟩)
def pinV (pins : Int → Option Int) : Int → Option Value := fun k => (pins k).map fun x => .int .i64 x
def plCells (a : Ad) (P : Pl) : Array Value :=
  #[.pointer (some ⟨a.gd, 0, none⟩), .pointer (some ⟨a.gl, 0, none⟩), .int .i64 (P.base : Int), .int .i64 (P.count : Int), .int .i64 (P.most : Int), a.fv, .map (some a.ga), .map (some a.gn), .int .i64 (P.hand : Int), .bool P.loose, .bool P.dead]

structure PoolAt (w : World) (a : Ad) (P : Pl) : Prop where
  blk : Blk w a.gp 105 (plCells a P)
  row : w.ownsRow a.pb 94 1 a.fv P.frames.length (ptrs a.bk)
  blen : a.bk.length = P.frames.length
  each : ∀ i (h : i < P.frames.length), FrmAt w a.pb a.sv (a.bk.getD i 0) P.frames[i]
  nodup : a.bk.Nodup
  atm : MapAt Tryz.prog 3 w a.ga a.ma (atV a.bk P.atm)
  pin : MapAt Tryz.prog 3 w a.gn a.mn (pinV P.pins)
  lp : a.pb ≤ a.gp
  la : a.pb ≤ a.ga
  ln : a.pb ≤ a.gn
  ne : a.ga ≠ a.gn

/-- The blocks of a pool that are written. -/
def pT (a : Ad) : Nat → Prop := fun b => b = a.gp ∨ (a.fv.ownBlock = some b ∨ (b ∈ a.bk ∨ (b = a.ga ∨ b = a.gn)))
def aL (a : Ad) : Nat → Prop := ldT a.gl a.gd a.gs a.gm a.sv a.rv
def aT (a : Ad) : Nat → Prop := fun b => aL a b ∨ pT a b

/-- Disk, log and pool. -/
structure PSt (w : World) (a : Ad) (P : Pl) (L : Lg) (D : Dk) : Prop where
  ld : LD w a.base a.gl a.gd a.gs a.gm a.sv a.rv L D
  pool : PoolAt w a P
  lb : a.base ≤ a.pb
  lg : a.gl < a.pb

theorem map_ty {w : World} {b n : Nat} {m : Int → Option Value} {t : TypeId} (h : MapAt Tryz.prog 3 w b n m) (ht : Ty w b t) : False := by
  obtain ⟨cs, fr, hh⟩ := ht
  obtain ⟨_, ⟨es, c', h1, _⟩, _⟩ := h
  rw [hh] at h1; cases h1
theorem mem_bk {a : Ad} {b : Nat} (h : b ∈ a.bk) : ∃ i, i < a.bk.length ∧ a.bk.getD i 0 = b := by
  obtain ⟨i, hi, rfl⟩ := List.mem_iff_getElem.1 h
  exact ⟨i, hi, by simp [List.getD_eq_getElem?_getD, hi]⟩
theorem bk_mem {a : Ad} {i : Nat} (h : i < a.bk.length) : a.bk.getD i 0 ∈ a.bk := by
  simp [List.getD_eq_getElem?_getD, h]
theorem bk_inj {a : Ad} (hn : a.bk.Nodup) {i j : Nat} (hi : i < a.bk.length) (hj : j < a.bk.length) (h : a.bk.getD i 0 = a.bk.getD j 0) : i = j := by
  simp only [List.getD_eq_getElem?_getD, List.getElem?_eq_getElem hi, List.getElem?_eq_getElem hj, Option.getD_some] at h
  rcases Nat.lt_trichotomy i j with hlt | he | hlt
  · exact absurd h (List.pairwise_iff_getElem.1 hn i j hi hj hlt)
  · exact he
  · exact absurd h.symm (List.pairwise_iff_getElem.1 hn j i hj hi hlt)

section
variable {w w' : World} {a a' : Ad} {P P' : Pl} {L L' : Lg} {D D' : Dk} {T : Nat → Prop}
theorem PoolAt.kinds (h : PoolAt w a P) {b : Nat} (hb : pT a b) : a.pb ≤ b ∧ ((Ty w b 105 ∨ Ty w b 94 ∨ Ty w b 96) ∨ ∀ t, ¬ Ty w b t) := by
  rcases hb with rfl | hb | hb | rfl | rfl
  · exact ⟨h.lp, .inl (.inl h.blk.ty)⟩
  · exact ⟨(h.row.lt b hb).1, .inl (.inr (.inl (own_ty h.row hb)))⟩
  · obtain ⟨i, hi, rfl⟩ := mem_bk hb
    obtain ⟨h1, bv, h2, _⟩ := h.each i (by rw [← h.blen]; exact hi)
    exact ⟨h1, .inl (.inr (.inr h2.ty))⟩
  · exact ⟨h.la, .inr fun t ht => map_ty h.atm ht⟩
  · exact ⟨h.ln, .inr fun t ht => map_ty h.pin ht⟩
theorem PoolAt.lt (h : PoolAt w a P) {b : Nat} (hb : pT a b) : b < w.heap.size := by
  rcases hb with rfl | hb | hb | rfl | rfl
  · exact h.blk.lt
  · exact (h.row.lt b hb).2
  · obtain ⟨i, hi, rfl⟩ := mem_bk hb
    obtain ⟨h1, bv, h2, _⟩ := h.each i (by rw [← h.blen]; exact hi)
    exact h2.lt
  · exact h.atm.lt
  · exact h.pin.lt
theorem PoolAt.u8 (h : PoolAt w a P) {b : Nat} (hb : Ty w b 5) : ¬ pT a b := fun hp => by
  rcases (h.kinds hp).2 with (k | k | k) | k
  · exact hb.ne k (by decide)
  · exact hb.ne k (by decide)
  · exact hb.ne k (by decide)
  · exact k _ hb
theorem FrmAt.fr {pb b : Nat} {sv : Value} {f : Frm} (h : FrmAt w pb sv b f) (hf : Fr T w w') (hb : ¬ T b) (hu : ∀ x, Ty w x 5 → sv.ownBlock ≠ some x → ¬ T x) : FrmAt w' pb sv b f := by
  obtain ⟨h1, bv, h2, h3, h4⟩ := h
  exact ⟨h1, bv, h2.fr hf hb, own_fr h3 hf (fun x hx => hu x (own_ty h3 hx) (h4 x hx)), h4⟩
theorem FrmAt.stream {pb b : Nat} {sv sv' : Value} {f : Frm} {w0 : World} (h : FrmAt w0 pb sv b f) (hn : Nx w0 sv sv') : FrmAt w0 pb sv' b f := by
  obtain ⟨h1, bv, h2, h3, h4⟩ := h
  refine ⟨h1, bv, h2, h3, fun x hx e => ?_⟩
  rcases hn x e with k | k
  · exact h4 x hx k
  · have := (h3.lt x hx).2; omega
theorem PoolAt.fr (h : PoolAt w a P) (hf : Fr T w w') (hT : ∀ b, pT a b → ¬ T b) (hu : ∀ x, Ty w x 5 → a.sv.ownBlock ≠ some x → ¬ T x) : PoolAt w' a P :=
  ⟨h.blk.fr hf (hT _ (.inl rfl)), own_fr h.row hf (fun b hb => hT b (.inr (.inl hb))), h.blen, fun i hi => (h.each i hi).fr hf (hT _ (.inr (.inr (.inl (bk_mem (by rw [h.blen]; exact hi)))))) hu, h.nodup,
    h.atm.block (hf.block _ h.atm.lt (hT _ (.inr (.inr (.inr (.inl rfl)))))), h.pin.block (hf.block _ h.pin.lt (hT _ (.inr (.inr (.inr (.inr rfl)))))), h.lp, h.la, h.ln, h.ne⟩
theorem PoolAt.below (h : PoolAt w a P) (hb : Below w.heap.size w w') : PoolAt w' a P := h.fr (Fr.of_below hb (fun _ => False)) (fun _ _ h => h) (fun _ _ _ h => h)
theorem PSt.below (h : PSt w a P L D) (hb : Below w.heap.size w w') : PSt w' a P L D := ⟨h.ld.below hb, h.pool.below hb, h.lb, h.lg⟩
theorem PSt.apart (h : PSt w a P L D) {b : Nat} (hl : aL a b) : ¬ pT a b := fun hp => by
  have hk := h.pool.kinds hp
  have hlb := h.lb
  have hlg := h.lg
  rcases hl with hd | hl
  · have h1 := h.ld.bd; have h2 := h.ld.bs; have h3 := h.ld.bm
    rcases hd with rfl | rfl | rfl <;> omega
  · rcases (h.ld.log.kinds hl).2 with k | k | k <;> rcases hk.2 with (q | q | q) | q
    all_goals first | exact k.ne q (by decide) | exact q _ k
/-- The kinds of what disk and log write. -/
theorem PSt.lkinds (h : PSt w a P L D) {b : Nat} (hl : aL a b) (hu : Ty w b 5) : a.sv.ownBlock = some b := by
  rcases hl with hd | hl
  · have := h.ld.disk.ne hu (by decide) (by decide)
    rcases hd with rfl | rfl | rfl
    · exact absurd rfl this.1
    · exact absurd rfl this.2.1
    · exact absurd rfl this.2.2
  · rcases hl with rfl | hl | hl
    · exact (h.ld.log.1.ty.ne hu (by decide)).elim
    · exact hl
    · obtain ⟨xs, hx⟩ := h.ld.log.2.2.2
      exact ((own_ty hx hl).ne hu (by decide)).elim
/-- Behind a call that turned disk and log alone. -/
theorem PSt.onLD (h : PSt w a P L D) (hf : Fr (aL a) w w') {sv' rv' : Value} (hs : Nx w a.sv sv') (hL : LD w' a.base a.gl a.gd a.gs a.gm sv' rv' L' D') : PSt w' { a with sv := sv', rv := rv' } P L' D' := by
  have hz := hf.size
  have hp : PoolAt w' a P := h.pool.fr hf (fun b hb hl => h.apart hl hb) (fun x hx hne hl => hne (h.lkinds hl hx))
  have hp0 : PoolAt w { a with sv := sv', rv := rv' } P := ⟨h.pool.blk, h.pool.row, h.pool.blen, fun i hi => (h.pool.each i hi).stream hs, h.pool.nodup, h.pool.atm, h.pool.pin, h.pool.lp, h.pool.la, h.pool.ln, h.pool.ne⟩
  refine ⟨hL, ⟨hp.blk, hp.row, hp.blen, fun i hi => ?_, hp.nodup, hp.atm, hp.pin, hp.lp, hp.la, hp.ln, hp.ne⟩, h.lb, h.lg⟩
  obtain ⟨h1, bv, h2, h3, h4⟩ := (h.pool.each i hi)
  obtain ⟨_, _, _, k4⟩ := hp0.each i hi
  have hbv : FrmAt w' a.pb a.sv (a.bk.getD i 0) P.frames[i] := hp.each i hi
  refine ⟨h1, bv, h2.fr hf (fun hl => h.apart hl (.inr (.inr (.inl (bk_mem (by rw [h.pool.blen]; exact hi)))))), own_fr h3 hf (fun x hx hl => h4 x hx (h.lkinds hl (own_ty h3 hx))), fun x hx e => ?_⟩
  rcases hs x e with k | k
  · exact h4 x hx k
  · have := (h3.lt x hx).2; omega
/-- Behind a call that turned the pool alone. -/
theorem PSt.onPool (h : PSt w a P L D) (hf : Fr (pT a) w w') (hp : PoolAt w' { a with fv := a'.fv, bk := a'.bk, ma := a'.ma, mn := a'.mn } P') : PSt w' { a with fv := a'.fv, bk := a'.bk, ma := a'.ma, mn := a'.mn } P' L D :=
  ⟨h.ld.fr hf (fun b hb hp => h.apart hb hp) (fun b hb hp => by
    rcases (h.pool.kinds hp).2 with (k | k | k) | k
    · exact hb.ne k (by decide)
    · exact hb.ne k (by decide)
    · exact hb.ne k (by decide)
    · exact k _ hb), hp, h.lb, h.lg⟩
theorem PSt.onPool0 (h : PSt w a P L D) (hf : Fr (pT a) w w') (hp : PoolAt w' a P') : PSt w' a P' L D := h.onPool (a' := a) hf hp

/-- A cell of the pool's block is set. -/
theorem PoolAt.setCell_ (h : PoolAt w a P) (i : Nat) (v : Value) (hc : (plCells a P).setIfInBounds i v = plCells a P') (hfr : P'.frames = P.frames) (hat : P'.atm = P.atm) (hpn : P'.pins = P.pins) :
    PoolAt (w.setCell ⟨a.gp, i, none⟩ v) a P' ∧ Fr (· = a.gp) w (w.setCell ⟨a.gp, i, none⟩ v) := by
  have hF : Fr (· = a.gp) w (w.setCell ⟨a.gp, i, none⟩ v) := (Fr.refl (· = a.gp) w).set (p := ⟨a.gp, i, none⟩) (.inl rfl) v
  have hne : ∀ b t, Ty w b t → t ≠ 105 → b ≠ a.gp := fun b t hb ht e => by subst e; exact hb.ne h.blk.ty ht
  obtain ⟨p1, p2, p3, p4, p5, p6, p7, p8, p9⟩ := P'
  subst hfr hat hpn
  refine ⟨⟨?_, own_fr h.row hF (fun b hb => hne b _ (own_ty h.row hb) (by decide)), h.blen, fun i hi => (h.each i hi).fr hF ?_ (fun x hx _ => hne x _ hx (by decide)), h.nodup, h.atm.block (hF.block _ h.atm.lt fun e => map_ty h.atm (by rw [e]; exact h.blk.ty)), h.pin.block (hF.block _ h.pin.lt fun e => map_ty h.pin (by rw [e]; exact h.blk.ty)), h.lp, h.la, h.ln, h.ne⟩, hF⟩
  · have := h.blk.set_ i v
    rw [hc] at this
    exact this
  · obtain ⟨_, _, h2, _⟩ := h.each i hi
    exact hne _ _ h2.ty (by decide)
/-- A frame is set. -/
theorem PoolAt.setFrm (h : PoolAt w a P) (i : Nat) (hi : i < P.frames.length) (hF : Fr (· = a.bk.getD i 0) w w') (f : Frm) (hf : FrmAt w' a.pb a.sv (a.bk.getD i 0) f) : PoolAt w' a { P with frames := P.frames.set i f } := by
  obtain ⟨_, _, hB, _⟩ := h.each i hi
  have hne : ∀ b t, Ty w b t → t ≠ 96 → b ≠ a.bk.getD i 0 := fun b t hb ht e => by subst e; exact hb.ne hB.ty ht
  have hmn : ∀ b n m, MapAt Tryz.prog 3 w b n m → b ≠ a.bk.getD i 0 := fun b n m hm e => by subst e; exact map_ty hm hB.ty
  have hil : i < a.bk.length := by rw [h.blen]; exact hi
  refine ⟨h.blk.fr hF (hne _ _ h.blk.ty (by decide)), ?_, by simpa using h.blen, fun j hj => ?_, h.nodup, h.atm.block (hF.block _ h.atm.lt (hmn _ _ _ h.atm)), h.pin.block (hF.block _ h.pin.lt (hmn _ _ _ h.pin)), h.lp, h.la, h.ln, h.ne⟩
  · have := own_fr h.row hF (fun b hb => hne b _ (own_ty h.row hb) (by decide))
    simpa using this
  · have hj' : j < P.frames.length := by simpa using hj
    by_cases hij : i = j
    · subst hij
      simpa using hf
    · have e : (P.frames.set i f)[j]'hj = P.frames[j] := by simp [List.getElem_set, hij]
      show FrmAt w' a.pb a.sv (a.bk.getD j 0) ((P.frames.set i f)[j]'hj)
      rw [e]
      refine (h.each j hj').fr hF (fun e => hij (bk_inj h.nodup hil (by rw [h.blen]; exact hj') e.symm)) (fun x hx _ => hne x _ hx (by decide))
end
end Go.Proofs.YthfidlhefkjpdaaGreatDoor
