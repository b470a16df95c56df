/- wal.Append (short bodies). -/
import Derived.Test.YthfidlhefkjpdaaGreatDoorTaq
import Derived.Test.YthfidlhefkjpdaaGreatDoorTad
import Derived.Deep.AppendLies
namespace Go.Proofs.YthfidlhefkjpdaaGreatDoor
open Go.RowKit

theorem infoRec : (Tryz.prog.info? 91).map (fun i => (i.zero, i.size, i.bytes)) = some (some (.agg #[.int .i64 0, .int .i64 0, .slice none 0 0]), 3, 40) := by kernel_rfl

theorem own_form_n {w : World} {base n size : Nat} {e : TypeId} {v : Value} {xs : List Value} (h : w.ownsRow base e size v n xs) : ∃ A cap, v = .slice A n cap := by
  obtain ⟨hl, ⟨rfl, rfl⟩ | ⟨g, cap, cur, rfl, _⟩⟩ := h
  · exact ⟨none, 0, rfl⟩
  · exact ⟨_, cap, rfl⟩

/-- The stream is set anew behind an append to it. -/
theorem LogAt.streamed {w w' : World} {base gl gd : Nat} {sv rv sv' : Value} {L : Lg} {st : List UInt8} (h : LogAt w base gl gd sv rv L) (ho : w'.ownsRow base 5 1 sv' st.length (st.map u8)) (hg : w.grownBy w' sv.ownBlock) :
    LogAt (w'.setCell ⟨gl, 5, none⟩ sv') base gl gd sv' rv { L with stream := st } ∧ Fr (lT gl sv rv) w (w'.setCell ⟨gl, 5, none⟩ sv') := by
  obtain ⟨h1, h2, h3, xs, h4⟩ := h
  have hF1 : Fr (fun b => sv.ownBlock = some b) w w' := ⟨hg.os, hg.tape, hg.output, hg.size, fun b hb hn => hg.block b hb (fun e => hn e.symm)⟩
  have hgl : ¬ sv.ownBlock = some gl := fun e => (own_ty h3 e).ne h1.ty (by decide)
  have b1 : Blk w' gl 89 (lgCells gd L.first L.count L.run L.most sv L.safe rv L.old L.dead) := h1.fr hF1 hgl
  have r1 := own_fr h4 hF1 (fun b hb e => (own_ty h4 hb).ne (own_ty h3 e) (by decide))
  have hF2 : Fr (· = gl) w' (w'.setCell ⟨gl, 5, none⟩ sv') := (Fr.refl (· = gl) w').set (p := ⟨gl, 5, none⟩) (.inl rfl) _
  refine ⟨⟨?_, h2, own_fr ho hF2 (fun b hb e => by subst e; exact (own_ty ho hb).ne b1.ty (by decide)), xs, own_fr r1 hF2 (fun b hb e => by subst e; exact (own_ty r1 hb).ne b1.ty (by decide))⟩, ?_⟩
  · have := b1.set_ 5 sv'
    simpa [lgCells] using this
  · exact (hF1.mono fun b _ hb => .inr (.inl hb)).trans hF2 (fun b _ hb => .inl hb)
/-- The records are set anew behind an append to them. -/
theorem LogAt.recorded {w w' : World} {base gl gd k : Nat} {sv rv rv' : Value} {L : Lg} {xs : List Value} (h : LogAt w base gl gd sv rv L) (ho : w'.ownsRow base 91 3 rv' k xs) (hg : w.grownBy w' rv.ownBlock) :
    LogAt (w'.setCell ⟨gl, 7, none⟩ rv') base gl gd sv rv' { L with nrec := k } ∧ Fr (lT gl sv rv) w (w'.setCell ⟨gl, 7, none⟩ rv') := by
  obtain ⟨h1, h2, h3, ys, h4⟩ := h
  have hF1 : Fr (fun b => rv.ownBlock = some b) w w' := ⟨hg.os, hg.tape, hg.output, hg.size, fun b hb hn => hg.block b hb (fun e => hn e.symm)⟩
  have hgl : ¬ rv.ownBlock = some gl := fun e => (own_ty h4 e).ne h1.ty (by decide)
  have b1 : Blk w' gl 89 (lgCells gd L.first L.count L.run L.most sv L.safe rv L.old L.dead) := h1.fr hF1 hgl
  have r1 := own_fr h3 hF1 (fun b hb e => (own_ty h3 hb).ne (own_ty h4 e) (by decide))
  have hF2 : Fr (· = gl) w' (w'.setCell ⟨gl, 7, none⟩ rv') := (Fr.refl (· = gl) w').set (p := ⟨gl, 7, none⟩) (.inl rfl) _
  refine ⟨⟨?_, h2, own_fr r1 hF2 (fun b hb e => by subst e; exact (own_ty r1 hb).ne b1.ty (by decide)), xs, own_fr ho hF2 (fun b hb e => by subst e; exact (own_ty ho hb).ne b1.ty (by decide))⟩, ?_⟩
  · have := b1.set_ 7 rv'
    simpa [lgCells] using this
  · exact (hF1.mono fun b _ hb => .inr (.inr hb)).trans hF2 (fun b _ hb => .inl hb)

def recL (kind n : Nat) (bs : List UInt8) : List UInt8 := UInt8.ofNat kind :: UInt8.ofNat n :: bs

set_option maxRecDepth 100000 in
set_option maxHeartbeats 2000000 in
theorem lappend_any (base gl gd gs gm : Nat) (sv rv : Value) (L : Lg) (D : Dk) (kind : Nat) (A : Option Addr) (n c : Nat) (bs : List UInt8) (w : World) (h : LD w base gl gd gs gm sv rv L D) (hw : L.wf) (hold : L.old = false) (hd : L.dead = false)
    (hk1 : 1 ≤ kind) (hk2 : kind ≤ 255) (hR : RdB w A n bs) (hap : ∀ b o, 0 < n → A = some ⟨b, o, none⟩ → ¬ lT gl sv rv b) (hn : n < 128) (hnr : L.nrec ≤ 1099511627776) :
    Calls Tryz.prog 10 #[.pointer (some ⟨gl, 0, none⟩), .int .i64 (kind : Int), .slice A n c] w fun e w' =>
      (L.stream.length + (n + 2) ≤ L.count * 498 → e = .returned (.tuple #[.int .i64 (L.lsn L.stream.length), .int .i64 0]) ∧
        ∃ sv' rv', LD w' base gl gd gs gm sv' rv' { L with stream := L.stream ++ recL kind n bs, nrec := L.nrec + 1 } D ∧ Fr (lT gl sv rv) w w' ∧ Nx w sv sv' ∧ Nx w rv rv') ∧
      (¬ L.stream.length + (n + 2) ≤ L.count * 498 → e = .returned (.tuple #[.int .i64 0, .int .i64 90]) ∧ LD w' base gl gd gs gm sv rv L D ∧ Below w.heap.size w w') := by
  have hgl := h.glt
  have hv : (.int .u8 (kind : Int) : Value) = u8 (UInt8.ofNat kind) := by simp [u8]; omega
  have HV := hid hv
  have hkw : IntKind.u8.wrap (kind : Int) = (kind : Int) := by simp [IntKind.wrap, IntKind.bits, IntKind.signed]; omega
  have d1 : decide ((kind : Int) < 1) = false := by simp; omega
  have d2 : decide ((255 : Int) < (kind : Int)) = false := by simp; omega
  have d3 : decide ((1200 : Int) < (n : Int)) = false := by simp; omega
  have H : Aside (LD w base gl gd gs gm sv rv L D ∧ L.wf ∧ L.old = false ∧ L.dead = false ∧ L.nrec ≤ 1099511627776 ∧ gl < w.heap.size ∧ bs.length = n) := ⟨h, hw, hold, hd, hnr, hgl, hR.1⟩
  have HR : Aside (∀ W, Below w.heap.size w W → RdB W A n bs) := ⟨fun W hB => hR.below hB⟩
  have hbase : base ≤ w.heap.size := by have := h.log.2.1; omega
  have HAP := hid hap
  clear h hw hold hd hR hnr hv hk1 hgl hap
  go_enter Tryz.func10, Tryz.ntmps10
  go_wp2_with fail
  obtain ⟨W0, hW0⟩ : ∃ W0, w.alloc (.cells #[.int .u8 (kind : Int)] 5) = W0 := ⟨_, rfl⟩
  have hb0 : Below w.heap.size w W0 := by rw [← hW0]; exact bl_alloc (Below.refl _ _) _
  have hY0 : Byt W0 w.heap.size [UInt8.ofNat kind] := by
    rw [← hW0, HV.out]; exact Byt.new w [UInt8.ofNat kind]
  rw [hW0]
  have HW0 : Aside (Below w.heap.size w W0 ∧ Byt W0 w.heap.size [UInt8.ofNat kind]) := ⟨hb0, hY0⟩
  clear hW0 hb0 hY0
  refine (putText_small A n c bs W0 (HR.out _ HW0.out.1) hn).mono ?_
  rintro e w1 ⟨A1, cap1, rfl, hown1, hb1⟩
  have hlt0 := HW0.out.2.lt
  have H1 : Aside (Below w.heap.size w w1 ∧ w1.ownsRow w.heap.size 5 1 (.slice (some ⟨w.heap.size, 0, none⟩) 1 1) 1 ([UInt8.ofNat kind].map u8) ∧ RdB w1 A1 (1 + n) (UInt8.ofNat n :: bs)) :=
    ⟨HW0.out.1.trans (hb1.mono HW0.out.1.size), (HW0.out.2.below hb1 hlt0).own (Nat.le_refl _) (by simp [maxLen]), RdB.of_own hown1⟩
  clear hown1 hb1 hlt0
  obtain ⟨m, hm⟩ : ∃ m, 1 + (1 + n) = m := ⟨_, rfl⟩
  go_wp2_with (
    (with_reducible refine wpList_app_bytes (o := ⟨some 15, _, _, _, _, _⟩) rfl (.tmp 12) (.tmp 14) rfl w.heap.size (.slice (some ⟨w.heap.size, 0, none⟩) 1 1) 1 [UInt8.ofNat kind] rfl H1.out.2.1 A1 (1 + n) cap1 (UInt8.ofNat n :: bs) rfl H1.out.2.2 ?_ ?_ ?_)
    · omega
    · exact H1.out.1.size
    intro A2 cap2 w2 ho2 hg2 _
    rw [hm] at ho2
    try rw [hm]
    have hb2 := H1.out.1.trans (grown_below hg2 H1.out.2.1 H1.out.1.size)
    have H2 : Aside (Below w.heap.size w w2 ∧ RdB w2 A2 m (recL kind n bs) ∧ LD w2 base gl gd gs gm sv rv L D) := ⟨hb2, RdB.of_own ho2, H.out.1.below hb2⟩
    have c8 := H2.out.2.2.log.cells.2.2.2.2.2.2.2.2.1
    have c9 := H2.out.2.2.log.cells.2.2.2.2.2.2.2.2.2
    rw [H.out.2.2.1] at c8
    rw [H.out.2.2.2.1] at c9
    clear ho2 hg2 hb2)
  refine (lroom_any base gl gd sv rv L w2 H2.out.2.2.log H.out.2.1).mono ?_
  rintro e w3 ⟨rfl, hb3⟩
  have hb03 := H2.out.1.trans (hb3.mono H2.out.1.size)
  have H3 : Aside (Below w.heap.size w w3 ∧ RdB w3 A2 m (recL kind n bs) ∧ LD w3 base gl gd gs gm sv rv L D) := ⟨hb03, H2.out.2.1.below hb3, H2.out.2.2.below hb3⟩
  clear hb3 hb03 H1 H2 HW0 c8 c9
  obtain ⟨sl, hsl⟩ : ∃ sl, L.stream.length = sl := ⟨_, rfl⟩
  obtain ⟨R, hRr⟩ : ∃ R, L.count * 498 - L.stream.length = R := ⟨_, rfl⟩
  have hlen := H.out.2.1.len
  have hcnt := H.out.2.1.count
  rw [hRr]
  by_cases hfull : L.stream.length + (n + 2) ≤ L.count * 498
  · have dR : decide ((R : Int) < (m : Int)) = false := by simp; omega
    have dR2 : decide (R < m) = false := by simp; omega
    have hlsl : sl ≤ 2039808 := by omega
    have hml : m ≤ 129 := by omega
    have HZ : Aside (L.stream.length = sl ∧ L.stream.length + (n + 2) ≤ L.count * 498 ∧ 1 + (1 + n) = m) := ⟨hsl, hfull, hm⟩
    clear hRr hlen hcnt hfull hsl hm
    go_wp2_with fail
    refine (lend_any base gl gd sv rv L w3 H3.out.2.2.log H.out.2.1).mono ?_
    rintro e w' ⟨rfl, rfl⟩
    obtain ⟨AS, capS, rfl, -⟩ := H3.out.2.2.log.form
    rw [HZ.out.1]
    have c5 := H3.out.2.2.log.cells.2.2.2.2.2.1
    rw [HZ.out.1] at c5
    obtain ⟨AT, hAT⟩ : ∃ AT, L.lsn sl = AT := ⟨_, rfl⟩
    rw [hAT]
    have hAT := hid hAT
    go_wp2_with (
      (with_reducible refine wpList_app_bytes (o := ⟨some 51, _, _, _, _, _⟩) rfl (.tmp 49) (.tmp 50) rfl base (.slice AS sl capS) sl L.stream rfl ?_ A2 m cap2 (recL kind n bs) rfl H3.out.2.1 ?_ ?_ ?_)
      · rw [← HZ.out.1]; exact H3.out.2.2.log.2.2.1
      · omega
      · have := H3.out.1.size; omega
      intro A5 cap5 w5 ho5 hg5 hat5
      have hl5 : (L.stream ++ recL kind n bs).length = sl + m := by rw [List.length_append, HZ.out.1, ← HZ.out.2.2]; simp [recL, H.out.2.2.2.2.2.2]; omega
      have hst5 := H3.out.2.2.log.streamed (sv' := .slice A5 (sl + m) cap5) (st := L.stream ++ recL kind n bs) (by rw [hl5]; exact ho5) (by rw [HZ.out.1]; exact hg5)
      have hb5 : Blk w5 gl 89 (lgCells gd L.first L.count L.run L.most (.slice AS L.stream.length capS) L.safe rv L.old L.dead) := (hg5.block gl H3.out.2.2.log.lt (fun e => (own_ty H3.out.2.2.log.2.2.1 (by rw [HZ.out.1]; exact e.symm)).ne H3.out.2.2.log.1.ty (by decide))).trans H3.out.2.2.log.1
      have c55 := hb5.cell 5
      have f55 := hb5.frozen 5
      simp [lgCells] at c55
      have H5 : Aside (LogAt (w5.setCell ⟨gl, 5, none⟩ (.slice A5 (sl + m) cap5)) base gl gd (.slice A5 (sl + m) cap5) rv { L with stream := L.stream ++ recL kind n bs } ∧ Fr (lT gl (.slice AS L.stream.length capS) rv) w3 (w5.setCell ⟨gl, 5, none⟩ (.slice A5 (sl + m) cap5)) ∧
        ((Value.slice A5 (sl + m) cap5).ownBlock = (Value.slice AS sl capS).ownBlock ∨ (Value.slice A5 (sl + m) cap5).ownBlock = some w3.heap.size)) := ⟨hst5.1, hst5.2, hat5⟩
      clear ho5 hg5 hat5 hst5 hb5)
    obtain ⟨i1, capr, rfl⟩ := own_form_n H3.out.2.2.log.2.2.2.choose_spec
    obtain ⟨w6, hw6⟩ : ∃ w6, w5.setCell ⟨gl, 5, none⟩ (.slice A5 (sl + m) cap5) = w6 := ⟨_, rfl⟩
    rw [hw6] at H5 ⊢
    clear hw6 c55 f55 c5
    obtain ⟨k, hk⟩ : ∃ k, L.nrec = k := ⟨_, rfl⟩
    have c7 := H5.out.1.cells.2.2.2.2.2.2.2.1
    have f7 := H5.out.1.1.frozen 7
    obtain ⟨xs, hx⟩ := H5.out.1.2.2.2
    have hx : w6.ownsRow base 91 3 (.slice i1 L.nrec capr) L.nrec xs := hx
    rw [hk] at c7 hx
    have hne : some gl ≠ (Value.slice i1 k capr).ownBlock := H5.out.1.1.own_ne hx (by decide)
    have hgl6 := H5.out.1.lt
    have hz6 : w.heap.size ≤ w6.heap.size := Nat.le_trans H3.out.1.size H5.out.2.1.size
    have hkl : k ≤ 1099511627776 := by rw [← hk]; exact H.out.2.2.2.2.1
    have HX : Aside (w6.ownsRow base 91 3 (.slice i1 k capr) k xs ∧ L.nrec = k ∧ some gl ≠ (Value.slice i1 k capr).ownBlock) := ⟨hx, hk, hne⟩
    have HRb : Aside (∀ W, Below w6.heap.size w6 W → RdB W A n bs) := ⟨fun W hW => ((HR.out w3 H3.out.1).fr H5.out.2.1 (fun b o h0 e => HAP.out b o h0 e)).below hW⟩
    clear hx hk hne
    obtain ⟨i0, hi0, hz0, hz1, hz2⟩ := info_parts infoRec
    have tok1 : True := trivial
    have HE : Aside (∀ args w, (callFunc 47 args).run Tryz.prog w = .ok (.enter 47 args) w) := ⟨enters_of Tryz.func47 (by kernel_rfl) rfl⟩
    go_region_law (first
      | (have _t := tok1
         (refine step_call1 (o := ⟨some 62, _, _, _, _, _⟩) 47 (by rfl) _ _ (by rfl) HE.out (.slice A n c) (by go_simp) (clone_any A n c bs _ ?_ ?_) ?_)
         · exact HRb.out _ (by repeat (first | exact Below.refl _ _ | refine bl_drew ?_))
         · omega
         rintro e w7 ⟨u, rfl, hown7, hb7⟩
         obtain ⟨ua, uc, rfl, hy1, hy2, hy3⟩ := own_form hown7
         clear hy1 hy2 hy3
         replace hb7 : Below w6.heap.size w6 w7 := ⟨hb7.os, hb7.tape, hb7.output, hb7.size, hb7.block⟩
         have c77 := ((bcell hb7).1 gl 7 hgl6).trans c7
         have hz7 : w6.heap.size ≤ w7.heap.size := hb7.size
         have hgl7 : gl < w7.heap.size := by omega
         have c7a := (cell?_keep_alloc w7 gl 7 hgl7 (.cells #[.int .i64 AT, .int .i64 (kind : Int), .slice ua n uc] 91)).trans c77
         have Q7 : Aside (Below w6.heap.size w6 w7) := ⟨hb7⟩
         clear hown7 hb7 tok1
         refine ⟨_, rfl, ?_⟩)
      | (have _t := Q7
         (refine step_append_lies (o := ⟨some 65, _, _, _, _, _⟩) _ (by rfl) (.tmp 58) (.tmp 64) 83 (by rfl) base 91 i0 _ 3 40 Tryz.underlying83 hi0 hz0 hz1 hz2 rfl (by omega) (.slice i1 k capr) k xs (by go_simp) ?_ ⟨w7.heap.size, 0, none⟩ 1 1 [.int .i64 AT, .int .i64 (kind : Int), .slice ua n uc] (by go_simp) (by rfl) ?_ ?_ (by omega) ?_ (by omega) ?_ (w7.heap.size + 1) ?_ ?_)
         · exact own_drewN0 ((own_fr HX.out.1 (Fr.of_below Q7.out (fun _ => False)) (fun _ _ h => h)).alloc _)
         · exact news_blk (cs := #[_, _, _]) (t := 91) (fr := (0, 0)) (alloc_new w7 _)
         · simp [Value.oneCell']
         · unfold maxLen; omega
         · show base ≤ (w7.alloc _).heap.size
           rw [World.size_alloc]; omega
         · show (w7.alloc _).heap.size = _
           rw [World.size_alloc]
         intro g8 cap8 w8 hown8 hgrow8 hat8 hlt8
         have hg8 : w7.grownBy w8 (Value.slice i1 k capr).ownBlock := only_trans (World.grownBy_alloc w7 _ _) ⟨hgrow8.os, hgrow8.tape, hgrow8.output, hgrow8.size, hgrow8.block⟩
         have hbG : w8.heap[gl]? = w6.heap[gl]? := (hg8.block gl hgl7 HX.out.2.2).trans (Q7.out.block gl hgl6)
         have c78 := (World.cell?_of_block (w := w6) (a := ⟨gl, 7, none⟩) hbG).trans c7
         have f78 := (World.frozen?_of_block (w := w6) (a := ⟨gl, 7, none⟩) hbG).trans f7
         have Q8 : Aside (w8.ownsRow base 91 3 (.slice (some ⟨g8, 0, none⟩) (k + 1) cap8) (k + 1) (xs ++ [.int .i64 AT, .int .i64 (kind : Int), .slice ua n uc]) ∧ w7.grownBy w8 (Value.slice i1 k capr).ownBlock ∧ ((Value.slice i1 k capr).ownBlock = some g8 ∨ g8 = w7.heap.size + 1)) := ⟨hown8, hg8, hat8⟩
         clear hown8 hgrow8 hg8 hbG hat8))
    all_goals go_wp2_with fail
    all_goals go_ret2
    all_goals
      have q2 := Q8.out.2.1
      have q3 := Q8.out.2.2
      have q5 := H5.out.2.2
      rw [show (Value.slice i1 k capr).ownBlock = (Value.slice i1 L.nrec capr).ownBlock by rw [HX.out.2.1]] at q2 q3
      rw [show (Value.slice AS sl capS).ownBlock = (Value.slice AS L.stream.length capS).ownBlock by rw [HZ.out.1]] at q5
      obtain ⟨hLr, hFr⟩ := (H5.out.1.below Q7.out).recorded Q8.out.1 q2
      have hld := (((H3.out.2.2.onLog H5.out.2.1 H5.out.1).below Q7.out).onLog hFr hLr)
      have hlt := HZ.out.2.1
      refine ⟨fun _ => ⟨?_, .slice A5 (sl + m) cap5, .slice (some ⟨g8, 0, none⟩) (k + 1) cap8, ?_, ?_, ?_, ?_⟩, fun h => absurd hlt (by omega)⟩
      · rw [HZ.out.1, hAT.out]; rfl
      · rw [HX.out.2.1]; exact hld
      · have h1 : Fr (lT gl (.slice AS L.stream.length capS) (.slice i1 L.nrec capr)) w w6 := (Fr.of_below H3.out.1 _).trans H5.out.2.1 (fun _ _ h => h)
        have h2 := h1.trans (Fr.of_below Q7.out (fun _ => False)) (fun _ _ h => h.elim)
        refine h2.trans hFr ?_
        rintro b hb (e | e | e)
        · exact .inl e
        · rcases q5 with h | h
          · rw [h] at e; exact .inr (.inl e)
          · rw [h] at e; injection e with e; have := H3.out.1.size; omega
        · exact .inr (.inr e)
      · intro b e
        rcases q5 with h | h
        · rw [h] at e; exact .inl e
        · rw [h] at e; injection e with e; have := H3.out.1.size; exact .inr (by omega)
      · intro b e
        have e' : g8 = b := by injection e
        rcases q3 with h | h
        · rw [← e']; exact .inl h
        · exact .inr (by omega)
  · have dR : decide ((R : Int) < (m : Int)) = true := by simp; omega
    have dR2 : decide (R < m) = true := by simp; omega
    clear hRr hlen hcnt
    go_wp2_with fail
    go_ret2
    exact ⟨fun h => absurd h hfull, fun _ => ⟨rfl, H3.out.2.2, H3.out.1⟩⟩
end Go.Proofs.YthfidlhefkjpdaaGreatDoor
