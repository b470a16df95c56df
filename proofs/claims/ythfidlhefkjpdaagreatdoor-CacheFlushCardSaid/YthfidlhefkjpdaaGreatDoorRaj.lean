/- cache.New, cache.parse, the pool's step.
   cache.write.
   cache.victim.
   cache.free.
   cache.room where a frame is still to be had. -/
import Derived.Test.YthfidlhefkjpdaaGreatDoorRai
import Derived.Test.YthfidlhefkjpdaaGreatDoorRad
namespace Go.Proofs.YthfidlhefkjpdaaGreatDoor
open Go.RowKit

set_option maxRecDepth 100000 in
theorem cnew_any (base gl gd gs gm : Nat) (sv rv : Value) (L : Lg) (D : Dk) (pbase count : Nat) (frames : Int) (w : World) (h : LD w base gl gd gs gm sv rv L D) (hbase : base ≤ w.heap.size) (most : Nat) (hm : (most : Int) = min (max frames 1) 64) :
    Calls Tryz.prog 43 #[.pointer (some ⟨gd, 0, none⟩), .pointer (some ⟨gl, 0, none⟩), .int .i64 (pbase : Int), .int .i64 (count : Int), .int .i64 frames] w fun e w' => ∃ a : Ad, e = .returned (.pointer (some ⟨a.gp, 0, none⟩)) ∧
      PSt w' a ⟨pbase, count, most, [], fun _ => none, fun _ => none, 0, false, false⟩ L D ∧ a.base = base ∧ a.gl = gl ∧ a.gd = gd ∧ a.gs = gs ∧ a.gm = gm ∧ a.sv = sv ∧ a.rv = rv ∧ a.pb = w.heap.size ∧ a.bk = [] ∧ a.ma = 0 ∧ a.mn = 0 ∧ Below w.heap.size w w' := by
  have hgl := h.glt
  have HL := hid h
  clear h
  obtain ⟨x, hx⟩ : ∃ x : Int, max frames 1 = x := ⟨_, rfl⟩
  rw [hx] at hm
  have hmax : ∀ (a b : TypeId) (W : World), (Builtin.max_ #[a, b] 3 #[.int .i64 frames, .int .i64 1]).run Tryz.prog W = .ok (.int .i64 x) W := by
    intro a b W
    simp [Builtin.max_, Builtin.max2]
    split <;> omega
  have hmin : ∀ (a b : TypeId) (W : World), (Builtin.min_ #[a, b] 3 #[.int .i64 x, .int .i64 64]).run Tryz.prog W = .ok (.int .i64 (most : Int)) W := by
    intro a b W
    simp [Builtin.min_, Builtin.min2]
    split <;> omega
  clear hx hm
  have hmm := @run_makeMap Tryz.prog
  go_enter Tryz.func43, Tryz.ntmps43
  go_wp2_with fail
  go_ret
  obtain ⟨W1, hW1⟩ : ∃ W1, w.alloc (.map #[] 0) = W1 := ⟨_, rfl⟩
  obtain ⟨W2, hW2⟩ : ∃ W2, W1.alloc (.map #[] 0) = W2 := ⟨_, rfl⟩
  have z1 : W1.heap.size = w.heap.size + 1 := by rw [← hW1]; simp
  have z2 : W2.heap.size = w.heap.size + 2 := by rw [← hW2]; simp [z1]
  have m1 : MapAt Tryz.prog 3 W1 w.heap.size 0 (fun _ => none) := by rw [← hW1]; exact MapAt.made _ _ _
  have m2 : MapAt Tryz.prog 3 W2 (w.heap.size + 1) 0 (fun _ => none) := by rw [← hW2, ← z1]; exact MapAt.made _ _ _
  have m12 : MapAt Tryz.prog 3 W2 w.heap.size 0 (fun _ => none) := by rw [← hW2]; exact m1.alloc _
  have b2 : Below w.heap.size w W2 := by rw [← hW2, ← hW1]; exact bl_alloc (bl_alloc (Below.refl _ _) _) _
  rw [hW1, hW2]
  clear hW1 hW2
  refine ⟨⟨base, gl, gd, gs, gm, sv, rv, w.heap.size, w.heap.size + 2, w.heap.size, w.heap.size + 1, .slice none 0 0, [], 0, 0⟩, rfl, ⟨?_, ⟨?_, World.ownsRow_nil _ _ _ _, rfl, fun i hi => absurd hi (by simp), List.nodup_nil, m12.alloc _, m2.alloc _, ?_, ?_, ?_, ?_⟩, hbase, hgl⟩, rfl, rfl, rfl, rfl, rfl, rfl, rfl, rfl, rfl, rfl, rfl, bl_alloc b2 _⟩
  · exact HL.out.below (bl_alloc b2 _)
  · have := alloc_new W2 (.cells #[.pointer (some ⟨gd, 0, none⟩), .pointer (some ⟨gl, 0, none⟩), .int .i64 (pbase : Int), .int .i64 (count : Int), .int .i64 (most : Int), .slice none 0 0, .map (some w.heap.size), .map (some (w.heap.size + 1)), .int .i64 0, .bool false, .bool false] 105)
    rw [z2] at this
    exact this
  · show w.heap.size ≤ w.heap.size + 2; omega
  · show w.heap.size ≤ w.heap.size; omega
  · show w.heap.size ≤ w.heap.size + 1; omega
  · show w.heap.size ≠ w.heap.size + 1; omega

def pageOf (bs : List UInt8) : Option Pg := if allZ bs then some ⟨0, 0, 0, []⟩ else parseP bs

set_option maxRecDepth 100000 in
theorem cparse_ok (A : Option Addr) (c : Nat) (bs : List UInt8) (p : Pg) (w : World) (hR : RdB w A 512 bs) (hc : 512 ≤ c) (hc2 : c ≤ 9223372036854775807) (hp : pageOf bs = some p) :
    Calls Tryz.prog 91 #[.slice A 512 c] w fun e w' => ∃ g, e = .returned (.tuple #[.pointer (some ⟨g, 0, none⟩), .int .i64 0]) ∧ PageAt w' w.heap.size g p ∧ Below w.heap.size w w' := by
  have HR : Aside (∀ W, Below w.heap.size w W → RdB W A 512 bs) := ⟨fun W hW => hR.below hW⟩
  have HP := hid hp
  cases hz : allZ bs with
  | true =>
    have hp' : (⟨0, 0, 0, []⟩ : Pg) = p := by
      unfold pageOf at hp
      rw [if_pos hz] at hp
      exact Option.some.inj hp
    clear hR hp HP
    go_enter Tryz.func91, Tryz.ntmps91
    go_wp2_with fail
    refine (trim_any A 512 c bs w (HR.out _ (Below.refl _ _)) hc (by omega)).mono ?_
    rintro e w1 ⟨A', k', c', rfl, hk', hb1⟩
    rw [hz] at hk'
    simp only [decide_eq_true_eq] at hk'
    subst hk'
    have HB := hid hb1
    clear hb1
    go_wp2_with fail
    refine (pageNew_any 0 0 w1 (by omega) (by omega)).mono ?_
    rintro e w2 ⟨rfl, hP, hb2⟩
    have H2 : Aside (PageAt w2 w.heap.size w1.heap.size p ∧ Below w.heap.size w w2) := by
      refine ⟨?_, HB.out.trans (hb2.mono HB.out.size)⟩
      rw [← hp']
      obtain ⟨q1, v, vs, q2, q3, q4⟩ := hP
      exact ⟨HB.out.size, v, vs, q2, own_mono q3 HB.out.size, q4.mono HB.out.size⟩
    clear hP hb2
    go_wp2_with fail
    go_ret2
    exact ⟨_, rfl, H2.out.1, H2.out.2⟩
  | false =>
    have hp' : parseP bs = some p := by
      unfold pageOf at hp
      rw [hz] at hp
      exact hp
    clear hR hp HP
    go_enter Tryz.func91, Tryz.ntmps91
    go_wp2_with fail
    refine (trim_any A 512 c bs w (HR.out _ (Below.refl _ _)) hc (by omega)).mono ?_
    rintro e w1 ⟨A', k', c', rfl, hk', hb1⟩
    rw [hz] at hk'
    have hk2 : ((k' : Int) == 0) = false := by
      simp only [decide_eq_false_iff_not] at hk'
      simp; omega
    have HB := hid hb1
    clear hb1 hk'
    go_wp2_with fail
    refine (parse_ok A c bs p w1 (HR.out _ HB.out) hc hc2 hp').mono ?_
    rintro e w2 ⟨g, rfl, hP, hb2⟩
    have H2 : Aside (PageAt w2 w.heap.size g p ∧ Below w.heap.size w w2) := by
      refine ⟨?_, HB.out.trans (hb2.mono HB.out.size)⟩
      obtain ⟨q1, v, vs, q2, q3, q4⟩ := hP
      exact ⟨Nat.le_trans HB.out.size q1, v, vs, q2, own_mono q3 HB.out.size, q4.mono HB.out.size⟩
    clear hP hb2
    go_wp2_with fail
    go_ret2
    exact ⟨_, rfl, H2.out.1, H2.out.2⟩

set_option maxRecDepth 100000 in
theorem pstep_any (a : Ad) (P : Pl) (L : Lg) (D : Dk) (x : Int) (w : World) (h : PSt w a P L D) :
    Calls Tryz.prog 53 #[.pointer (some ⟨a.gp, 0, none⟩), .int .i64 x] w fun e w' => e = .returned (.int .i64 x) ∧ PSt w' a { P with dead := P.dead || !decide (x = 0) } L D ∧ Fr (· = a.gp) w w' := by
  have c10 := h.pool.blk.cell 10
  have f10 := h.pool.blk.frozen 10
  simp [plCells] at c10
  have K : Hid (∀ b : Bool, PSt (w.setCell ⟨a.gp, 10, none⟩ (.bool b)) a { P with dead := b } L D ∧ Fr (· = a.gp) w (w.setCell ⟨a.gp, 10, none⟩ (.bool b))) := by
    intro b
    obtain ⟨h1, h2⟩ := h.pool.setCell_ (P' := { P with dead := b }) 10 (.bool b) (by simp [plCells]) rfl rfl rfl
    exact ⟨h.onPool0 (h2.mono fun _ _ e => .inl e) h1, h2⟩
  obtain ⟨d, hd⟩ : ∃ d, P.dead = d := ⟨_, rfl⟩
  rw [hd] at c10 ⊢
  have hd := hid hd
  clear h
  have hb : (x == 0) = decide (x = 0) := by rw [Bool.eq_iff_iff]; simp
  cases hx : decide (x = 0) with
  | true =>
    rw [hx] at hb
    have hbn : (x != 0) = false := by simp [bne, hb]
    cases d
    all_goals
      clear hx
      go_enter Tryz.func53, Tryz.ntmps53
      go_wp2_with fail
      go_ret
      first | exact ⟨rfl, K.out _⟩ | (rw [hbn]; exact ⟨rfl, K.out _⟩)
  | false =>
    rw [hx] at hb
    have hbn : (x != 0) = true := by simp [bne, hb]
    cases d
    all_goals
      clear hx
      go_enter Tryz.func53, Tryz.ntmps53
      go_wp2_with fail
      go_ret
      first | exact ⟨rfl, K.out _⟩ | (rw [hbn]; exact ⟨rfl, K.out _⟩)
end Go.Proofs.YthfidlhefkjpdaaGreatDoor

namespace Go.Proofs.YthfidlhefkjpdaaGreatDoor
open Go.RowKit

theorem pstep_ok (a : Ad) (P : Pl) (L : Lg) (D : Dk) (w : World) (h : PSt w a P L D) (hd : P.dead = false) :
    Calls Tryz.prog 53 #[.pointer (some ⟨a.gp, 0, none⟩), .int .i64 0] w fun e w' => e = .returned (.int .i64 0) ∧ PSt w' a P L D ∧ Fr (· = a.gp) w w' := by
  refine (pstep_any a P L D 0 w h).mono ?_
  rintro e w' ⟨rfl, hP, hF⟩
  have e : ({ P with dead := P.dead || !decide ((0 : Int) = 0) } : Pl) = P := by
    have : (P.dead || !decide ((0 : Int) = 0)) = P.dead := by simp
    rw [this]
  rw [e] at hP
  exact ⟨rfl, hP, hF⟩

/-- What disk, log and pool must be for a call that is not refused. -/
structure Ok (P : Pl) (L : Lg) (D : Dk) : Prop where
  lw : L.wf
  ld : L.dead = false
  dw : D.wf
  dp : D.plan = []
  doff : D.off = false
  lf : L.first + L.count ≤ D.sec.length
  pd : P.dead = false
  pb : P.base + P.count ≤ D.sec.length
  st : D.steps + 8192 ≤ 1152921504606846976

def wrL (L : Lg) (f : Frm) : Lg := if L.lsn L.safe ≤ f.lsn then { L with safe := L.stream.length } else L
def wrD (D : Dk) (L : Lg) (f : Frm) (base : Nat) : Dk := (if L.lsn L.safe ≤ f.lsn then D.lflush L else D).write (base + f.n.toNat) f.bytes
def wrP (P : Pl) (i : Nat) (f : Frm) : Pl := { P with frames := P.frames.set i { f with dirty := false }, loose := true }

theorem fr_aL {w w' : World} {a : Ad} (h : Fr (fun b => b = a.gl ∨ dT a.gd a.gs a.gm b) w w') : Fr (aL a) w w' := h.mono fun _ _ e => by
  rcases e with e | e
  · exact .inr (.inl e)
  · exact .inl e
theorem fr_aT1 {w w' : World} {a : Ad} (h : Fr (aL a) w w') : Fr (aT a) w w' := h.mono fun _ _ e => .inl e
theorem fr_aT2 {w w' : World} {a : Ad} (h : Fr (pT a) w w') : Fr (aT a) w w' := h.mono fun _ _ e => .inr e
theorem fr_gp {w w' : World} {a : Ad} (h : Fr (· = a.gp) w w') : Fr (pT a) w w' := h.mono fun _ _ e => .inl e
theorem fr_same {w w1 w2 : World} {T : Nat → Prop} (h : Fr T w w1) (k : Fr T w1 w2) : Fr T w w2 := h.trans k (fun _ _ h => h)

theorem FrmAt.cells {w : World} {pb b : Nat} {sv : Value} {f : Frm} (h : FrmAt w pb sv b f) : ∃ A cap, (f.bytes.length ≤ cap ∧ cap ≤ maxLen) ∧ RdB w A f.bytes.length f.bytes ∧ Blk w b 96 (frmCells f (.slice A f.bytes.length cap)) := by
  obtain ⟨h1, bv, h2, h3, h4⟩ := h
  obtain ⟨A, cap, rfl, q1, q2, -⟩ := own_form h3
  exact ⟨A, cap, ⟨q1, q2⟩, RdB.of_own h3, h2⟩

/-- A cell of frame i is set, its bytes are as they were. -/
theorem PSt.frmCell {w : World} {a : Ad} {P : Pl} {L : Lg} {D : Dk} (h : PSt w a P L D) (i : Nat) (hi : i < P.frames.length) (f' : Frm) (j : Nat) (v : Value) (hb : f'.bytes = P.frames[i].bytes)
    (hc : ∀ bv, (frmCells P.frames[i] bv).setIfInBounds j v = frmCells f' bv) : PSt (w.setCell ⟨a.bk.getD i 0, j, none⟩ v) a { P with frames := P.frames.set i f' } L D ∧ Fr (pT a) w (w.setCell ⟨a.bk.getD i 0, j, none⟩ v) := by
  have hil : i < a.bk.length := by rw [h.pool.blen]; exact hi
  have hF : Fr (· = a.bk.getD i 0) w (w.setCell ⟨a.bk.getD i 0, j, none⟩ v) := (Fr.refl (· = a.bk.getD i 0) w).set (p := ⟨a.bk.getD i 0, j, none⟩) (.inl rfl) v
  obtain ⟨h1, bv, h2, h3, h4⟩ := h.pool.each i hi
  have hf : FrmAt (w.setCell ⟨a.bk.getD i 0, j, none⟩ v) a.pb a.sv (a.bk.getD i 0) f' := by
    refine ⟨h1, bv, ?_, ?_, h4⟩
    · have := h2.set_ j v
      rw [hc] at this
      exact this
    · rw [hb]
      exact own_fr h3 hF (fun b hb e => by rw [e] at hb; exact (own_ty h3 hb).ne h2.ty (by decide))
  have hFp : Fr (pT a) w (w.setCell ⟨a.bk.getD i 0, j, none⟩ v) := hF.mono fun _ _ e => by rw [e]; exact .inr (.inr (.inl (bk_mem hil)))
  exact ⟨h.onPool0 hFp (h.pool.setFrm i hi hF f' hf), hFp⟩

theorem PSt.logLike {w : World} {a : Ad} {P : Pl} {L : Lg} {D : Dk} (h : PSt w a P L D) : PSt w { a with sv := a.sv, rv := a.rv } P L D := h

set_option maxRecDepth 100000 in
set_option maxHeartbeats 2000000 in
theorem cwrite_any (a : Ad) (P : Pl) (L : Lg) (D : Dk) (i : Nat) (w : World) (h : PSt w a P L D) (ho : Ok P L D) (hi : i < P.frames.length) (hn0 : 0 ≤ P.frames[i].n) (hn1 : P.frames[i].n < P.count) (hb : P.frames[i].bytes.length ≤ 512) :
    Calls Tryz.prog 52 #[.pointer (some ⟨a.gp, 0, none⟩), .pointer (some ⟨a.bk.getD i 0, 0, none⟩)] w fun e w' => e = .returned (.int .i64 0) ∧
      PSt w' a (wrP P i P.frames[i]) (wrL L P.frames[i]) (wrD D L P.frames[i] P.base) ∧ Fr (aT a) w w' := by
  obtain ⟨f, hf⟩ : ∃ f, P.frames[i] = f := ⟨_, rfl⟩
  rw [hf] at hn0 hn1 hb ⊢
  obtain ⟨N, hN⟩ : ∃ N : Nat, f.n = (N : Int) := ⟨f.n.toNat, by omega⟩
  obtain ⟨G, hG⟩ : ∃ G, P.base + N = G := ⟨_, rfl⟩
  obtain ⟨bi, hbi⟩ : ∃ bi, a.bk.getD i 0 = bi := ⟨_, rfl⟩
  rw [hbi]
  have hGl : G < D.sec.length := by have := ho.pb; omega
  have hDn := ho.dw.n
  have hGw : IntKind.i64.wrap ((P.base : Int) + (N : Int)) = (G : Int) := by rw [wrap_nat (by omega) (by omega)]; omega
  have H : Aside (PSt w a P L D ∧ Ok P L D ∧ P.frames[i] = f ∧ f.n = (N : Int) ∧ P.base + N = G ∧ a.bk.getD i 0 = bi ∧ G < D.sec.length) := ⟨h, ho, hf, hN, hG, hbi, hGl⟩
  have cP := fun j => h.pool.blk.cell j
  have c1 := cP 1
  simp [plCells] at c1
  have hfa := h.pool.each i hi
  rw [hbi, hf] at hfa
  obtain ⟨A, cap, ⟨hcap, hcm⟩, hRd, hBk⟩ := hfa.cells
  have k2 := hBk.cell 2
  simp [frmCells] at k2
  obtain ⟨S, hS⟩ : ∃ S, L.lsn L.safe = S := ⟨_, rfl⟩
  have HS := hid hS
  clear hRd hBk hfa cP hf hN hG hbi h ho hcap hcm hS
  go_enter Tryz.func52, Tryz.ntmps52
  go_wp2_with fail
  have hlt := H.out.1.pool.blk.lt
  have hbl : bi < w.heap.size := H.out.1.pool.lt (.inr (.inr (.inl (by rw [← H.out.2.2.2.2.2.1]; exact bk_mem (by rw [H.out.1.pool.blen]; exact hi)))))
  go_region_held3 (fun w' => w'.cell? ⟨a.gp, 1, none⟩ = some (.pointer (some ⟨a.gl, 0, none⟩)) ∧ w'.cell? ⟨bi, 2, none⟩ = some (.int .i64 f.lsn))
    (exact ⟨c1, k2⟩)
    ((go_at_call 38
      (with_reducible refine Calls.mono (lsafe_any a.base a.gl a.gd a.sv a.rv L _ ?_ H.out.2.1.lw) ?_)
      · exact H.out.1.ld.log.below (by repeat (first | exact Below.refl _ _ | refine bl_drew ?_))
      rintro e w2 ⟨rfl, rfl⟩))
  rw [HS.out]
  by_cases hS : S ≤ f.lsn
  · have dS : decide (S ≤ f.lsn) = true := by simpa using hS
    rw [dS]
    obtain ⟨wA, hwA⟩ : ∃ wA, w.drew = wA := ⟨_, rfl⟩
    have hbA : Below w.heap.size w wA := by rw [← hwA]; exact bl_drew (Below.refl _ _)
    rw [hwA]
    clear hwA
    have hA : PSt wA a P L D := H.out.1.below hbA
    have c1A := hA.pool.blk.cell 1
    simp [plCells] at c1A
    have HA : Aside (PSt wA a P L D ∧ Below w.heap.size w wA) := ⟨hA, hbA⟩
    clear hA hbA
    go_wp2_with fail
    refine (lflush_any a.base a.gl a.gd a.gs a.gm a.sv a.rv L D wA HA.out.1.ld H.out.2.1.lw H.out.2.1.ld H.out.2.1.dw H.out.2.1.dp H.out.2.1.doff H.out.2.1.lf (by have := H.out.2.1.st; omega)).mono ?_
    rintro e wB ⟨rfl, hB, hFB⟩
    have HB : Aside (PSt wB a P { L with safe := L.stream.length } (D.lflush L) ∧ Fr (aT a) w wB) := ⟨HA.out.1.onLD (fr_aL hFB) (Nx.refl _ _) hB, (Fr.of_below HA.out.2 _).trans (fr_aT1 (fr_aL hFB)) (fun _ _ h => h)⟩
    clear hB hFB c1A
    go_wp2_with fail
    refine (pstep_ok a P _ _ wB HB.out.1 H.out.2.1.pd).mono ?_
    rintro e wX ⟨rfl, hX, hFX⟩
    obtain ⟨D1, hD1⟩ : ∃ D1, D.lflush L = D1 := ⟨_, rfl⟩
    have HX : Aside (PSt wX a P (wrL L f) D1 ∧ Fr (aT a) w wX ∧ DkNext D D1 L.first (L.first + L.count) (L.count + 1) ∧ wrD D L f P.base = D1.write G f.bytes) := by
      have hn : L.lsn L.safe ≤ f.lsn := by rw [HS.out]; exact hS
      refine ⟨?_, fr_same HB.out.2 (fr_aT2 (fr_gp hFX)), ?_, ?_⟩
      · rw [wrL, if_pos hn, ← hD1]; exact hX
      · rw [← hD1]; exact lflush_next H.out.2.1.dw H.out.2.1.dp H.out.2.1.doff H.out.2.1.lw H.out.2.1.lf (by have := H.out.2.1.st; omega)
      · rw [wrD, if_pos hn, hD1, H.out.2.2.2.1, ← H.out.2.2.2.2.1]; rfl
    clear hD1 hX hFX
    have cP := fun j => HX.out.1.pool.blk.cell j
    have c0 := cP 0
    have c2 := cP 2
    have f9 := HX.out.1.pool.blk.frozen 9
    have c9 := cP 9
    simp [plCells] at c0 c2 c9
    have hfa := HX.out.1.pool.each i hi
    rw [H.out.2.2.2.2.2.1, H.out.2.2.1] at hfa
    obtain ⟨A, cap, ⟨hcap, hcm⟩, hRd, hBk⟩ := hfa.cells
    have k0 := hBk.cell 0
    have k1 := hBk.cell 1
    simp [frmCells] at k0 k1
    rw [H.out.2.2.2.1] at k0
    obtain ⟨fb, hfb⟩ : ∃ fb, f.bytes = fb := ⟨_, rfl⟩
    obtain ⟨fl, hfl⟩ : ∃ fl, fb.length = fl := ⟨_, rfl⟩
    rw [hfb] at hRd k1 hb
    rw [hfl] at hRd k1 hb
    have HR : Aside (RdB wX A fl fb ∧ f.bytes = fb) := ⟨hRd, hfb⟩
    clear hRd hBk hfa cP hcap hfb hfl
    have hltX : a.gp < wX.heap.size := HX.out.1.pool.blk.lt
    have hblX : bi < wX.heap.size := HX.out.1.pool.lt (.inr (.inr (.inl (by rw [← H.out.2.2.2.2.2.1]; exact bk_mem (by rw [H.out.1.pool.blen]; exact hi)))))
    have q0 : ∀ W, Below wX.heap.size wX W → W.cell? ⟨a.gp, 0, none⟩ = some (.pointer (some ⟨a.gd, 0, none⟩)) ∧ W.cell? ⟨a.gp, 2, none⟩ = some (.int .i64 (P.base : Int)) ∧ W.cell? ⟨bi, 0, none⟩ = some (.int .i64 (N : Int)) ∧ W.cell? ⟨bi, 1, none⟩ = some (.slice A fl cap) := fun W hW => ⟨(hW.cell (p := ⟨a.gp, 0, none⟩) hltX).trans c0, (hW.cell (p := ⟨a.gp, 2, none⟩) hltX).trans c2, (hW.cell (p := ⟨bi, 0, none⟩) hblX).trans k0, (hW.cell (p := ⟨bi, 1, none⟩) hblX).trans k1⟩
    have q1 : ∀ W, Fr (fun b => b = a.gd ∨ b = a.gm) wX W ∨ Fr (fun b => b = a.gp) wX W → True := fun _ _ => trivial
    have Q0 := hid q0
    clear q0 q1
    go_wp2_with fail
    go_region_held3 (fun w' => w'.cell? ⟨a.gp, 0, none⟩ = some (.pointer (some ⟨a.gd, 0, none⟩)) ∧ w'.cell? ⟨a.gp, 2, none⟩ = some (.int .i64 (P.base : Int)) ∧ w'.cell? ⟨bi, 0, none⟩ = some (.int .i64 (N : Int)) ∧ w'.cell? ⟨bi, 1, none⟩ = some (.slice A fl cap))
      (first | exact ⟨c0, c2, k0, k1⟩ | exact R5.out.2.2 | exact R4.out.2.2)
      (first
       | (go_at_call 81
          (with_reducible refine Calls.mono (write_any a.gd a.gs a.gm D1 G fl cap A fb _ (HX.out.1.ld.disk.below (by repeat (first | exact Below.refl _ _ | refine bl_drew ?_))) HX.out.2.2.1.wf HX.out.2.2.1.plan HX.out.2.2.1.off (by rw [HX.out.2.2.1.len]; exact H.out.2.2.2.2.2.2) (HR.out.1.below (by repeat (first | exact Below.refl _ _ | refine bl_drew ?_))) hb) ?_)
          rintro e w4 ⟨rfl, hD4, hF4⟩
          have hF4' : Fr (aL a) wX w4 := ((Fr.refl _ _).drewN 1).trans (fr_aL ((fr_dT hF4).mono fun _ _ e => .inr e)) (fun _ _ h => h)
          have h4 : PSt w4 a P (wrL L f) (D1.write G fb) := HX.out.1.onLD hF4' (Nx.refl _ _) ((HX.out.1.ld.below (bl_drew (Below.refl _ _))).onDisk (fr_dT hF4) hD4)
          have e4 : w4.cell? ⟨a.gp, 0, none⟩ = some (.pointer (some ⟨a.gd, 0, none⟩)) ∧ w4.cell? ⟨a.gp, 2, none⟩ = some (.int .i64 (P.base : Int)) ∧ w4.cell? ⟨bi, 0, none⟩ = some (.int .i64 (N : Int)) ∧ w4.cell? ⟨bi, 1, none⟩ = some (.slice A fl cap) := by
            have hg : ¬ aL a a.gp := fun hl => HX.out.1.apart hl (.inl rfl)
            have hg2 : ¬ aL a bi := fun hl => HX.out.1.apart hl (.inr (.inr (.inl (by rw [← H.out.2.2.2.2.2.1]; exact bk_mem (by rw [H.out.1.pool.blen]; exact hi)))))
            exact ⟨(World.cell?_of_block (w := wX) (hF4'.block _ hltX hg)).trans c0, (World.cell?_of_block (w := wX) (hF4'.block _ hltX hg)).trans c2, (World.cell?_of_block (w := wX) (hF4'.block _ hblX hg2)).trans k0, (World.cell?_of_block (w := wX) (hF4'.block _ hblX hg2)).trans k1⟩
          have R4 : Aside (PSt w4 a P (wrL L f) (D1.write G fb) ∧ Fr (aT a) w w4 ∧ (w4.cell? ⟨a.gp, 0, none⟩ = some (.pointer (some ⟨a.gd, 0, none⟩)) ∧ w4.cell? ⟨a.gp, 2, none⟩ = some (.int .i64 (P.base : Int)) ∧ w4.cell? ⟨bi, 0, none⟩ = some (.int .i64 (N : Int)) ∧ w4.cell? ⟨bi, 1, none⟩ = some (.slice A fl cap))) := ⟨h4, fr_same HX.out.2.1 (fr_aT1 hF4'), e4⟩
          clear hD4 hF4 hF4' h4 e4)
       | (go_at_call 53
          (with_reducible refine Calls.mono (pstep_ok a P (wrL L f) (D1.write G fb) _ R4.out.1 H.out.2.1.pd) ?_)
          rintro e w5 ⟨rfl, h5, hF5⟩
          have e5 : w5.cell? ⟨a.gp, 0, none⟩ = some (.pointer (some ⟨a.gd, 0, none⟩)) ∧ w5.cell? ⟨a.gp, 2, none⟩ = some (.int .i64 (P.base : Int)) ∧ w5.cell? ⟨bi, 0, none⟩ = some (.int .i64 (N : Int)) ∧ w5.cell? ⟨bi, 1, none⟩ = some (.slice A fl cap) := by
            have z0 := h5.pool.blk.cell 0
            have z2 := h5.pool.blk.cell 2
            simp [plCells] at z0 z2
            have hne : ¬ bi = a.gp := fun e => by
              obtain ⟨_, _, hB, _⟩ := R4.out.1.pool.each i hi
              rw [H.out.2.2.2.2.2.1, e] at hB
              exact hB.ty.ne R4.out.1.pool.blk.ty (by decide)
            have hlt4 : bi < w4.heap.size := by have := R4.out.2.1.size; omega
            exact ⟨z0, z2, (World.cell?_of_block (w := w4) (hF5.block _ hlt4 hne)).trans R4.out.2.2.2.2.1, (World.cell?_of_block (w := w4) (hF5.block _ hlt4 hne)).trans R4.out.2.2.2.2.2⟩
          have R5 : Aside (PSt w5 a P (wrL L f) (D1.write G fb) ∧ Fr (aT a) w w5 ∧ (w5.cell? ⟨a.gp, 0, none⟩ = some (.pointer (some ⟨a.gd, 0, none⟩)) ∧ w5.cell? ⟨a.gp, 2, none⟩ = some (.int .i64 (P.base : Int)) ∧ w5.cell? ⟨bi, 0, none⟩ = some (.int .i64 (N : Int)) ∧ w5.cell? ⟨bi, 1, none⟩ = some (.slice A fl cap))) := ⟨h5, fr_same R4.out.2.1 (fr_aT2 (fr_gp hF5)), e5⟩
          clear h5 hF5 e5))
    have z9 := R5.out.1.pool.blk.cell 9
    have y9 := R5.out.1.pool.blk.frozen 9
    simp [plCells] at z9
    obtain ⟨_, _, _, hRd5, hBk5⟩ := (R5.out.1.pool.each i hi).cells
    rw [H.out.2.2.2.2.2.1] at hBk5
    have z3 := hBk5.cell 3
    have y3 := hBk5.frozen 3
    simp [frmCells] at z3
    clear hRd5 hBk5
    go_wp2_with fail
    go_ret
    have h6 := R5.out.1.frmCell i hi { P.frames[i] with dirty := false } 3 (.bool false) rfl (fun bv => by simp [frmCells])
    rw [H.out.2.2.2.2.2.1, H.out.2.2.1] at h6
    obtain ⟨h7, hF7⟩ := h6.1.pool.setCell_ (P' := wrP P i f) 9 (.bool true) (by simp [plCells, wrP]) rfl rfl rfl
    refine ⟨rfl, ?_, fr_same (fr_same R5.out.2.1 (fr_aT2 h6.2)) (fr_aT2 (fr_gp hF7))⟩
    rw [HX.out.2.2.2, HR.out.2]
    exact h6.1.onPool0 (fr_gp hF7) h7
  · have dS : decide (S ≤ f.lsn) = false := by simpa using hS
    rw [dS]
    obtain ⟨wX, hwX⟩ : ∃ wX, w.drew = wX := ⟨_, rfl⟩
    have hbX : Below w.heap.size w wX := by rw [← hwX]; exact bl_drew (Below.refl _ _)
    rw [hwX]
    clear hwX
    obtain ⟨D1, hD1⟩ : ∃ D1, D = D1 := ⟨_, rfl⟩
    have HX : Aside (PSt wX a P (wrL L f) D1 ∧ Fr (aT a) w wX ∧ DkNext D D1 L.first (L.first + L.count) (L.count + 1) ∧ wrD D L f P.base = D1.write G f.bytes) := by
      have hn : ¬ L.lsn L.safe ≤ f.lsn := by rw [HS.out]; exact hS
      refine ⟨?_, Fr.of_below hbX _, ?_, ?_⟩
      · rw [wrL, if_neg hn, ← hD1]; exact H.out.1.below hbX
      · rw [← hD1]; exact ⟨rfl, H.out.2.1.dp, H.out.2.1.doff, H.out.2.1.dw, by omega, by omega, fun _ _ _ => rfl⟩
      · rw [wrD, if_neg hn, hD1, H.out.2.2.2.1, ← H.out.2.2.2.2.1]; rfl
    clear hD1 hbX
    have cP := fun j => HX.out.1.pool.blk.cell j
    have c0 := cP 0
    have c2 := cP 2
    have f9 := HX.out.1.pool.blk.frozen 9
    have c9 := cP 9
    simp [plCells] at c0 c2 c9
    have hfa := HX.out.1.pool.each i hi
    rw [H.out.2.2.2.2.2.1, H.out.2.2.1] at hfa
    obtain ⟨A, cap, ⟨hcap, hcm⟩, hRd, hBk⟩ := hfa.cells
    have k0 := hBk.cell 0
    have k1 := hBk.cell 1
    simp [frmCells] at k0 k1
    rw [H.out.2.2.2.1] at k0
    obtain ⟨fb, hfb⟩ : ∃ fb, f.bytes = fb := ⟨_, rfl⟩
    obtain ⟨fl, hfl⟩ : ∃ fl, fb.length = fl := ⟨_, rfl⟩
    rw [hfb] at hRd k1 hb
    rw [hfl] at hRd k1 hb
    have HR : Aside (RdB wX A fl fb ∧ f.bytes = fb) := ⟨hRd, hfb⟩
    clear hRd hBk hfa cP hcap hfb hfl
    have hltX : a.gp < wX.heap.size := HX.out.1.pool.blk.lt
    have hblX : bi < wX.heap.size := HX.out.1.pool.lt (.inr (.inr (.inl (by rw [← H.out.2.2.2.2.2.1]; exact bk_mem (by rw [H.out.1.pool.blen]; exact hi)))))
    have q0 : ∀ W, Below wX.heap.size wX W → W.cell? ⟨a.gp, 0, none⟩ = some (.pointer (some ⟨a.gd, 0, none⟩)) ∧ W.cell? ⟨a.gp, 2, none⟩ = some (.int .i64 (P.base : Int)) ∧ W.cell? ⟨bi, 0, none⟩ = some (.int .i64 (N : Int)) ∧ W.cell? ⟨bi, 1, none⟩ = some (.slice A fl cap) := fun W hW => ⟨(hW.cell (p := ⟨a.gp, 0, none⟩) hltX).trans c0, (hW.cell (p := ⟨a.gp, 2, none⟩) hltX).trans c2, (hW.cell (p := ⟨bi, 0, none⟩) hblX).trans k0, (hW.cell (p := ⟨bi, 1, none⟩) hblX).trans k1⟩
    have q1 : ∀ W, Fr (fun b => b = a.gd ∨ b = a.gm) wX W ∨ Fr (fun b => b = a.gp) wX W → True := fun _ _ => trivial
    have Q0 := hid q0
    clear q0 q1
    go_wp2_with fail
    go_region_held3 (fun w' => w'.cell? ⟨a.gp, 0, none⟩ = some (.pointer (some ⟨a.gd, 0, none⟩)) ∧ w'.cell? ⟨a.gp, 2, none⟩ = some (.int .i64 (P.base : Int)) ∧ w'.cell? ⟨bi, 0, none⟩ = some (.int .i64 (N : Int)) ∧ w'.cell? ⟨bi, 1, none⟩ = some (.slice A fl cap))
      (first | exact ⟨c0, c2, k0, k1⟩ | exact R5.out.2.2 | exact R4.out.2.2)
      (first
       | (go_at_call 81
          (with_reducible refine Calls.mono (write_any a.gd a.gs a.gm D1 G fl cap A fb _ (HX.out.1.ld.disk.below (by repeat (first | exact Below.refl _ _ | refine bl_drew ?_))) HX.out.2.2.1.wf HX.out.2.2.1.plan HX.out.2.2.1.off (by rw [HX.out.2.2.1.len]; exact H.out.2.2.2.2.2.2) (HR.out.1.below (by repeat (first | exact Below.refl _ _ | refine bl_drew ?_))) hb) ?_)
          rintro e w4 ⟨rfl, hD4, hF4⟩
          have hF4' : Fr (aL a) wX w4 := ((Fr.refl _ _).drewN 1).trans (fr_aL ((fr_dT hF4).mono fun _ _ e => .inr e)) (fun _ _ h => h)
          have h4 : PSt w4 a P (wrL L f) (D1.write G fb) := HX.out.1.onLD hF4' (Nx.refl _ _) ((HX.out.1.ld.below (bl_drew (Below.refl _ _))).onDisk (fr_dT hF4) hD4)
          have e4 : w4.cell? ⟨a.gp, 0, none⟩ = some (.pointer (some ⟨a.gd, 0, none⟩)) ∧ w4.cell? ⟨a.gp, 2, none⟩ = some (.int .i64 (P.base : Int)) ∧ w4.cell? ⟨bi, 0, none⟩ = some (.int .i64 (N : Int)) ∧ w4.cell? ⟨bi, 1, none⟩ = some (.slice A fl cap) := by
            have hg : ¬ aL a a.gp := fun hl => HX.out.1.apart hl (.inl rfl)
            have hg2 : ¬ aL a bi := fun hl => HX.out.1.apart hl (.inr (.inr (.inl (by rw [← H.out.2.2.2.2.2.1]; exact bk_mem (by rw [H.out.1.pool.blen]; exact hi)))))
            exact ⟨(World.cell?_of_block (w := wX) (hF4'.block _ hltX hg)).trans c0, (World.cell?_of_block (w := wX) (hF4'.block _ hltX hg)).trans c2, (World.cell?_of_block (w := wX) (hF4'.block _ hblX hg2)).trans k0, (World.cell?_of_block (w := wX) (hF4'.block _ hblX hg2)).trans k1⟩
          have R4 : Aside (PSt w4 a P (wrL L f) (D1.write G fb) ∧ Fr (aT a) w w4 ∧ (w4.cell? ⟨a.gp, 0, none⟩ = some (.pointer (some ⟨a.gd, 0, none⟩)) ∧ w4.cell? ⟨a.gp, 2, none⟩ = some (.int .i64 (P.base : Int)) ∧ w4.cell? ⟨bi, 0, none⟩ = some (.int .i64 (N : Int)) ∧ w4.cell? ⟨bi, 1, none⟩ = some (.slice A fl cap))) := ⟨h4, fr_same HX.out.2.1 (fr_aT1 hF4'), e4⟩
          clear hD4 hF4 hF4' h4 e4)
       | (go_at_call 53
          (with_reducible refine Calls.mono (pstep_ok a P (wrL L f) (D1.write G fb) _ R4.out.1 H.out.2.1.pd) ?_)
          rintro e w5 ⟨rfl, h5, hF5⟩
          have e5 : w5.cell? ⟨a.gp, 0, none⟩ = some (.pointer (some ⟨a.gd, 0, none⟩)) ∧ w5.cell? ⟨a.gp, 2, none⟩ = some (.int .i64 (P.base : Int)) ∧ w5.cell? ⟨bi, 0, none⟩ = some (.int .i64 (N : Int)) ∧ w5.cell? ⟨bi, 1, none⟩ = some (.slice A fl cap) := by
            have z0 := h5.pool.blk.cell 0
            have z2 := h5.pool.blk.cell 2
            simp [plCells] at z0 z2
            have hne : ¬ bi = a.gp := fun e => by
              obtain ⟨_, _, hB, _⟩ := R4.out.1.pool.each i hi
              rw [H.out.2.2.2.2.2.1, e] at hB
              exact hB.ty.ne R4.out.1.pool.blk.ty (by decide)
            have hlt4 : bi < w4.heap.size := by have := R4.out.2.1.size; omega
            exact ⟨z0, z2, (World.cell?_of_block (w := w4) (hF5.block _ hlt4 hne)).trans R4.out.2.2.2.2.1, (World.cell?_of_block (w := w4) (hF5.block _ hlt4 hne)).trans R4.out.2.2.2.2.2⟩
          have R5 : Aside (PSt w5 a P (wrL L f) (D1.write G fb) ∧ Fr (aT a) w w5 ∧ (w5.cell? ⟨a.gp, 0, none⟩ = some (.pointer (some ⟨a.gd, 0, none⟩)) ∧ w5.cell? ⟨a.gp, 2, none⟩ = some (.int .i64 (P.base : Int)) ∧ w5.cell? ⟨bi, 0, none⟩ = some (.int .i64 (N : Int)) ∧ w5.cell? ⟨bi, 1, none⟩ = some (.slice A fl cap))) := ⟨h5, fr_same R4.out.2.1 (fr_aT2 (fr_gp hF5)), e5⟩
          clear h5 hF5 e5))
    have z9 := R5.out.1.pool.blk.cell 9
    have y9 := R5.out.1.pool.blk.frozen 9
    simp [plCells] at z9
    obtain ⟨_, _, _, hRd5, hBk5⟩ := (R5.out.1.pool.each i hi).cells
    rw [H.out.2.2.2.2.2.1] at hBk5
    have z3 := hBk5.cell 3
    have y3 := hBk5.frozen 3
    simp [frmCells] at z3
    clear hRd5 hBk5
    go_wp2_with fail
    go_ret
    have h6 := R5.out.1.frmCell i hi { P.frames[i] with dirty := false } 3 (.bool false) rfl (fun bv => by simp [frmCells])
    rw [H.out.2.2.2.2.2.1, H.out.2.2.1] at h6
    obtain ⟨h7, hF7⟩ := h6.1.pool.setCell_ (P' := wrP P i f) 9 (.bool true) (by simp [plCells, wrP]) rfl rfl rfl
    refine ⟨rfl, ?_, fr_same (fr_same R5.out.2.1 (fr_aT2 h6.2)) (fr_aT2 (fr_gp hF7))⟩
    rw [HX.out.2.2.2, HR.out.2]
    exact h6.1.onPool0 (fr_gp hF7) h7
end Go.Proofs.YthfidlhefkjpdaaGreatDoor

namespace Go.Proofs.YthfidlhefkjpdaaGreatDoor
open Go.RowKit

def vict (pins : Int → Option Int) : Nat → List Frm → Nat → Option Nat × List Frm × Nat
  | 0, fs, h => (none, fs, h)
  | k + 1, fs, h => match fs[h]? with
    | none => (none, fs, h)
    | some f =>
      if 0 < (pins f.n).getD 0 then vict pins k fs ((h + 1) % fs.length)
      else if f.used = true then vict pins k (fs.set h { f with used := false }) ((h + 1) % fs.length)
      else (some h, fs, (h + 1) % fs.length)

theorem pin_look {w : World} {b n : Nat} {pins : Int → Option Int} (h : MapAt Tryz.prog 3 w b n (pinV pins)) (k : Int) (hk : wf64 k) (W : World) (hW : W.heap[b]? = w.heap[b]?) :
    (Instr.lookup 103 (.map (some b)) (.int .i64 k) false).run Tryz.prog W = .ok (.int .i64 ((pins k).getD 0)) W := by
  have := (h.block hW).look (t := 103) (e := 3) Tryz.underlying3 Tryz.underlying103 (z := .int .i64 0) (by kernel_rfl) hk
  rw [this]
  unfold pinV
  cases pins k <;> rfl

theorem PoolAt.ptr {w : World} {a : Ad} {P : Pl} (h : PoolAt w a P) {gf n fcap : Nat} (hfv : a.fv = .slice (some ⟨gf, 0, none⟩) n fcap) (hn : P.frames.length = n) (i : Nat) (hi : i < n) :
    w.cell? ⟨gf, i, none⟩ = some (.pointer (some ⟨a.bk.getD i 0, 0, none⟩)) := by
  have hr := h.row
  rw [hfv] at hr
  obtain ⟨A', cap', e', -, -, hA⟩ := own_form hr
  injection e' with e1 e2 e3
  obtain ⟨g', e4, _, _, hc⟩ := hA (by omega)
  rw [← e1] at e4
  injection e4 with e4
  injection e4 with e4
  subst e4
  rw [hc i (by omega)]
  have hbl : i < a.bk.length := by rw [h.blen, hn]; exact hi
  simp only [ptrs, List.getElem?_map, List.getElem?_eq_getElem hbl, Option.map_some]
  rw [List.getD_eq_getElem?_getD, List.getElem?_eq_getElem hbl]
  rfl
theorem PoolAt.frame {w : World} {a : Ad} {P : Pl} (h : PoolAt w a P) {i : Nat} {f : Frm} {bi : Nat} (hi : P.frames[i]? = some f) (hb : a.bk.getD i 0 = bi) : FrmAt w a.pb a.sv bi f := by
  obtain ⟨hl, e⟩ := List.getElem?_eq_some_iff.1 hi
  have := h.each i hl
  rw [e, hb] at this
  exact this

set_option maxRecDepth 100000 in
set_option maxHeartbeats 2000000 in
theorem cvictim_any (a : Ad) (P : Pl) (L : Lg) (D : Dk) (n : Nat) (w : World) (h : PSt w a P L D) (hn : P.frames.length = n) (hn0 : 0 < n) (hn1 : n ≤ 64) (hh : P.hand < n) (hwf : ∀ f ∈ P.frames, wf64 f.n) :
    Calls Tryz.prog 127 #[.pointer (some ⟨a.gp, 0, none⟩)] w fun e w' => e = .returned (match (vict P.pins (2 * n) P.frames P.hand).1 with | none => .pointer none | some i => .pointer (some ⟨a.bk.getD i 0, 0, none⟩)) ∧
      PSt w' a { P with frames := (vict P.pins (2 * n) P.frames P.hand).2.1, hand := (vict P.pins (2 * n) P.frames P.hand).2.2 } L D ∧ Fr (pT a) w w' := by
  obtain ⟨R, hR⟩ : ∃ R, vict P.pins (2 * n) P.frames P.hand = R := ⟨_, rfl⟩
  rw [hR]
  obtain ⟨rvl, hrvl⟩ : ∃ rvl : Value, (match R.1 with | none => .pointer none | some i => .pointer (some ⟨a.bk.getD i 0, 0, none⟩)) = rvl := ⟨_, rfl⟩
  rw [hrvl]
  have HRV := hid hrvl
  obtain ⟨fA, fcap, hfv, hfc, hfm, hfr⟩ := own_form h.pool.row
  obtain ⟨gf, rfl, hgf1, hgf2, -⟩ := hfr (by omega)
  rw [hn] at hfv hfc
  have H : Aside (PSt w a P L D ∧ P.frames.length = n ∧ a.fv = .slice (some ⟨gf, 0, none⟩) n fcap ∧ (∀ f ∈ P.frames, wf64 f.n)) := ⟨h, hn, hfv, hwf⟩
  have c5 := h.pool.blk.cell 5
  simp [plCells] at c5
  rw [hfv] at c5
  have h2n : IntKind.i64.wrap (2 * (n : Int)) = ((2 * n : Nat) : Int) := by rw [wrap_nat (by omega) (by omega)]; omega
  obtain ⟨N2, hN2⟩ : ∃ N2, 2 * n = N2 := ⟨_, rfl⟩
  rw [hN2] at hR h2n
  have HR := hid hR
  have hN2l : N2 ≤ 128 := by omega
  clear h hn hfv hwf hR hrvl hfr hN2
  go_enter Tryz.func127, Tryz.ntmps127
  go_wp2_with fail
  go_loopg [10] N2 (fun q i wr => ∃ k : Nat, k + q = N2 ∧ i = .int .i64 (k : Nat) ∧ Hid (∃ fs hd, PSt wr a { P with frames := fs, hand := hd } L D ∧ hd < n ∧ fs.length = n ∧ (∀ f ∈ fs, wf64 f.n) ∧ vict P.pins q fs hd = R ∧ Fr (pT a) w wr))
  case atStart => exact ⟨0, by omega, rfl, P.frames, P.hand, H.out.1, hh, H.out.2.1, H.out.2.2.2, HR.out, Fr.refl _ _⟩
  case round =>
    obtain ⟨k, hk, rfl, hI⟩ := hrel
    by_cases hlt : k < N2
    · obtain ⟨q, rfl⟩ : ∃ q, gk = q + 1 := ⟨gk - 1, by omega⟩
      obtain ⟨fs, hd, hP, hhd, hfl, hfw, hv, hF⟩ := hI.out
      have c5 := hP.pool.blk.cell 5
      have c8 := hP.pool.blk.cell 8
      have c7 := hP.pool.blk.cell 7
      have f8 := hP.pool.blk.frozen 8
      simp [plCells] at c5 c8 c7
      rw [H.out.2.2.1] at c5
      obtain ⟨f, hfi⟩ : ∃ f, fs[hd]? = some f := ⟨_, List.getElem?_eq_getElem (by omega)⟩
      obtain ⟨bi, hbi⟩ : ∃ bi, a.bk.getD hd 0 = bi := ⟨_, rfl⟩
      have hrow : wr.cell? ⟨gf, hd, none⟩ = some (.pointer (some ⟨bi, 0, none⟩)) := by
        rw [← hbi]; exact hP.pool.ptr H.out.2.2.1 hfl hd hhd
      have hFa : FrmAt wr a.pb a.sv bi f := hP.pool.frame hfi hbi
      obtain ⟨_, _, _, _, hBk⟩ := hFa.cells
      have k0 := hBk.cell 0
      have k5 := hBk.cell 5
      have y5 := hBk.frozen 5
      simp [frmCells] at k0 k5
      have HI : Aside (PSt wr a { P with frames := fs, hand := hd } L D ∧ hd < n ∧ fs.length = n ∧ (∀ f ∈ fs, wf64 f.n) ∧ vict P.pins (q + 1) fs hd = R ∧ Fr (pT a) w wr ∧ fs[hd]? = some f ∧ a.bk.getD hd 0 = bi) := ⟨hP, hhd, hfl, hfw, hv, hF, hfi, hbi⟩
      clear hI hP hfl hfw hv hF hfi hbi hFa hBk
      go_wp2_with fail
      go_region_held3 (fun w' => w'.cell? ⟨a.gp, 5, none⟩ = some (.slice (some ⟨gf, 0, none⟩) n fcap) ∧ w'.cell? ⟨a.gp, 8, none⟩ = some (.int .i64 (hd : Int)) ∧ w'.cell? ⟨gf, hd, none⟩ = some (.pointer (some ⟨bi, 0, none⟩))) (exact ⟨c5, c8, hrow⟩) (fail)
      obtain ⟨w1, hw1⟩ : ∃ w1, wr.drew = w1 := ⟨_, rfl⟩
      have HI1 : Aside (PSt w1 a { P with frames := fs, hand := hd } L D ∧ Fr (pT a) w w1) := by
        rw [← hw1]; exact ⟨HI.out.1.below (bl_drew (Below.refl _ _)), HI.out.2.2.2.2.2.1.drew⟩
      replace c5 : w1.cell? ⟨a.gp, 5, none⟩ = some (.slice (some ⟨gf, 0, none⟩) n fcap) := by rw [← hw1]; exact c5
      replace c8 : w1.cell? ⟨a.gp, 8, none⟩ = some (.int .i64 (hd : Int)) := by rw [← hw1]; exact c8
      replace f8 : w1.frozen? ⟨a.gp, 8, none⟩ = false := by rw [← hw1]; exact f8
      have hd1w : IntKind.i64.wrap ((hd : Int) + 1) = ((hd + 1 : Nat) : Int) := by rw [wrap_nat (by omega) (by omega)]; omega
      have hremI : Int.tmod ((hd + 1 : Nat) : Int) (n : Int) = (((hd + 1) % n : Nat) : Int) := by rw [Int.tmod_eq_emod_of_nonneg (by omega)]; omega
      have hrw : IntKind.i64.wrap (((hd + 1) % n : Nat) : Int) = (((hd + 1) % n : Nat) : Int) := by
        have := Nat.mod_lt (hd + 1) hn0
        exact wrap_nat (by omega) (by omega)
      obtain ⟨h1, hh1⟩ : ∃ h1, (hd + 1) % n = h1 := ⟨_, rfl⟩
      obtain ⟨e1, he1⟩ : ∃ e1, hd + 1 = e1 := ⟨_, rfl⟩
      rw [hh1] at hremI hrw
      rw [he1] at hd1w hremI
      have HH : Aside ((hd + 1) % n = h1 ∧ h1 < n) := ⟨hh1, by rw [← hh1]; exact Nat.mod_lt _ hn0⟩
      have hnz : ((n : Int) == 0) = false := by simp; omega
      have hnz3 : ¬ n = 0 := by omega
      rw [hw1]
      clear hw1 hh1 he1 hrow c7
      go_wp2_with fail
      have c5d : w1.drew.cell? ⟨a.gp, 5, none⟩ = some (.slice (some ⟨gf, 0, none⟩) n fcap) := c5
      have c8d : w1.drew.cell? ⟨a.gp, 8, none⟩ = some (.int .i64 (hd : Int)) := c8
      have f8d : w1.drew.frozen? ⟨a.gp, 8, none⟩ = false := f8
      go_region_law (fail)
      all_goals go_wp2_with fail
      all_goals
        obtain ⟨w2, hw2⟩ : ∃ w2, (w1.setCell ⟨a.gp, 8, none⟩ (.int .i64 (h1 : Int))).drew = w2 := ⟨_, rfl⟩
        obtain ⟨hp2, hF2⟩ := HI1.out.1.pool.setCell_ (P' := { P with frames := fs, hand := h1 }) 8 (.int .i64 (h1 : Int)) (by simp [plCells]) rfl rfl rfl
        have hPS2 : PSt w2 a { P with frames := fs, hand := h1 } L D := by rw [← hw2]; exact (HI1.out.1.onPool0 (fr_gp hF2) hp2).below (bl_drew (Below.refl _ _))
        have hFr2 : Fr (pT a) w w2 := by rw [← hw2]; exact (fr_same HI1.out.2 (fr_gp hF2)).drew
        rw [hw2]
        clear hw2 hp2 hF2
        have c7 := hPS2.pool.blk.cell 7
        simp [plCells] at c7
        have hFa : FrmAt w2 a.pb a.sv bi f := hPS2.pool.frame HI.out.2.2.2.2.2.2.1 HI.out.2.2.2.2.2.2.2
        obtain ⟨_, _, _, _, hBk⟩ := hFa.cells
        have k0' := hBk.cell 0
        have k5' := hBk.cell 5
        have y5' := hBk.frozen 5
        simp [frmCells] at k0' k5'
        have hfm : f ∈ fs := List.mem_of_getElem? HI.out.2.2.2.2.2.2.1
        have hlook := pin_look hPS2.pool.pin f.n (HI.out.2.2.2.1 f hfm) w2.drew rfl
        obtain ⟨px, hpx⟩ : ∃ px, (P.pins f.n).getD 0 = px := ⟨_, rfl⟩
        have hlook' : (Instr.lookup 103 (.map (some a.gn)) (.int .i64 f.n) false).run Tryz.prog w2.drew = .ok (.int .i64 px) w2.drew := by rw [← hpx]; exact hlook
        obtain ⟨fn, hfn⟩ : ∃ fn, f.n = fn := ⟨_, rfl⟩
        obtain ⟨fu, hfu⟩ : ∃ fu, f.used = fu := ⟨_, rfl⟩
        rw [hfn] at k0' hlook' hpx
        rw [hfu] at k5'
        have H2 : Aside (PSt w2 a { P with frames := fs, hand := h1 } L D ∧ Fr (pT a) w w2 ∧ f.n = fn ∧ f.used = fu ∧ (P.pins fn).getD 0 = px) := ⟨hPS2, hFr2, hfn, hfu, hpx⟩
        clear hPS2 hFr2 hfn hfu hpx hlook hBk hFa hfm k0 k5 y5
        go_region_held3 (fun w' => w'.cell? ⟨a.gp, 7, none⟩ = some (.map (some a.gn)) ∧ w'.cell? ⟨bi, 0, none⟩ = some (.int .i64 fn)) (exact ⟨c7, k0'⟩) (fail)
        obtain ⟨w3, hw3⟩ : ∃ w3, w2.drew = w3 := ⟨_, rfl⟩
        have H3 : Aside (PSt w3 a { P with frames := fs, hand := h1 } L D ∧ Fr (pT a) w w3) := by
          rw [← hw3]; exact ⟨H2.out.1.below (bl_drew (Below.refl _ _)), H2.out.2.1.drew⟩
        have k53 : w3.cell? ⟨bi, 5, none⟩ = some (.bool fu) := by rw [← hw3]; exact k5'
        have y53 : w3.frozen? ⟨bi, 5, none⟩ = false := by rw [← hw3]; exact y5'
        rw [hw3]
        clear hw3 k0' k5' y5' c7 hlook'
        have hv := HI.out.2.2.2.2.1
        simp only [vict, HI.out.2.2.2.2.2.2.1, HI.out.2.2.1, HH.out.1] at hv
        rw [H2.out.2.2.1, H2.out.2.2.2.2, H2.out.2.2.2.1] at hv
        have hhl := HI.out.2.1
        by_cases hpin : 0 < px
        · have dp : decide (0 < px) = true := by simpa using hpin
          rw [if_pos hpin] at hv
          have HV := hid hv
          clear hv hpin
          rw [dp]
          go_wp2_with fail
          go_roundg q
          case rel => exact ⟨k + 1, by omega, by go_num, fs, h1, H3.out.1, HH.out.2, HI.out.2.2.1, HI.out.2.2.2.1, HV.out, H3.out.2⟩
          case measure => omega
        · have dp : decide (0 < px) = false := by simpa using hpin
          rw [if_neg hpin] at hv
          rw [dp]
          clear hpin
          cases fu with
          | true =>
            rw [if_pos rfl] at hv
            have HV := hid hv
            clear hv
            go_wp2_with fail
            have h5 := H3.out.1.frmCell hd (by show hd < fs.length; rw [HI.out.2.2.1]; exact hhl) { f with used := false } 5 (.bool false) (by
              show f.bytes = (fs[hd]'_).bytes
              obtain ⟨_, e⟩ := List.getElem?_eq_some_iff.1 HI.out.2.2.2.2.2.2.1
              rw [e]) (fun bv => by
              obtain ⟨_, e⟩ := List.getElem?_eq_some_iff.1 HI.out.2.2.2.2.2.2.1
              show (frmCells (fs[hd]'_) bv).setIfInBounds 5 (.bool false) = _
              rw [e]; simp [frmCells])
            rw [HI.out.2.2.2.2.2.2.2] at h5
            go_roundg q
            case rel => exact ⟨k + 1, by omega, by go_num, fs.set hd { f with used := false }, h1, h5.1, HH.out.2, by rw [List.length_set]; exact HI.out.2.2.1, fun g hg => by
              rcases List.mem_or_eq_of_mem_set hg with h | h
              · exact HI.out.2.2.2.1 g h
              · rw [h]; exact HI.out.2.2.2.1 f (List.mem_of_getElem? HI.out.2.2.2.2.2.2.1), by rw [H2.out.2.2.1]; exact HV.out, fr_same H3.out.2 h5.2⟩
            case measure => omega
          | false =>
            rw [if_neg (by simp)] at hv
            have HV := hid hv
            clear hv
            go_wp2_with fail
            go_ret
            rw [← HRV.out, ← HV.out]
            refine ⟨?_, H3.out.1, H3.out.2⟩
            show Ending.returned (.pointer (some ⟨bi, 0, none⟩)) = Ending.returned (.pointer (some ⟨a.bk.getD hd 0, 0, none⟩))
            rw [HI.out.2.2.2.2.2.2.2]
    · obtain rfl : k = N2 := by omega
      obtain rfl : gk = 0 := by omega
      obtain ⟨fs, hd, hP, hhd, hfl, hfw, hv, hF⟩ := hI.out
      have H3 : Aside (PSt wr a { P with frames := fs, hand := hd } L D ∧ Fr (pT a) w wr ∧ (none, fs, hd) = R) := ⟨hP, hF, hv⟩
      clear hP hF hv hI hfl hfw
      go_wp2_with fail
      go_ret
      rw [← HRV.out, ← H3.out.2.2]
      exact ⟨rfl, H3.out.1, H3.out.2.1⟩
end Go.Proofs.YthfidlhefkjpdaaGreatDoor

namespace Go.Proofs.YthfidlhefkjpdaaGreatDoor
open Go.RowKit

/-- the first frame that holds nothing -/
def frees : List Frm → Nat → Option Nat
  | [], _ => none
  | f :: r, k => if f.n < 0 then some k else frees r (k + 1)
theorem frees_spec : ∀ (fs : List Frm) (k0 : Nat), (∀ f ∈ fs, 0 ≤ f.n) → frees fs k0 = none
  | [], _, _ => rfl
  | f :: r, k0, h => by
    rw [frees, if_neg (by have := h f (List.mem_cons_self ..); omega)]
    exact frees_spec r _ (fun g hg => h g (List.mem_cons_of_mem _ hg))
theorem frees_at (fs : List Frm) (k : Nat) (hk : k < fs.length) : frees (fs.drop k) k = if fs[k].n < 0 then some k else frees (fs.drop (k + 1)) (k + 1) := by
  rw [List.drop_eq_getElem_cons hk, frees]
theorem frees_lt : ∀ (fs : List Frm) (k0 i : Nat), frees fs k0 = some i → k0 ≤ i ∧ i < k0 + fs.length
  | [], _, _, h => by cases h
  | f :: r, k0, i, h => by
    rw [frees] at h
    split at h
    · injection h with h; subst h; simp
    · have := frees_lt r _ _ h
      simp only [List.length_cons]
      omega

theorem isfree_any (b : Nat) (n : Int) (w : World) (hc : w.cell? ⟨b, 0, none⟩ = some (.int .i64 n)) :
    Calls Tryz.prog 126 #[.pointer (some ⟨b, 0, none⟩)] w fun e w' => e = .returned (.bool (decide (n < 0))) ∧ w = w' := by
  go_enter Tryz.func126, Tryz.ntmps126
  go_wp2_with fail
  go_ret
  exact ⟨rfl, rfl⟩

set_option maxRecDepth 100000 in
set_option maxHeartbeats 1000000 in
theorem cindex_any (a : Ad) (P : Pl) (L : Lg) (D : Dk) (w : World) (h : PSt w a P L D) (hn1 : P.frames.length ≤ 64) :
    Calls Tryz.prog 125 #[a.fv, .func (.func 126) #[] #[]] w fun e w' => e = .returned (.int .i64 (match frees P.frames 0 with | none => -1 | some i => (i : Int))) ∧ w = w' := by
  obtain ⟨fA, fcap, hfv, hfc, hfm, hfr⟩ := own_form h.pool.row
  obtain ⟨n, hn⟩ : ∃ n, P.frames.length = n := ⟨_, rfl⟩
  rw [hn] at hfv hfc hn1 hfr
  obtain ⟨rvl, hrvl⟩ : ∃ rvl : Int, (match frees P.frames 0 with | none => (-1 : Int) | some i => (i : Int)) = rvl := ⟨_, rfl⟩
  rw [hrvl, hfv]
  have HRV := hid hrvl
  have H : Aside (PSt w a P L D ∧ P.frames.length = n ∧ a.fv = .slice fA n fcap ∧ (0 < n → ∃ g, fA = some ⟨g, 0, none⟩)) := ⟨h, hn, hfv, fun h0 => by obtain ⟨g, e, _⟩ := hfr h0; exact ⟨g, e⟩⟩
  clear h hn hfv hfr hrvl
  go_enter Tryz.func125, Tryz.ntmps125
  go_wp2_with fail
  go_loopg [8] n (fun q i wr => ∃ k : Nat, k + q = n ∧ i = .int .i64 (k : Nat) ∧ wr = w ∧ Hid ((match frees (P.frames.drop k) k with | none => (-1 : Int) | some i => (i : Int)) = rvl))
  case atStart => exact ⟨0, by omega, rfl, rfl, HRV.out⟩
  case round =>
    obtain ⟨k, hk, rfl, rfl, hI⟩ := hrel
    by_cases hlt : k < n
    · obtain ⟨gf, rfl⟩ := H.out.2.2.2 (by omega)
      have hrow := H.out.1.pool.ptr H.out.2.2.1 H.out.2.1 k hlt
      have hkl : k < P.frames.length := by rw [H.out.2.1]; exact hlt
      obtain ⟨_, _, _, _, hBk⟩ := (H.out.1.pool.each k hkl).cells
      obtain ⟨bi, hbi⟩ : ∃ bi, a.bk.getD k 0 = bi := ⟨_, rfl⟩
      rw [hbi] at hBk hrow
      have k0 := hBk.cell 0
      simp [frmCells] at k0
      obtain ⟨fn, hfn⟩ : ∃ fn, P.frames[k].n = fn := ⟨_, rfl⟩
      have hI' := hI.out
      rw [frees_at _ _ hkl] at hI'
      rw [hfn] at k0 hI'
      have hcl := isfree_any bi fn wr k0
      clear hI hBk hfn hbi
      by_cases hneg : fn < 0
      · have dn : decide (fn < 0) = true := by simpa using hneg
        rw [if_pos hneg] at hI'
        rw [dn] at hcl
        have HI := hid hI'
        clear hI' hneg
        go_wp2_with fail
        refine hcl.mono ?_
        rintro e w' ⟨rfl, rfl⟩
        go_wp2_with fail
        go_ret
        rw [← HI.out]
        exact ⟨rfl, rfl⟩
      · have dn : decide (fn < 0) = false := by simpa using hneg
        rw [if_neg hneg] at hI'
        rw [dn] at hcl
        have HI := hid hI'
        clear hI' hneg
        go_wp2_with fail
        refine hcl.mono ?_
        rintro e w' ⟨rfl, rfl⟩
        go_wp2_with fail
        go_roundg (n - 1 - k)
        case rel => exact ⟨k + 1, by omega, by go_num, rfl, HI.out⟩
        case measure => omega
    · obtain rfl : k = n := by omega
      have hI' := hI.out
      rw [List.drop_of_length_le (by rw [H.out.2.1]; omega)] at hI'
      have HI : Hid ((-1 : Int) = rvl) := hI'
      clear hI hI'
      go_wp2_with fail
      go_ret
      rw [← HI.out]
      exact ⟨rfl, rfl⟩

set_option maxRecDepth 100000 in
theorem cfree_any (a : Ad) (P : Pl) (L : Lg) (D : Dk) (w : World) (h : PSt w a P L D) (hn1 : P.frames.length ≤ 64) :
    Calls Tryz.prog 89 #[.pointer (some ⟨a.gp, 0, none⟩)] w fun e w' => e = .returned (match frees P.frames 0 with | none => .pointer none | some i => .pointer (some ⟨a.bk.getD i 0, 0, none⟩)) ∧ w = w' := by
  have hci := cindex_any a P L D w h hn1
  have c5 := h.pool.blk.cell 5
  simp [plCells] at c5
  obtain ⟨fA, fcap, hfv, hfc, hfm, hfr⟩ := own_form h.pool.row
  cases hfr2 : frees P.frames 0 with
  | none =>
    rw [hfr2] at hci
    rw [hfv] at c5 hci
    clear h hfr hfr2
    go_enter Tryz.func89, Tryz.ntmps89
    go_wp2_with fail
    refine hci.mono ?_
    rintro e w' ⟨rfl, rfl⟩
    go_wp2_with fail
    go_ret
    exact ⟨rfl, rfl⟩
  | some i =>
    rw [hfr2] at hci
    have hi := (frees_lt _ _ _ hfr2).2
    rw [Nat.zero_add] at hi
    obtain ⟨gf, rfl, -⟩ := hfr (by omega)
    have hrow := h.pool.ptr hfv rfl i hi
    rw [hfv] at c5 hci
    obtain ⟨bi, hbi⟩ : ∃ bi, a.bk.getD i 0 = bi := ⟨_, rfl⟩
    rw [hbi] at hrow
    show Calls Tryz.prog 89 _ w fun e w' => e = .returned (.pointer (some ⟨a.bk.getD i 0, 0, none⟩)) ∧ w = w'
    rw [hbi]
    obtain ⟨n, hn⟩ : ∃ n, P.frames.length = n := ⟨_, rfl⟩
    rw [hn] at hci c5 hi
    clear h hfr2 hbi hn hfr hfv hfc hn1
    go_enter Tryz.func89, Tryz.ntmps89
    go_wp2_with fail
    refine hci.mono ?_
    rintro e w' ⟨rfl, rfl⟩
    go_wp2_with fail
    go_ret
    exact ⟨rfl, rfl⟩
end Go.Proofs.YthfidlhefkjpdaaGreatDoor

namespace Go.Proofs.YthfidlhefkjpdaaGreatDoor
open Go.RowKit Go.Maps

theorem infoFr : (Tryz.prog.info? 94).map (fun i => (i.zero, i.size, i.bytes)) = some (some (.pointer none), 1, 8) := by kernel_rfl

def frm0 : Frm := ⟨-1, [], 0, false, 0, false⟩

theorem PoolAt.push {w wB wC : World} {a : Ad} {P : Pl} {b : Nat} {fv' : Value} (h : PoolAt w a P) (hat : ∀ k i, P.atm k = some i → i < P.frames.length) (hb : Below w.heap.size w wB) (hnew : FrmAt wB a.pb a.sv b frm0) (hbn : w.heap.size ≤ b)
    (hg : wB.grownBy wC a.fv.ownBlock) (ho : wC.ownsRow a.pb 94 1 fv' (P.frames.length + 1) (ptrs a.bk ++ [.pointer (some ⟨b, 0, none⟩)])) (hnx : Nx w a.fv fv') :
    PoolAt (wC.setCell ⟨a.gp, 5, none⟩ fv') { a with fv := fv', bk := a.bk ++ [b] } { P with frames := P.frames ++ [frm0] } ∧ Fr (pT a) w (wC.setCell ⟨a.gp, 5, none⟩ fv') := by
  have hB := h.below hb
  have hFC : Fr (fun x => a.fv.ownBlock = some x) wB wC := ⟨hg.os, hg.tape, hg.output, hg.size, fun x hx hn => hg.block x hx (fun e => hn e.symm)⟩
  have hne : ∀ x t, Ty wB x t → t ≠ 94 → ¬ a.fv.ownBlock = some x := fun x t hx ht e => hx.ne (own_ty hB.row e) ht
  have hnm : ∀ x n m, MapAt Tryz.prog 3 wB x n m → ¬ a.fv.ownBlock = some x := fun x n m hm e => map_ty hm (own_ty hB.row e)
  have hgp : Blk wC a.gp 105 (plCells a P) := hB.blk.fr hFC (hne _ _ hB.blk.ty (by decide))
  have hFD : Fr (· = a.gp) wC (wC.setCell ⟨a.gp, 5, none⟩ fv') := (Fr.refl (· = a.gp) wC).set (p := ⟨a.gp, 5, none⟩) (.inl rfl) fv'
  have hneg : ∀ x t, Ty wC x t → t ≠ 105 → ¬ x = a.gp := fun x t hx ht e => by subst e; exact hx.ne hgp.ty ht
  have hFF : Fr (pT a) w (wC.setCell ⟨a.gp, 5, none⟩ fv') := ((Fr.of_below hb (pT a)).trans (hFC.mono fun x _ e => .inr (.inl e)) (fun _ _ h => h)).trans (hFD.mono fun x _ e => .inl e) (fun _ _ h => h)
  have key : ∀ x f, FrmAt wB a.pb a.sv x f → FrmAt (wC.setCell ⟨a.gp, 5, none⟩ fv') a.pb a.sv x f := fun x f hf => by
    have h1 : FrmAt wC a.pb a.sv x f := hf.fr hFC (by obtain ⟨_, _, q, _⟩ := hf; exact hne _ _ q.ty (by decide)) (fun y hy _ => hne y _ hy (by decide))
    exact h1.fr hFD (by obtain ⟨_, _, q, _⟩ := h1; exact hneg _ _ q.ty (by decide)) (fun y hy _ => hneg y _ hy (by decide))
  have hatv : atV (a.bk ++ [b]) P.atm = atV a.bk P.atm := by
    funext k
    unfold atV
    cases hk : P.atm k with
    | none => rfl
    | some i =>
      have := hat k i hk
      rw [← h.blen] at this
      simp only [Option.map_some, List.getD_eq_getElem?_getD, List.getElem?_append_left this]
  have hma : MapAt Tryz.prog 3 wC a.ga a.ma (atV a.bk P.atm) := hB.atm.block (hFC.block _ hB.atm.lt (hnm _ _ _ hB.atm))
  have hmn : MapAt Tryz.prog 3 wC a.gn a.mn (pinV P.pins) := hB.pin.block (hFC.block _ hB.pin.lt (hnm _ _ _ hB.pin))
  refine ⟨⟨?_, ?_, by simp [h.blen], fun i hi => ?_, ?_, ?_, ?_, h.lp, h.la, h.ln, h.ne⟩, hFF⟩
  · have := hgp.set_ 5 fv'
    simpa [plCells] using this
  · have := own_fr ho hFD (fun x hx => hneg x _ (own_ty ho hx) (by decide))
    simpa [ptrs] using this
  · have hi' : i < P.frames.length + 1 := by simpa using hi
    by_cases hlt : i < P.frames.length
    · have e1 : (P.frames ++ [frm0])[i]'hi = P.frames[i] := List.getElem_append_left hlt
      have e2 : (a.bk ++ [b]).getD i 0 = a.bk.getD i 0 := by
        rw [List.getD_eq_getElem?_getD, List.getElem?_append_left (by rw [h.blen]; exact hlt), List.getD_eq_getElem?_getD]
      show FrmAt _ a.pb a.sv ((a.bk ++ [b]).getD i 0) ((P.frames ++ [frm0])[i]'hi)
      rw [e1, e2]
      exact key _ _ (hB.each i hlt)
    · obtain rfl : i = P.frames.length := by omega
      have e1 : (P.frames ++ [frm0])[P.frames.length]'hi = frm0 := by simp
      have e2 : (a.bk ++ [b]).getD P.frames.length 0 = b := by
        rw [← h.blen]; simp [List.getD_eq_getElem?_getD]
      show FrmAt _ a.pb a.sv ((a.bk ++ [b]).getD P.frames.length 0) ((P.frames ++ [frm0])[P.frames.length]'hi)
      rw [e1, e2]
      exact key _ _ hnew
  · refine List.nodup_append.2 ⟨h.nodup, List.nodup_cons.2 ⟨by simp, List.nodup_nil⟩, ?_⟩
    intro x hx y hy e
    simp only [List.mem_singleton] at hy
    subst hy e
    have := h.lt (.inr (.inr (.inl hx)))
    omega
  · show MapAt _ _ _ a.ga a.ma (atV (a.bk ++ [b]) P.atm)
    rw [hatv]
    exact hma.block (hFD.block _ hma.lt (fun e => map_ty hma (by rw [e]; exact hgp.ty)))
  · exact hmn.block (hFD.block _ hmn.lt (fun e => map_ty hmn (by rw [e]; exact hgp.ty)))

set_option maxRecDepth 100000 in
set_option maxHeartbeats 1000000 in
theorem croom_new (a : Ad) (P : Pl) (L : Lg) (D : Dk) (w : World) (h : PSt w a P L D) (hat : ∀ k i, P.atm k = some i → i < P.frames.length) (hlt : P.frames.length < P.most) (hm : P.most ≤ 64) :
    Calls Tryz.prog 90 #[.pointer (some ⟨a.gp, 0, none⟩)] w fun e w' => ∃ b fv', w.heap.size ≤ b ∧ e = .returned (.tuple #[.pointer (some ⟨b, 0, none⟩), .int .i64 0]) ∧
      PSt w' { a with fv := fv', bk := a.bk ++ [b] } { P with frames := P.frames ++ [frm0] } L D ∧ Fr (pT a) w w' ∧ Nx w a.fv fv' := by
  obtain ⟨i0, hi0, hz0, hz1, hz2⟩ := info_parts infoFr
  obtain ⟨fA, fcap, hfv, hfc, hfm, -⟩ := own_form h.pool.row
  obtain ⟨n, hn⟩ : ∃ n, P.frames.length = n := ⟨_, rfl⟩
  have c5 := h.pool.blk.cell 5
  have c4 := h.pool.blk.cell 4
  have f5 := h.pool.blk.frozen 5
  simp [plCells] at c5 c4
  rw [hn] at hfv hfc hlt
  have hrow := h.pool.row
  rw [hn, hfv] at hrow
  rw [hfv] at c5
  obtain ⟨mo, hmo⟩ : ∃ mo, P.most = mo := ⟨_, rfl⟩
  rw [hmo] at c4 hlt hm
  have dlt : decide (n < mo) = true := by simpa using hlt
  have dlt' : decide ((n : Int) < (mo : Int)) = true := by simp; omega
  have hgp := h.pool.blk.lt
  have hpb : a.pb ≤ w.heap.size := by have := h.pool.lp; omega
  have H : Aside (PSt w a P L D ∧ P.frames.length = n ∧ a.fv = .slice fA n fcap ∧ (∀ k i, P.atm k = some i → i < P.frames.length) ∧ w.ownsRow a.pb 94 1 (.slice fA n fcap) n (ptrs a.bk)) := ⟨h, hn, hfv, hat, hrow⟩
  clear h hn hfv hat hrow hmo
  go_enter Tryz.func90, Tryz.ntmps90
  go_wp2_with fail
  go_region_held3 (fun w' => w'.cell? ⟨a.gp, 5, none⟩ = some (.slice fA n fcap) ∧ w'.cell? ⟨a.gp, 4, none⟩ = some (.int .i64 (mo : Int))) (exact ⟨c5, c4⟩) (fail)
  obtain ⟨w1, hw1⟩ : ∃ w1, w.drew = w1 := ⟨_, rfl⟩
  have H1 : Aside (PSt w1 a P L D ∧ Below w.heap.size w w1 ∧ w1.heap.size = w.heap.size ∧ w1.ownsRow a.pb 94 1 (.slice fA n fcap) n (ptrs a.bk)) := by
    rw [← hw1]; exact ⟨H.out.1.below (bl_drew (Below.refl _ _)), bl_drew (Below.refl _ _), rfl, own_drewN0 H.out.2.2.2.2⟩
  replace c5 : w1.cell? ⟨a.gp, 5, none⟩ = some (.slice fA n fcap) := by rw [← hw1]; exact c5
  replace f5 : w1.frozen? ⟨a.gp, 5, none⟩ = false := by rw [← hw1]; exact f5
  rw [hw1]
  clear hw1 c4
  have hgp1 : a.gp < w1.heap.size := by rw [H1.out.2.2.1]; exact hgp
  obtain ⟨wA, hwA⟩ : ∃ wA, w1.alloc (.cells #[.int .i64 (-1), .slice none 0 0, .int .i64 0, .bool false, .int .i64 0, .bool false] 96) = wA := ⟨_, rfl⟩
  obtain ⟨wB, hwB⟩ : ∃ wB, wA.alloc (.cells #[.pointer (some ⟨w1.heap.size, 0, none⟩)] 94) = wB := ⟨_, rfl⟩
  have zA : wA.heap.size = w1.heap.size + 1 := by rw [← hwA]; simp
  have zB : wB.heap.size = w1.heap.size + 2 := by rw [← hwB]; simp [zA]
  have bB : Below w1.heap.size w1 wB := by rw [← hwB, ← hwA]; exact bl_alloc (bl_alloc (Below.refl _ _) _) _
  have nB : Blk wB w1.heap.size 96 (frmCells frm0 (.slice none 0 0)) := by
    have h1 : Blk wA w1.heap.size 96 (frmCells frm0 (.slice none 0 0)) := by rw [← hwA]; exact alloc_new w1 _
    rw [← hwB]
    exact h1.fr ((Fr.refl (fun _ => False) wA).alloc _) (fun h => h)
  have sB : wB.heap[w1.heap.size + 1]? = some (.cells #[.pointer (some ⟨w1.heap.size, 0, none⟩)] 94 (0, 0)) := by rw [← hwB, ← zA]; exact alloc_new wA _
  have hBp : a.pb ≤ w1.heap.size := by rw [H1.out.2.2.1]; exact hpb
  have HB : Aside (Below w1.heap.size w1 wB ∧ FrmAt wB a.pb a.sv w1.heap.size frm0 ∧ wB.ownsRow a.pb 94 1 (.slice fA n fcap) n (ptrs a.bk) ∧ wB.heap[w1.heap.size + 1]? = some (.cells #[.pointer (some ⟨w1.heap.size, 0, none⟩)] 94 (0, 0))) := by
    refine ⟨bB, ⟨hBp, .slice none 0 0, nB, World.ownsRow_nil _ _ _ _, fun b hb => by cases hb⟩, ?_, sB⟩
    exact own_fr H1.out.2.2.2 (Fr.of_below bB (fun _ => False)) (fun _ _ h => h)
  have hgpB : wB.heap[a.gp]? = w1.heap[a.gp]? := bB.block a.gp hgp1
  have c5A : wA.cell? ⟨a.gp, 5, none⟩ = some (.slice fA n fcap) := by rw [← hwA]; exact (cell?_keep_alloc w1 a.gp 5 hgp1 _).trans c5
  clear bB nB sB
  go_wp2_with (
    at_builtin
    (refine wpList_append_lies _ (by rfl) (.tmp 23) (.tmp 25) 92 (by rfl) a.pb 94 i0 _ 1 8 Tryz.underlying92 hi0 hz0 hz1 hz2 rfl (by omega) (.slice fA n fcap) n (ptrs a.bk) (by rfl) HB.out.2.2.1 ⟨w1.heap.size + 1, 0, none⟩ 1 1 [.pointer (some ⟨w1.heap.size, 0, none⟩)] (by rfl) (by rfl) ?_ ?_ (by omega) ?_ (by omega) ?_ (w1.heap.size + 2) zB ?_)
    · exact news_blk (cs := #[_]) (t := 94) (fr := (0, 0)) HB.out.2.2.2
    · simp [Value.oneCell']
    · unfold maxLen; omega
    · omega
    intro g3 cap3 w3 hown3 hgrow3 hat3 hlt3
    have Q3 : Aside (w3.ownsRow a.pb 94 1 (.slice (some ⟨g3, 0, none⟩) (n + 1) cap3) (n + 1) (ptrs a.bk ++ [.pointer (some ⟨w1.heap.size, 0, none⟩)]) ∧ wB.grownBy w3 (Value.slice fA n fcap).ownBlock ∧ ((Value.slice fA n fcap).ownBlock = some g3 ∨ g3 = w1.heap.size + 2)) := ⟨hown3, hgrow3, hat3⟩
    have hne5 : some a.gp ≠ (Value.slice fA n fcap).ownBlock := H1.out.1.pool.blk.own_ne H1.out.2.2.2 (by decide)
    have hb3 : w3.heap[a.gp]? = w1.heap[a.gp]? := (hgrow3.block a.gp (by omega) hne5).trans hgpB
    have c53 := (World.cell?_of_block (w := w1) (a := ⟨a.gp, 5, none⟩) hb3).trans c5
    have f53 := (World.frozen?_of_block (w := w1) (a := ⟨a.gp, 5, none⟩) hb3).trans f5
    clear hown3 hgrow3 hat3 hne5 hb3)
  go_ret2
  obtain ⟨hp, hF⟩ := H1.out.1.pool.push (b := w1.heap.size) (fv' := .slice (some ⟨g3, 0, none⟩) (n + 1) cap3) H.out.2.2.2.1 HB.out.1 HB.out.2.1 (Nat.le_refl _) (by rw [H.out.2.2.1]; exact Q3.out.2.1) (by rw [H.out.2.1]; exact Q3.out.1) (by
    rw [H.out.2.2.1]
    intro b e
    have e' : g3 = b := by injection e
    rcases Q3.out.2.2 with h | h
    · rw [← e']; exact .inl h
    · exact .inr (by omega))
  refine ⟨w1.heap.size, .slice (some ⟨g3, 0, none⟩) (n + 1) cap3, by rw [H1.out.2.2.1]; exact Nat.le_refl _, rfl, ?_, ?_, ?_⟩
  · exact H1.out.1.onPool (a' := { a with fv := .slice (some ⟨g3, 0, none⟩) (n + 1) cap3, bk := a.bk ++ [w1.heap.size] }) hF hp
  · exact (Fr.of_below H1.out.2.1 _).trans hF (fun _ _ h => h)
  · rw [H.out.2.2.1]
    intro b e
    have e' : g3 = b := by injection e
    rcases Q3.out.2.2 with h | h
    · rw [← e']; exact .inl h
    · exact .inr (by rw [← H1.out.2.2.1]; omega)
end Go.Proofs.YthfidlhefkjpdaaGreatDoor
