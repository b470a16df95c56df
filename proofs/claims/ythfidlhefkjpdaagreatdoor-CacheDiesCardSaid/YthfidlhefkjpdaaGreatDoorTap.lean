/- wal.take at the end, wal.clone of nothing, wal.Open of an empty log.
   wal: lsn, End, Safe, Room, step. -/
import Derived.Test.YthfidlhefkjpdaaGreatDoorTao
namespace Go.Proofs.YthfidlhefkjpdaaGreatDoor
open Go.RowKit

structure Lg where
  first : Nat
  count : Nat
  run : Nat
  most : Nat
  stream : List UInt8
  safe : Nat
  nrec : Nat
  old : Bool
  dead : Bool

/-- Block gl is a log; its blocks lie from base on. -/
def LogAt (w : World) (base gl gd : Nat) (sv rv : Value) (L : Lg) : Prop :=
  Blk w gl 89 (lgCells gd L.first L.count L.run L.most sv L.safe rv L.old L.dead) ∧ base ≤ gl ∧ w.ownsRow base 5 1 sv L.stream.length (L.stream.map u8) ∧ ∃ xs, w.ownsRow base 91 3 rv L.nrec xs

set_option maxRecDepth 100000 in
theorem take_end (gl gd first count run most at' : Nat) (A : Option Addr) (n cap : Nat) (rv : Value) (safe : Nat) (old dead : Bool) (w : World)
    (hB : Blk w gl 89 (lgCells gd first count run most (.slice A n cap) safe rv old dead)) (hn : n ≤ at') :
    Calls Tryz.prog 84 #[.pointer (some ⟨gl, 0, none⟩), .int .i64 (at' : Int)] w fun e w' => e = .returned (.tuple #[.int .i64 0, .bool false]) ∧ w = w' := by
  have c5 := hB.cell 5
  simp [lgCells] at c5
  have d1 : decide ((n : Int) ≤ (at' : Int)) = true := by simp; omega
  clear hB
  go_enter Tryz.func84, Tryz.ntmps84
  go_wp2_with fail
  go_ret2
  exact ⟨rfl, rfl⟩

set_option maxRecDepth 100000 in
theorem rclone_nil (w : World) : Calls Tryz.prog 123 #[.slice none 0 0] w fun e w' => e = .returned (.slice none 0 0) ∧ w = w' := by
  have q22 : ∀ (w : World) (a : Option Addr) (n c n' c' : Nat), (binOp .eql 83 (.slice a n c) (.slice none n' c')).run Tryz.prog w = .ok (.bool a.isNone) w := fun w a n c n' c' => Lib.run_eql_slice_nil w _ _ a n c n' c' Tryz.underlying83
  have hi : (none : Option Addr).isNone = true := rfl
  go_enter Tryz.func123, Tryz.ntmps123
  go_wp2_with fail
  go_ret
  exact ⟨rfl, rfl⟩

set_option maxRecDepth 100000 in
theorem wclone_nil (w : World) : Calls Tryz.prog 85 #[.slice none 0 0] w fun e w' => e = .returned (.slice none 0 0) ∧ w = w' := by
  go_enter Tryz.func85, Tryz.ntmps85
  go_wp2_with fail
  refine (rclone_nil w).mono ?_
  rintro e w' ⟨rfl, rfl⟩
  go_wp2_with fail
  go_loopg [10] 0 (fun q i wr => wr = w ∧ i = .int .i64 0)
  case atStart => exact ⟨rfl, rfl⟩
  case round =>
    obtain ⟨rfl, rfl⟩ := hrel
    go_wp2_with fail
    go_ret
    exact ⟨rfl, rfl⟩

set_option maxRecDepth 100000 in
set_option maxHeartbeats 1000000 in
theorem wopen_any (gd gs gm : Nat) (D : Dk) (first count : Nat) (w : World) (hD : DiskAt w gd gs gm D) (hw : D.wf) (hoff : D.off = false) (hc : 1 ≤ count) (hf : first + count ≤ D.sec.length)
    (hrun : (ldAll (fun k => D.has (first + k)) count).run ≠ 0) (hstr : (ldAll (fun k => D.has (first + k)) count).stream = []) :
    Calls Tryz.prog 41 #[.pointer (some ⟨gd, 0, none⟩), .int .i64 (first : Int), .int .i64 (count : Int)] w fun e w' => ∃ gl sv v, e = .returned (.tuple #[.pointer (some ⟨gl, 0, none⟩), v, .int .i64 0]) ∧
      LogAt w' w.heap.size gl gd sv (.slice none 0 0) ⟨first, count, (ldAll (fun k => D.has (first + k)) count).run, (ldAll (fun k => D.has (first + k)) count).most, [], 0, 0, true, false⟩ ∧ Below w.heap.size w w' := by
  have H : Aside (DiskAt w gd gs gm D ∧ D.wf ∧ D.off = false ∧ 1 ≤ count ∧ first + count ≤ D.sec.length) := ⟨hD, hw, hoff, hc, hf⟩
  clear hD hw hoff hc hf
  obtain ⟨S, hS⟩ : ∃ S, ldAll (fun k => D.has (first + k)) count = S := ⟨_, rfl⟩
  rw [hS] at hrun hstr ⊢
  have hS := hid hS
  have hR := hid hrun
  have hT := hid hstr
  clear hrun hstr
  go_enter Tryz.func41, Tryz.ntmps41
  go_wp2_with fail
  refine (outside_ok gd gs gm D first count w H.out.1 H.out.2.1.n H.out.2.2.2.1 H.out.2.2.2.2).mono ?_
  rintro e w' ⟨rfl, rfl⟩
  go_wp2_with fail
  obtain ⟨W0, hW0⟩ : ∃ W0, w.alloc (.cells (lgCells gd first count 0 0 (.slice none 0 0) 0 (.slice none 0 0) true false) 89) = W0 := ⟨_, rfl⟩
  have hB0 : Blk W0 w.heap.size 89 (lgCells gd first count 0 0 (.slice none 0 0) 0 (.slice none 0 0) true false) := by rw [← hW0]; exact Blk.new _ _ _
  have hb0 : Below w.heap.size w W0 := by rw [← hW0]; exact bl_alloc (Below.refl _ _) _
  have hl := lload_any w.heap.size gd gs gm D first count W0 hB0 (H.out.1.below hb0) H.out.2.1 H.out.2.2.1 H.out.2.2.2.2
  rw [hS.out, if_neg hR.out] at hl
  have hc0 : W0 = w.alloc (.cells #[.pointer (some ⟨gd, 0, none⟩), .int .i64 (first : Int), .int .i64 (count : Int), .int .i64 0, .int .i64 0, .slice none 0 0, .int .i64 0, .slice none 0 0, .bool true, .bool false] 89) := hW0.symm
  rw [← hc0]
  have HB0 : Aside (Below w.heap.size w W0 ∧ W0.heap.size = w.heap.size + 1) := ⟨hb0, by rw [← hW0]; simp⟩
  clear hW0 hc0 hB0 hb0
  refine hl.mono ?_
  clear hl
  rintro e w1 ⟨rfl, sv, hB1, hO1, hF1⟩
  rw [hT.out] at hO1
  obtain ⟨A1, cap, rfl, hcap, hcm, -⟩ := own_form hO1
  have hb1 : Below w.heap.size w w1 := HB0.out.1.trans (hF1.below HB0.out.1.size (by rintro x rfl; exact Nat.le_refl _))
  have hO : w1.ownsRow w.heap.size 5 1 (.slice A1 0 cap) 0 [] := own_mono hO1 HB0.out.1.size
  have H1 : Aside (Blk w1 w.heap.size 89 (lgCells gd first count S.run S.most (.slice A1 0 cap) 0 (.slice none 0 0) true false) ∧ w1.ownsRow w.heap.size 5 1 (.slice A1 0 cap) 0 [] ∧ Below w.heap.size w w1) := ⟨hB1, hO, hb1⟩
  clear hB1 hO1 hF1 hb1 hO
  go_wp2_with fail
  refine (take_end w.heap.size gd first count S.run S.most 0 A1 0 cap (.slice none 0 0) 0 true false w1 H1.out.1 (Nat.le_refl _)).mono ?_
  rintro e w' ⟨rfl, rfl⟩
  have c5 := H1.out.1.cell 5
  have c6 := H1.out.1.cell 6
  have c7 := H1.out.1.cell 7
  have f5 := H1.out.1.frozen 5
  have f6 := H1.out.1.frozen 6
  simp [lgCells] at c5 c6 c7
  go_wp2_with fail
  go_loopg [11, 13] 0 (fun q a b wr => a = .int .i64 0 ∧ b = .bool false ∧ wr = w1)
  case atStart => exact ⟨rfl, rfl, rfl⟩
  case round =>
    obtain ⟨rfl, rfl, rfl⟩ := hrel
    go_wp2_with (refine (wclone_nil _).mono ?_; rintro e w' ⟨rfl, rfl⟩)
    go_ret3
    have hB2 : Blk ((wr.setCell ⟨w.heap.size, 5, none⟩ (.slice A1 0 cap)).setCell ⟨w.heap.size, 6, none⟩ (.int .i64 0)) w.heap.size 89 (lgCells gd first count S.run S.most (.slice A1 0 cap) 0 (.slice none 0 0) true false) := by
      have := (H1.out.1.set_ 5 (.slice A1 0 cap)).set_ 6 (.int .i64 0)
      simpa [lgCells] using this
    have hF : Fr (· = w.heap.size) wr ((wr.setCell ⟨w.heap.size, 5, none⟩ (.slice A1 0 cap)).setCell ⟨w.heap.size, 6, none⟩ (.int .i64 0)) :=
      ((Fr.refl (· = w.heap.size) wr).set (p := ⟨w.heap.size, 5, none⟩) (.inl rfl) _).set (p := ⟨w.heap.size, 6, none⟩) (.inl rfl) _
    refine ⟨w.heap.size, .slice A1 0 cap, _, rfl, ⟨hB2, Nat.le_refl _, ?_, [], World.ownsRow_nil _ _ _ _⟩, H1.out.2.2.trans (hF.below H1.out.2.2.size (by rintro x rfl; exact Nat.le_refl _))⟩
    exact own_fr H1.out.2.1 hF (fun b hb e => by subst e; exact (own_ty H1.out.2.1 hb).ne H1.out.1.ty (by decide))
end Go.Proofs.YthfidlhefkjpdaaGreatDoor

namespace Go.Proofs.YthfidlhefkjpdaaGreatDoor
open Go.RowKit

def Lg.lsn (L : Lg) (a : Nat) : Int := (L.run * 16777216 + a : Nat)
structure Lg.wf (L : Lg) : Prop where
  run : L.run ≤ 274877906944
  most : L.most ≤ 274877906944
  count : L.count ≤ 4096
  len : L.stream.length ≤ L.count * 498
  safe : L.safe ≤ L.stream.length

theorem LogAt.lt {w : World} {base gl gd : Nat} {sv rv : Value} {L : Lg} (h : LogAt w base gl gd sv rv L) : gl < w.heap.size := h.1.lt
theorem LogAt.cells {w : World} {base gl gd : Nat} {sv rv : Value} {L : Lg} (h : LogAt w base gl gd sv rv L) :
    w.cell? ⟨gl, 0, none⟩ = some (.pointer (some ⟨gd, 0, none⟩)) ∧ w.cell? ⟨gl, 1, none⟩ = some (.int .i64 (L.first : Int)) ∧ w.cell? ⟨gl, 2, none⟩ = some (.int .i64 (L.count : Int)) ∧ w.cell? ⟨gl, 3, none⟩ = some (.int .i64 (L.run : Int)) ∧
    w.cell? ⟨gl, 4, none⟩ = some (.int .i64 (L.most : Int)) ∧ w.cell? ⟨gl, 5, none⟩ = some sv ∧ w.cell? ⟨gl, 6, none⟩ = some (.int .i64 (L.safe : Int)) ∧ w.cell? ⟨gl, 7, none⟩ = some rv ∧ w.cell? ⟨gl, 8, none⟩ = some (.bool L.old) ∧ w.cell? ⟨gl, 9, none⟩ = some (.bool L.dead) := by
  have c := fun i => h.1.cell i
  exact ⟨c 0, c 1, c 2, c 3, c 4, c 5, c 6, c 7, c 8, c 9⟩
/-- The blocks of a log. -/
def lT (gl : Nat) (sv rv : Value) : Nat → Prop := fun b => b = gl ∨ (sv.ownBlock = some b ∨ rv.ownBlock = some b)
theorem LogAt.fr {w w' : World} {T : Nat → Prop} {base gl gd : Nat} {sv rv : Value} {L : Lg} (h : LogAt w base gl gd sv rv L) (hf : Fr T w w') (hT : ∀ b, lT gl sv rv b → ¬ T b) : LogAt w' base gl gd sv rv L := by
  obtain ⟨h1, h2, h3, xs, h4⟩ := h
  exact ⟨h1.fr hf (hT _ (.inl rfl)), h2, own_fr h3 hf (fun b hb => hT b (.inr (.inl hb))), xs, own_fr h4 hf (fun b hb => hT b (.inr (.inr hb)))⟩
theorem LogAt.below {w w' : World} {base gl gd : Nat} {sv rv : Value} {L : Lg} (h : LogAt w base gl gd sv rv L) (hb : Below w.heap.size w w') : LogAt w' base gl gd sv rv L :=
  h.fr (Fr.of_below hb (fun _ => False)) (fun _ _ h => h)
theorem LogAt.form {w : World} {base gl gd : Nat} {sv rv : Value} {L : Lg} (h : LogAt w base gl gd sv rv L) : ∃ A cap, sv = .slice A L.stream.length cap ∧ L.stream.length ≤ cap ∧ cap ≤ maxLen := by
  obtain ⟨A, cap, e, h1, h2, -⟩ := own_form h.2.2.1
  exact ⟨A, cap, e, h1, h2⟩
/-- The log's blocks by their kinds. -/
theorem LogAt.kinds {w : World} {base gl gd b : Nat} {sv rv : Value} {L : Lg} (h : LogAt w base gl gd sv rv L) (hb : lT gl sv rv b) : base ≤ b ∧ (Ty w b 89 ∨ Ty w b 5 ∨ Ty w b 91) := by
  obtain ⟨h1, h2, h3, xs, h4⟩ := h
  rcases hb with rfl | hb | hb
  · exact ⟨h2, .inl h1.ty⟩
  · exact ⟨(h3.lt b hb).1, .inr (.inl (own_ty h3 hb))⟩
  · exact ⟨(h4.lt b hb).1, .inr (.inr (own_ty h4 hb))⟩

theorem lsn_eq (run a : Nat) (hr : run ≤ 274877906944) (ha : a ≤ 4096 * 498) : IntKind.i64.wrap ((run : Int) * 16777216) = ((run * 16777216 : Nat) : Int) ∧ IntKind.i64.wrap (((run * 16777216 : Nat) : Int) + (a : Int)) = ((run * 16777216 + a : Nat) : Int) := by
  refine ⟨?_, ?_⟩
  · rw [wrap_nat (by omega) (by omega)]; omega
  · rw [wrap_nat (by omega) (by omega)]; omega

set_option maxRecDepth 100000 in
theorem llsn_any (base gl gd : Nat) (sv rv : Value) (L : Lg) (a : Nat) (w : World) (h : LogAt w base gl gd sv rv L) (hr : L.run ≤ 274877906944) (ha : a ≤ 4096 * 498) :
    Calls Tryz.prog 78 #[.pointer (some ⟨gl, 0, none⟩), .int .i64 (a : Int)] w fun e w' => e = .returned (.int .i64 (L.lsn a)) ∧ w = w' := by
  have c3 := h.cells.2.2.2.1
  obtain ⟨e1, e2⟩ := lsn_eq L.run a hr ha
  have hl : L.lsn a = ((L.run * 16777216 + a : Nat) : Int) := rfl
  rw [hl]
  obtain ⟨x, hx⟩ : ∃ x : Nat, L.run * 16777216 = x := ⟨_, rfl⟩
  obtain ⟨y, hy⟩ : ∃ y : Nat, L.run * 16777216 + a = y := ⟨_, rfl⟩
  rw [hy] at e2 ⊢
  rw [hx] at e1 e2
  clear hl hx hy h
  go_enter Tryz.func78, Tryz.ntmps78
  go_wp2_with fail
  go_ret
  exact ⟨rfl, rfl⟩

set_option maxRecDepth 100000 in
theorem lend_any (base gl gd : Nat) (sv rv : Value) (L : Lg) (w : World) (h : LogAt w base gl gd sv rv L) (hw : L.wf) :
    Calls Tryz.prog 46 #[.pointer (some ⟨gl, 0, none⟩)] w fun e w' => e = .returned (.int .i64 (L.lsn L.stream.length)) ∧ w = w' := by
  obtain ⟨A, cap, rfl, -⟩ := h.form
  have c5 := h.cells.2.2.2.2.2.1
  have hc := llsn_any base gl gd _ rv L L.stream.length w h hw.run (by have := hw.count; have := hw.len; omega)
  clear h hw
  go_enter Tryz.func46, Tryz.ntmps46
  go_wp2_with fail
  refine hc.mono ?_
  rintro e w' ⟨rfl, rfl⟩
  go_wp2_with fail
  go_ret
  exact ⟨rfl, rfl⟩

set_option maxRecDepth 100000 in
theorem lsafe_any (base gl gd : Nat) (sv rv : Value) (L : Lg) (w : World) (h : LogAt w base gl gd sv rv L) (hw : L.wf) :
    Calls Tryz.prog 38 #[.pointer (some ⟨gl, 0, none⟩)] w fun e w' => e = .returned (.int .i64 (L.lsn L.safe)) ∧ w = w' := by
  have c6 := h.cells.2.2.2.2.2.2.1
  have hc := llsn_any base gl gd _ rv L L.safe w h hw.run (by have := hw.count; have := hw.len; have := hw.safe; omega)
  clear h hw
  go_enter Tryz.func38, Tryz.ntmps38
  go_wp2_with fail
  refine hc.mono ?_
  rintro e w' ⟨rfl, rfl⟩
  go_wp2_with fail
  go_ret
  exact ⟨rfl, rfl⟩

set_option maxRecDepth 100000 in
theorem lroom_any (base gl gd : Nat) (sv rv : Value) (L : Lg) (w : World) (h : LogAt w base gl gd sv rv L) (hw : L.wf) :
    Calls Tryz.prog 45 #[.pointer (some ⟨gl, 0, none⟩)] w fun e w' => e = .returned (.int .i64 ((L.count * 498 - L.stream.length : Nat) : Int)) ∧ Below w.heap.size w w' := by
  obtain ⟨A, cap, rfl, -⟩ := h.form
  have c2 := h.cells.2.2.1
  have c5 := h.cells.2.2.2.2.2.1
  have hc := hw.count
  have hl := hw.len
  obtain ⟨n, hn⟩ : ∃ n, L.stream.length = n := ⟨_, rfl⟩
  obtain ⟨c, hcc⟩ : ∃ c, L.count = c := ⟨_, rfl⟩
  rw [hn, hcc] at hl ⊢
  rw [hcc] at c2 hc
  rw [hn] at c5
  have e : ((c * 498 - n : Nat) : Int) = (c : Int) * 498 - (n : Int) := by omega
  rw [e]
  clear h hw hn hcc e
  go_enter Tryz.func45, Tryz.ntmps45
  go_wp2_with fail
  go_region_held3 (fun w' => w'.cell? ⟨gl, 2, none⟩ = some (.int .i64 (c : Int)) ∧ w'.cell? ⟨gl, 5, none⟩ = some (.slice A n cap)) (exact ⟨c2, c5⟩) (fail)
  go_wp2_with fail
  go_ret
  refine ⟨?_, bl_drew (Below.refl _ _)⟩
  show Ending.returned (.int .i64 (IntKind.i64.wrap (IntKind.i64.wrap ((c : Int) * 498) - (n : Int)))) = _
  rw [wrap_nat (a := (c : Int) * 498) (by omega) (by omega), wrap_nat (by omega) (by omega)]

set_option maxRecDepth 100000 in
theorem lstep_any (base gl gd : Nat) (sv rv : Value) (L : Lg) (x : Int) (w : World) (h : LogAt w base gl gd sv rv L) :
    Calls Tryz.prog 86 #[.pointer (some ⟨gl, 0, none⟩), .int .i64 x] w fun e w' => e = .returned (.bool (decide (x = 0))) ∧ LogAt w' base gl gd sv rv { L with dead := L.dead || !decide (x = 0) } ∧ Fr (· = gl) w w' := by
  have c9 := h.cells.2.2.2.2.2.2.2.2.2
  have f9 := h.1.frozen 9
  have HL := hid h
  clear h
  have key : ∀ b : Bool, LogAt (w.setCell ⟨gl, 9, none⟩ (.bool b)) base gl gd sv rv { L with dead := b } ∧ Fr (· = gl) w (w.setCell ⟨gl, 9, none⟩ (.bool b)) := by
    intro b
    obtain ⟨h1, h2, h3, xs, h4⟩ := HL.out
    have hF : Fr (· = gl) w (w.setCell ⟨gl, 9, none⟩ (.bool b)) := (Fr.refl (· = gl) w).set (p := ⟨gl, 9, none⟩) (.inl rfl) _
    refine ⟨⟨?_, h2, own_fr h3 hF (fun k hb e => by subst e; exact (own_ty h3 hb).ne h1.ty (by decide)), xs, own_fr h4 hF (fun k hb e => by subst e; exact (own_ty h4 hb).ne h1.ty (by decide))⟩, hF⟩
    have := h1.set_ 9 (.bool b)
    simpa [lgCells] using this
  have K := hid key
  clear key
  obtain ⟨d, hd⟩ : ∃ d, L.dead = d := ⟨_, rfl⟩
  rw [hd] at c9 ⊢
  have hd := hid hd
  have hb : (x == 0) = decide (x = 0) := by rw [Bool.eq_iff_iff]; simp
  cases hx : decide (x = 0) with
  | true =>
    rw [hx] at hb
    have hbn : (x != 0) = false := by simp [bne, hb]
    cases d
    all_goals
      clear hx
      go_enter Tryz.func86, Tryz.ntmps86
      go_wp2_with fail
      go_ret
      first | exact ⟨rfl, K.out _⟩ | (rw [hbn]; exact ⟨rfl, K.out _⟩)
  | false =>
    rw [hx] at hb
    have hbn : (x != 0) = true := by simp [bne, hb]
    cases d
    all_goals
      clear hx
      go_enter Tryz.func86, Tryz.ntmps86
      go_wp2_with fail
      go_ret
      first | exact ⟨rfl, K.out _⟩ | (rw [hbn]; exact ⟨rfl, K.out _⟩)
end Go.Proofs.YthfidlhefkjpdaaGreatDoor
