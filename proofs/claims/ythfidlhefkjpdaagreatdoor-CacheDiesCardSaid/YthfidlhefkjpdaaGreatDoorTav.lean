/- A pool in memory.
   cache.New, cache.parse, the pool's step. -/
import Derived.Test.YthfidlhefkjpdaaGreatDoorTat
import Derived.Test.YthfidlhefkjpdaaGreatDoorTam
namespace Go.Proofs.YthfidlhefkjpdaaGreatDoor
open Go.RowKit

structure Frm where
  n : Int
  bytes : List UInt8
  lsn : Int
  dirty : Bool
  since : Int
  used : Bool

structure Pl where
  base : Nat
  count : Nat
  most : Nat
  frames : List Frm
  atm : Int → Option Nat
  pins : Int → Option Int
  hand : Nat
  loose : Bool
  dead : Bool

/-- Where all lies: disk, log, pool. -/
structure Ad where
  base : Nat
  gl : Nat
  gd : Nat
  gs : Nat
  gm : Nat
  sv : Value
  rv : Value
  pb : Nat
  gp : Nat
  ga : Nat
  gn : Nat
  fv : Value
  bk : List Nat
  ma : Nat
  mn : Nat
  ov : Value

def frmCells (f : Frm) (bv : Value) : Array Value := #[.int .i64 f.n, bv, .int .i64 f.lsn, .bool f.dirty, .int .i64 f.since, .bool f.used]
/-- Block b is the frame f; its bytes are apart from the log's stream sv and from a further row ov (another log's stream). -/
def FrmAt (w : World) (pb : Nat) (sv ov : Value) (b : Nat) (f : Frm) : Prop :=
  pb ≤ b ∧ ∃ bv, Blk w b 96 (frmCells f bv) ∧ w.ownsRow pb 5 1 bv f.bytes.length (f.bytes.map u8) ∧ (∀ b, bv.ownBlock = some b → sv.ownBlock ≠ some b ∧ ov.ownBlock ≠ some b)

def ptrs (bk : List Nat) : List Value := bk.map fun b => .pointer (some ⟨b, 0, none⟩)
def atV (bk : List Nat) (atm : Int → Option Nat) : Int → Option Value := fun k => (atm k).map fun i => .pointer (some ⟨bk.getD i 0, 0, none⟩)
def pinV (pins : Int → Option Int) : Int → Option Value := fun k => (pins k).map fun x => .int .i64 x
def plCells (a : Ad) (P : Pl) : Array Value :=
  #[.pointer (some ⟨a.gd, 0, none⟩), .pointer (some ⟨a.gl, 0, none⟩), .int .i64 (P.base : Int), .int .i64 (P.count : Int), .int .i64 (P.most : Int), a.fv, .map (some a.ga), .map (some a.gn), .int .i64 (P.hand : Int), .bool P.loose, .bool P.dead]

structure PoolAt (w : World) (a : Ad) (P : Pl) : Prop where
  blk : Blk w a.gp 105 (plCells a P)
  row : w.ownsRow a.pb 94 1 a.fv P.frames.length (ptrs a.bk)
  blen : a.bk.length = P.frames.length
  each : ∀ i (h : i < P.frames.length), FrmAt w a.pb a.sv a.ov (a.bk.getD i 0) P.frames[i]
  nodup : a.bk.Nodup
  atm : MapAt Tryz.prog 3 w a.ga a.ma (atV a.bk P.atm)
  pin : MapAt Tryz.prog 3 w a.gn a.mn (pinV P.pins)
  lp : a.pb ≤ a.gp
  la : a.pb ≤ a.ga
  ln : a.pb ≤ a.gn
  ne : a.ga ≠ a.gn
  ol : ∀ b, a.ov.ownBlock = some b → b < w.heap.size

/-- The blocks of a pool that are written. -/
def pT (a : Ad) : Nat → Prop := fun b => b = a.gp ∨ (a.fv.ownBlock = some b ∨ (b ∈ a.bk ∨ (b = a.ga ∨ b = a.gn)))
def aL (a : Ad) : Nat → Prop := ldT a.gl a.gd a.gs a.gm a.sv a.rv
def aT (a : Ad) : Nat → Prop := fun b => aL a b ∨ pT a b

/-- Disk, log and pool. -/
structure PSt (w : World) (a : Ad) (P : Pl) (L : Lg) (D : Dk) : Prop where
  ld : LD w a.base a.gl a.gd a.gs a.gm a.sv a.rv L D
  pool : PoolAt w a P
  lb : a.base ≤ a.pb
  lg : a.gl < a.pb

theorem map_ty {w : World} {b n : Nat} {m : Int → Option Value} {t : TypeId} (h : MapAt Tryz.prog 3 w b n m) (ht : Ty w b t) : False := by
  obtain ⟨cs, fr, hh⟩ := ht
  obtain ⟨_, ⟨es, c', h1, _⟩, _⟩ := h
  rw [hh] at h1; cases h1
theorem mem_bk {a : Ad} {b : Nat} (h : b ∈ a.bk) : ∃ i, i < a.bk.length ∧ a.bk.getD i 0 = b := by
  obtain ⟨i, hi, rfl⟩ := List.mem_iff_getElem.1 h
  exact ⟨i, hi, by simp [List.getD_eq_getElem?_getD, hi]⟩
theorem bk_mem {a : Ad} {i : Nat} (h : i < a.bk.length) : a.bk.getD i 0 ∈ a.bk := by
  simp [List.getD_eq_getElem?_getD, h]
theorem bk_inj {a : Ad} (hn : a.bk.Nodup) {i j : Nat} (hi : i < a.bk.length) (hj : j < a.bk.length) (h : a.bk.getD i 0 = a.bk.getD j 0) : i = j := by
  simp only [List.getD_eq_getElem?_getD, List.getElem?_eq_getElem hi, List.getElem?_eq_getElem hj, Option.getD_some] at h
  rcases Nat.lt_trichotomy i j with hlt | he | hlt
  · exact absurd h (List.pairwise_iff_getElem.1 hn i j hi hj hlt)
  · exact he
  · exact absurd h.symm (List.pairwise_iff_getElem.1 hn j i hj hi hlt)

section
variable {w w' : World} {a a' : Ad} {P P' : Pl} {L L' : Lg} {D D' : Dk} {T : Nat → Prop}
theorem PoolAt.kinds (h : PoolAt w a P) {b : Nat} (hb : pT a b) : a.pb ≤ b ∧ ((Ty w b 105 ∨ Ty w b 94 ∨ Ty w b 96) ∨ ∀ t, ¬ Ty w b t) := by
  rcases hb with rfl | hb | hb | rfl | rfl
  · exact ⟨h.lp, .inl (.inl h.blk.ty)⟩
  · exact ⟨(h.row.lt b hb).1, .inl (.inr (.inl (own_ty h.row hb)))⟩
  · obtain ⟨i, hi, rfl⟩ := mem_bk hb
    obtain ⟨h1, bv, h2, _⟩ := h.each i (by rw [← h.blen]; exact hi)
    exact ⟨h1, .inl (.inr (.inr h2.ty))⟩
  · exact ⟨h.la, .inr fun t ht => map_ty h.atm ht⟩
  · exact ⟨h.ln, .inr fun t ht => map_ty h.pin ht⟩
theorem PoolAt.lt (h : PoolAt w a P) {b : Nat} (hb : pT a b) : b < w.heap.size := by
  rcases hb with rfl | hb | hb | rfl | rfl
  · exact h.blk.lt
  · exact (h.row.lt b hb).2
  · obtain ⟨i, hi, rfl⟩ := mem_bk hb
    obtain ⟨h1, bv, h2, _⟩ := h.each i (by rw [← h.blen]; exact hi)
    exact h2.lt
  · exact h.atm.lt
  · exact h.pin.lt
theorem PoolAt.u8 (h : PoolAt w a P) {b : Nat} (hb : Ty w b 5) : ¬ pT a b := fun hp => by
  rcases (h.kinds hp).2 with (k | k | k) | k
  · exact hb.ne k (by decide)
  · exact hb.ne k (by decide)
  · exact hb.ne k (by decide)
  · exact k _ hb
theorem FrmAt.fr {pb b : Nat} {sv ov : Value} {f : Frm} (h : FrmAt w pb sv ov b f) (hf : Fr T w w') (hb : ¬ T b) (hu : ∀ x, Ty w x 5 → sv.ownBlock ≠ some x → ov.ownBlock ≠ some x → ¬ T x) : FrmAt w' pb sv ov b f := by
  obtain ⟨h1, bv, h2, h3, h4⟩ := h
  exact ⟨h1, bv, h2.fr hf hb, own_fr h3 hf (fun x hx => hu x (own_ty h3 hx) (h4 x hx).1 (h4 x hx).2), h4⟩
theorem FrmAt.stream {pb b : Nat} {sv sv' ov : Value} {f : Frm} {w0 : World} (h : FrmAt w0 pb sv ov b f) (hn : Nx w0 sv sv') : FrmAt w0 pb sv' ov b f := by
  obtain ⟨h1, bv, h2, h3, h4⟩ := h
  refine ⟨h1, bv, h2, h3, fun x hx => ⟨fun e => ?_, (h4 x hx).2⟩⟩
  rcases hn x e with k | k
  · exact (h4 x hx).1 k
  · have := (h3.lt x hx).2; omega
theorem PoolAt.fr (h : PoolAt w a P) (hf : Fr T w w') (hT : ∀ b, pT a b → ¬ T b) (hu : ∀ x, Ty w x 5 → a.sv.ownBlock ≠ some x → a.ov.ownBlock ≠ some x → ¬ T x) : PoolAt w' a P :=
  ⟨h.blk.fr hf (hT _ (.inl rfl)), own_fr h.row hf (fun b hb => hT b (.inr (.inl hb))), h.blen, fun i hi => (h.each i hi).fr hf (hT _ (.inr (.inr (.inl (bk_mem (by rw [h.blen]; exact hi)))))) hu, h.nodup,
    h.atm.block (hf.block _ h.atm.lt (hT _ (.inr (.inr (.inr (.inl rfl)))))), h.pin.block (hf.block _ h.pin.lt (hT _ (.inr (.inr (.inr (.inr rfl)))))), h.lp, h.la, h.ln, h.ne, fun b hb => Nat.lt_of_lt_of_le (h.ol b hb) hf.size⟩
theorem PoolAt.below (h : PoolAt w a P) (hb : Below w.heap.size w w') : PoolAt w' a P := h.fr (Fr.of_below hb (fun _ => False)) (fun _ _ h => h) (fun _ _ _ _ h => h)
theorem PSt.below (h : PSt w a P L D) (hb : Below w.heap.size w w') : PSt w' a P L D := ⟨h.ld.below hb, h.pool.below hb, h.lb, h.lg⟩
theorem PSt.apart (h : PSt w a P L D) {b : Nat} (hl : aL a b) : ¬ pT a b := fun hp => by
  have hk := h.pool.kinds hp
  have hlb := h.lb
  have hlg := h.lg
  rcases hl with hd | hl
  · have h1 := h.ld.bd; have h2 := h.ld.bs; have h3 := h.ld.bm
    rcases hd with rfl | rfl | rfl <;> omega
  · rcases (h.ld.log.kinds hl).2 with k | k | k <;> rcases hk.2 with (q | q | q) | q
    all_goals first | exact k.ne q (by decide) | exact q _ k
/-- The kinds of what disk and log write. -/
theorem PSt.lkinds (h : PSt w a P L D) {b : Nat} (hl : aL a b) (hu : Ty w b 5) : a.sv.ownBlock = some b := by
  rcases hl with hd | hl
  · have := h.ld.disk.ne hu (by decide) (by decide)
    rcases hd with rfl | rfl | rfl
    · exact absurd rfl this.1
    · exact absurd rfl this.2.1
    · exact absurd rfl this.2.2
  · rcases hl with rfl | hl | hl
    · exact (h.ld.log.1.ty.ne hu (by decide)).elim
    · exact hl
    · obtain ⟨xs, hx⟩ := h.ld.log.2.2.2
      exact ((own_ty hx hl).ne hu (by decide)).elim
/-- Behind a call that turned disk and log alone. -/
theorem PSt.onLD (h : PSt w a P L D) (hf : Fr (aL a) w w') {sv' rv' : Value} (hs : Nx w a.sv sv') (hL : LD w' a.base a.gl a.gd a.gs a.gm sv' rv' L' D') : PSt w' { a with sv := sv', rv := rv' } P L' D' := by
  have hz := hf.size
  have hp : PoolAt w' a P := h.pool.fr hf (fun b hb hl => h.apart hl hb) (fun x hx hne _ hl => hne (h.lkinds hl hx))
  have hp0 : PoolAt w { a with sv := sv', rv := rv' } P := ⟨h.pool.blk, h.pool.row, h.pool.blen, fun i hi => (h.pool.each i hi).stream hs, h.pool.nodup, h.pool.atm, h.pool.pin, h.pool.lp, h.pool.la, h.pool.ln, h.pool.ne, h.pool.ol⟩
  refine ⟨hL, ⟨hp.blk, hp.row, hp.blen, fun i hi => ?_, hp.nodup, hp.atm, hp.pin, hp.lp, hp.la, hp.ln, hp.ne, hp.ol⟩, h.lb, h.lg⟩
  obtain ⟨h1, bv, h2, h3, h4⟩ := (h.pool.each i hi)
  obtain ⟨_, _, _, k4⟩ := hp0.each i hi
  have hbv : FrmAt w' a.pb a.sv a.ov (a.bk.getD i 0) P.frames[i] := hp.each i hi
  refine ⟨h1, bv, h2.fr hf (fun hl => h.apart hl (.inr (.inr (.inl (bk_mem (by rw [h.pool.blen]; exact hi)))))), own_fr h3 hf (fun x hx hl => (h4 x hx).1 (h.lkinds hl (own_ty h3 hx))), fun x hx => ⟨fun e => ?_, (h4 x hx).2⟩⟩
  rcases hs x e with k | k
  · exact (h4 x hx).1 k
  · have := (h3.lt x hx).2; omega
/-- Behind a call that turned the pool alone. -/
theorem PSt.onPool (h : PSt w a P L D) (hf : Fr (pT a) w w') (hp : PoolAt w' { a with fv := a'.fv, bk := a'.bk, ma := a'.ma, mn := a'.mn } P') : PSt w' { a with fv := a'.fv, bk := a'.bk, ma := a'.ma, mn := a'.mn } P' L D :=
  ⟨h.ld.fr hf (fun b hb hp => h.apart hb hp) (fun b hb hp => by
    rcases (h.pool.kinds hp).2 with (k | k | k) | k
    · exact hb.ne k (by decide)
    · exact hb.ne k (by decide)
    · exact hb.ne k (by decide)
    · exact k _ hb), hp, h.lb, h.lg⟩
theorem PSt.onPool0 (h : PSt w a P L D) (hf : Fr (pT a) w w') (hp : PoolAt w' a P') : PSt w' a P' L D := h.onPool (a' := a) hf hp

/-- A cell of the pool's block is set. -/
theorem PoolAt.setCell_ (h : PoolAt w a P) (i : Nat) (v : Value) (hc : (plCells a P).setIfInBounds i v = plCells a P') (hfr : P'.frames = P.frames) (hat : P'.atm = P.atm) (hpn : P'.pins = P.pins) :
    PoolAt (w.setCell ⟨a.gp, i, none⟩ v) a P' ∧ Fr (· = a.gp) w (w.setCell ⟨a.gp, i, none⟩ v) := by
  have hF : Fr (· = a.gp) w (w.setCell ⟨a.gp, i, none⟩ v) := (Fr.refl (· = a.gp) w).set (p := ⟨a.gp, i, none⟩) (.inl rfl) v
  have hne : ∀ b t, Ty w b t → t ≠ 105 → b ≠ a.gp := fun b t hb ht e => by subst e; exact hb.ne h.blk.ty ht
  obtain ⟨p1, p2, p3, p4, p5, p6, p7, p8, p9⟩ := P'
  subst hfr hat hpn
  refine ⟨⟨?_, own_fr h.row hF (fun b hb => hne b _ (own_ty h.row hb) (by decide)), h.blen, fun i hi => (h.each i hi).fr hF ?_ (fun x hx _ _ => hne x _ hx (by decide)), h.nodup, h.atm.block (hF.block _ h.atm.lt fun e => map_ty h.atm (by rw [e]; exact h.blk.ty)), h.pin.block (hF.block _ h.pin.lt fun e => map_ty h.pin (by rw [e]; exact h.blk.ty)), h.lp, h.la, h.ln, h.ne, fun b hb => Nat.lt_of_lt_of_le (h.ol b hb) hF.size⟩, hF⟩
  · have := h.blk.set_ i v
    rw [hc] at this
    exact this
  · obtain ⟨_, _, h2, _⟩ := h.each i hi
    exact hne _ _ h2.ty (by decide)
/-- A frame is set. -/
theorem PoolAt.setFrm (h : PoolAt w a P) (i : Nat) (hi : i < P.frames.length) (hF : Fr (· = a.bk.getD i 0) w w') (f : Frm) (hf : FrmAt w' a.pb a.sv a.ov (a.bk.getD i 0) f) : PoolAt w' a { P with frames := P.frames.set i f } := by
  obtain ⟨_, _, hB, _⟩ := h.each i hi
  have hne : ∀ b t, Ty w b t → t ≠ 96 → b ≠ a.bk.getD i 0 := fun b t hb ht e => by subst e; exact hb.ne hB.ty ht
  have hmn : ∀ b n m, MapAt Tryz.prog 3 w b n m → b ≠ a.bk.getD i 0 := fun b n m hm e => by subst e; exact map_ty hm hB.ty
  have hil : i < a.bk.length := by rw [h.blen]; exact hi
  refine ⟨h.blk.fr hF (hne _ _ h.blk.ty (by decide)), ?_, by simpa using h.blen, fun j hj => ?_, h.nodup, h.atm.block (hF.block _ h.atm.lt (hmn _ _ _ h.atm)), h.pin.block (hF.block _ h.pin.lt (hmn _ _ _ h.pin)), h.lp, h.la, h.ln, h.ne, fun b hb => Nat.lt_of_lt_of_le (h.ol b hb) hF.size⟩
  · have := own_fr h.row hF (fun b hb => hne b _ (own_ty h.row hb) (by decide))
    simpa using this
  · have hj' : j < P.frames.length := by simpa using hj
    by_cases hij : i = j
    · subst hij
      simpa using hf
    · have e : (P.frames.set i f)[j]'hj = P.frames[j] := by simp [List.getElem_set, hij]
      show FrmAt w' a.pb a.sv a.ov (a.bk.getD j 0) ((P.frames.set i f)[j]'hj)
      rw [e]
      refine (h.each j hj').fr hF (fun e => hij (bk_inj h.nodup hil (by rw [h.blen]; exact hj') e.symm)) (fun x hx _ _ => hne x _ hx (by decide))
end
end Go.Proofs.YthfidlhefkjpdaaGreatDoor

namespace Go.Proofs.YthfidlhefkjpdaaGreatDoor
open Go.RowKit

set_option maxRecDepth 100000 in
theorem cnew_any (base gl gd gs gm : Nat) (sv rv : Value) (L : Lg) (D : Dk) (pbase count : Nat) (frames : Int) (w : World) (h : LD w base gl gd gs gm sv rv L D) (hbase : base ≤ w.heap.size) (most : Nat) (hm : (most : Int) = min (max frames 1) 64) :
    Calls Tryz.prog 43 #[.pointer (some ⟨gd, 0, none⟩), .pointer (some ⟨gl, 0, none⟩), .int .i64 (pbase : Int), .int .i64 (count : Int), .int .i64 frames] w fun e w' => ∃ a : Ad, e = .returned (.pointer (some ⟨a.gp, 0, none⟩)) ∧
      PSt w' a ⟨pbase, count, most, [], fun _ => none, fun _ => none, 0, false, false⟩ L D ∧ a.base = base ∧ a.gl = gl ∧ a.gd = gd ∧ a.gs = gs ∧ a.gm = gm ∧ a.sv = sv ∧ a.rv = rv ∧ a.pb = w.heap.size ∧ a.bk = [] ∧ a.ma = 0 ∧ a.mn = 0 ∧ Below w.heap.size w w' := by
  have hgl := h.glt
  have HL := hid h
  clear h
  obtain ⟨x, hx⟩ : ∃ x : Int, max frames 1 = x := ⟨_, rfl⟩
  rw [hx] at hm
  have hmax : ∀ (a b : TypeId) (W : World), (Builtin.max_ #[a, b] 3 #[.int .i64 frames, .int .i64 1]).run Tryz.prog W = .ok (.int .i64 x) W := by
    intro a b W
    simp [Builtin.max_, Builtin.max2]
    split <;> omega
  have hmin : ∀ (a b : TypeId) (W : World), (Builtin.min_ #[a, b] 3 #[.int .i64 x, .int .i64 64]).run Tryz.prog W = .ok (.int .i64 (most : Int)) W := by
    intro a b W
    simp [Builtin.min_, Builtin.min2]
    split <;> omega
  clear hx hm
  have hmm := @run_makeMap Tryz.prog
  go_enter Tryz.func43, Tryz.ntmps43
  go_wp2_with fail
  go_ret
  obtain ⟨W1, hW1⟩ : ∃ W1, w.alloc (.map #[] 0) = W1 := ⟨_, rfl⟩
  obtain ⟨W2, hW2⟩ : ∃ W2, W1.alloc (.map #[] 0) = W2 := ⟨_, rfl⟩
  have z1 : W1.heap.size = w.heap.size + 1 := by rw [← hW1]; simp
  have z2 : W2.heap.size = w.heap.size + 2 := by rw [← hW2]; simp [z1]
  have m1 : MapAt Tryz.prog 3 W1 w.heap.size 0 (fun _ => none) := by rw [← hW1]; exact MapAt.made _ _ _
  have m2 : MapAt Tryz.prog 3 W2 (w.heap.size + 1) 0 (fun _ => none) := by rw [← hW2, ← z1]; exact MapAt.made _ _ _
  have m12 : MapAt Tryz.prog 3 W2 w.heap.size 0 (fun _ => none) := by rw [← hW2]; exact m1.alloc _
  have b2 : Below w.heap.size w W2 := by rw [← hW2, ← hW1]; exact bl_alloc (bl_alloc (Below.refl _ _) _) _
  rw [hW1, hW2]
  clear hW1 hW2
  refine ⟨⟨base, gl, gd, gs, gm, sv, rv, w.heap.size, w.heap.size + 2, w.heap.size, w.heap.size + 1, .slice none 0 0, [], 0, 0, .slice none 0 0⟩, rfl, ⟨?_, ⟨?_, World.ownsRow_nil _ _ _ _, rfl, fun i hi => absurd hi (by simp), List.nodup_nil, m12.alloc _, m2.alloc _, ?_, ?_, ?_, ?_, fun b hb => by cases hb⟩, hbase, hgl⟩, rfl, rfl, rfl, rfl, rfl, rfl, rfl, rfl, rfl, rfl, rfl, bl_alloc b2 _⟩
  · exact HL.out.below (bl_alloc b2 _)
  · have := alloc_new W2 (.cells #[.pointer (some ⟨gd, 0, none⟩), .pointer (some ⟨gl, 0, none⟩), .int .i64 (pbase : Int), .int .i64 (count : Int), .int .i64 (most : Int), .slice none 0 0, .map (some w.heap.size), .map (some (w.heap.size + 1)), .int .i64 0, .bool false, .bool false] 105)
    rw [z2] at this
    exact this
  · show w.heap.size ≤ w.heap.size + 2; omega
  · show w.heap.size ≤ w.heap.size; omega
  · show w.heap.size ≤ w.heap.size + 1; omega
  · show w.heap.size ≠ w.heap.size + 1; omega

def pageOf (bs : List UInt8) : Option Pg := if allZ bs then some ⟨0, 0, 0, []⟩ else parseP bs

set_option maxRecDepth 100000 in
theorem cparse_ok (A : Option Addr) (c : Nat) (bs : List UInt8) (p : Pg) (w : World) (hR : RdB w A 512 bs) (hc : 512 ≤ c) (hc2 : c ≤ 9223372036854775807) (hp : pageOf bs = some p) :
    Calls Tryz.prog 91 #[.slice A 512 c] w fun e w' => ∃ g, e = .returned (.tuple #[.pointer (some ⟨g, 0, none⟩), .int .i64 0]) ∧ PageAt w' w.heap.size g p ∧ Below w.heap.size w w' := by
  have HR : Aside (∀ W, Below w.heap.size w W → RdB W A 512 bs) := ⟨fun W hW => hR.below hW⟩
  have HP := hid hp
  cases hz : allZ bs with
  | true =>
    have hp' : (⟨0, 0, 0, []⟩ : Pg) = p := by
      unfold pageOf at hp
      rw [if_pos hz] at hp
      exact Option.some.inj hp
    clear hR hp HP
    go_enter Tryz.func91, Tryz.ntmps91
    go_wp2_with fail
    refine (trim_any A 512 c bs w (HR.out _ (Below.refl _ _)) hc (by omega)).mono ?_
    rintro e w1 ⟨A', k', c', rfl, hk', hb1⟩
    rw [hz] at hk'
    simp only [decide_eq_true_eq] at hk'
    subst hk'
    have HB := hid hb1
    clear hb1
    go_wp2_with fail
    refine (pageNew_any 0 0 w1 (by omega) (by omega)).mono ?_
    rintro e w2 ⟨rfl, hP, hb2⟩
    have H2 : Aside (PageAt w2 w.heap.size w1.heap.size p ∧ Below w.heap.size w w2) := by
      refine ⟨?_, HB.out.trans (hb2.mono HB.out.size)⟩
      rw [← hp']
      obtain ⟨q1, v, vs, q2, q3, q4⟩ := hP
      exact ⟨HB.out.size, v, vs, q2, own_mono q3 HB.out.size, q4.mono HB.out.size⟩
    clear hP hb2
    go_wp2_with fail
    go_ret2
    exact ⟨_, rfl, H2.out.1, H2.out.2⟩
  | false =>
    have hp' : parseP bs = some p := by
      unfold pageOf at hp
      rw [hz] at hp
      exact hp
    clear hR hp HP
    go_enter Tryz.func91, Tryz.ntmps91
    go_wp2_with fail
    refine (trim_any A 512 c bs w (HR.out _ (Below.refl _ _)) hc (by omega)).mono ?_
    rintro e w1 ⟨A', k', c', rfl, hk', hb1⟩
    rw [hz] at hk'
    have hk2 : ((k' : Int) == 0) = false := by
      simp only [decide_eq_false_iff_not] at hk'
      simp; omega
    have HB := hid hb1
    clear hb1 hk'
    go_wp2_with fail
    refine (parse_ok A c bs p w1 (HR.out _ HB.out) hc hc2 hp').mono ?_
    rintro e w2 ⟨g, rfl, hP, hb2⟩
    have H2 : Aside (PageAt w2 w.heap.size g p ∧ Below w.heap.size w w2) := by
      refine ⟨?_, HB.out.trans (hb2.mono HB.out.size)⟩
      obtain ⟨q1, v, vs, q2, q3, q4⟩ := hP
      exact ⟨Nat.le_trans HB.out.size q1, v, vs, q2, own_mono q3 HB.out.size, q4.mono HB.out.size⟩
    clear hP hb2
    go_wp2_with fail
    go_ret2
    exact ⟨_, rfl, H2.out.1, H2.out.2⟩

set_option maxRecDepth 100000 in
theorem pstep_any (a : Ad) (P : Pl) (L : Lg) (D : Dk) (x : Int) (w : World) (h : PSt w a P L D) :
    Calls Tryz.prog 53 #[.pointer (some ⟨a.gp, 0, none⟩), .int .i64 x] w fun e w' => e = .returned (.int .i64 x) ∧ PSt w' a { P with dead := P.dead || !decide (x = 0) } L D ∧ Fr (· = a.gp) w w' := by
  have c10 := h.pool.blk.cell 10
  have f10 := h.pool.blk.frozen 10
  simp [plCells] at c10
  have K : Hid (∀ b : Bool, PSt (w.setCell ⟨a.gp, 10, none⟩ (.bool b)) a { P with dead := b } L D ∧ Fr (· = a.gp) w (w.setCell ⟨a.gp, 10, none⟩ (.bool b))) := by
    intro b
    obtain ⟨h1, h2⟩ := h.pool.setCell_ (P' := { P with dead := b }) 10 (.bool b) (by simp [plCells]) rfl rfl rfl
    exact ⟨h.onPool0 (h2.mono fun _ _ e => .inl e) h1, h2⟩
  obtain ⟨d, hd⟩ : ∃ d, P.dead = d := ⟨_, rfl⟩
  rw [hd] at c10 ⊢
  have hd := hid hd
  clear h
  have hb : (x == 0) = decide (x = 0) := by rw [Bool.eq_iff_iff]; simp
  cases hx : decide (x = 0) with
  | true =>
    rw [hx] at hb
    have hbn : (x != 0) = false := by simp [bne, hb]
    cases d
    all_goals
      clear hx
      go_enter Tryz.func53, Tryz.ntmps53
      go_wp2_with fail
      go_ret
      first | exact ⟨rfl, K.out _⟩ | (rw [hbn]; exact ⟨rfl, K.out _⟩)
  | false =>
    rw [hx] at hb
    have hbn : (x != 0) = true := by simp [bne, hb]
    cases d
    all_goals
      clear hx
      go_enter Tryz.func53, Tryz.ntmps53
      go_wp2_with fail
      go_ret
      first | exact ⟨rfl, K.out _⟩ | (rw [hbn]; exact ⟨rfl, K.out _⟩)
end Go.Proofs.YthfidlhefkjpdaaGreatDoor
