/- Plain laws of the pool: what a page is, what fetch, Put and Flush turn.
   Plain laws of the pool: fetch.
   Plain laws of the pool: what fetch leaves.
   Plain laws of the pool: fetch, Put, Flush.
   Plain laws of the pool: Put, Flush.
   The law's one; cache.Get, Pin, Unpin where nothing is refused. -/
import Derived.Test.YthfidlhefkjpdaaGreatDoorTbg
import Derived.Test.YthfidlhefkjpdaaGreatDoorTbd
import Derived.Test.YthfidlhefkjpdaaGreatDoorTal
namespace Go.Proofs.YthfidlhefkjpdaaGreatDoor
open Go.RowKit Go.Maps

theorem set_get {α : Type} {l : List α} {i j : Nat} {x y : α} : (l.set i x)[j]? = some y ↔ (j = i ∧ i < l.length ∧ x = y) ∨ (j ≠ i ∧ l[j]? = some y) := by
  by_cases h : j = i
  · subst h
    by_cases hl : j < l.length
    · rw [List.getElem?_set_self hl]
      constructor
      · intro e
        exact .inl ⟨rfl, hl, Option.some.inj e⟩
      · rintro (⟨_, _, rfl⟩ | ⟨h, _⟩)
        · rfl
        · exact absurd rfl h
    · rw [List.getElem?_eq_none (by rw [List.length_set]; omega)]
      constructor
      · intro e; cases e
      · rintro (⟨_, h, _⟩ | ⟨h, _⟩)
        · exact absurd h hl
        · exact absurd rfl h
  · rw [List.getElem?_set_ne (fun e => h e.symm)]
    constructor
    · intro e; exact .inr ⟨h, e⟩
    · rintro (⟨e, _⟩ | ⟨_, e⟩)
      · exact absurd e h
      · exact e

/-- The frame that holds page k. -/
def frOf (P : Pl) (k : Int) : Option Frm := (P.atm k).bind fun i => P.frames[i]?
def lc (P : Pl) (D : Dk) (N : Nat) : List UInt8 := match frOf P N with | some f => if f.dirty = true then f.bytes else D.has (P.base + N) | none => D.has (P.base + N)
/-- The LSN that made page k dirty. -/
def dty (P : Pl) (k : Int) : Option Int := match frOf P k with | some f => if f.dirty = true then some f.since else none | none => none

theorem PWf.frOf {P : Pl} (h : PWf P) {i : Nat} {f : Frm} (hf : P.frames[i]? = some f) : frOf P f.n = some f := by
  unfold Go.Proofs.YthfidlhefkjpdaaGreatDoor.frOf
  rw [(h.atm f.n i).2 ⟨f, hf, rfl⟩]
  exact hf
theorem PWf.of_frOf {P : Pl} (h : PWf P) {k : Int} {f : Frm} (hf : Go.Proofs.YthfidlhefkjpdaaGreatDoor.frOf P k = some f) : ∃ i, P.atm k = some i ∧ P.frames[i]? = some f ∧ f.n = k := by
  unfold Go.Proofs.YthfidlhefkjpdaaGreatDoor.frOf at hf
  cases ha : P.atm k with
  | none => rw [ha] at hf; cases hf
  | some i =>
    rw [ha] at hf
    obtain ⟨g, h1, h2⟩ := (h.atm k i).1 ha
    simp only [Option.bind_some] at hf
    rw [h1] at hf
    injection hf with e
    subst e
    exact ⟨i, rfl, h1, h2⟩

/-- Disk, log and pool between two calls, where every page on the disk is one. -/
structure Inv (P : Pl) (L : Lg) (D : Dk) : Prop where
  wf : PWf P
  ok : Ok P L D
  log : L.first + L.count ≤ P.base
  fr : ∀ (i : Nat) (f : Frm), P.frames[i]? = some f → ∃ p : Pg, p.wf ∧ f.bytes = bytesP p ∧ f.lsn = p.lsn ∧ (f.dirty = false → pageOf (D.has (P.base + f.n.toNat)) = some p)
  pg : ∀ N, N < P.count → ∃ p : Pg, p.wf ∧ pageOf (D.has (P.base + N)) = some p
  loose : P.loose = false → ∀ k, D.pend k = none

def crcGo : Nat → Nat → Nat
  | 0, s => s
  | k + 1, s => match s with
    | 0 => crcGo k (crcStep 0)
    | t + 1 => crcGo k (crcStep (t + 1))
theorem crcIter_first : ∀ (k s : Nat), crcIter k (crcStep s) = crcIter (k + 1) s
  | 0, s => rfl
  | k + 1, s => by show crcStep (crcIter k (crcStep s)) = crcStep (crcIter (k + 1) s); rw [crcIter_first k s]
theorem crcGo_eq : ∀ (k s : Nat), crcGo k s = crcIter k s
  | 0, s => rfl
  | k + 1, 0 => by show crcGo k (crcStep 0) = _; rw [crcGo_eq k, crcIter_first]
  | k + 1, t + 1 => by show crcGo k (crcStep (t + 1)) = _; rw [crcGo_eq k, crcIter_first]
theorem crcIter_add : ∀ (a b s : Nat), crcIter a (crcIter b s) = crcIter (a + b) s
  | 0, b, s => by rw [Nat.zero_add]; rfl
  | a + 1, b, s => by
    rw [Nat.succ_add]
    show crcStep (crcIter a (crcIter b s)) = crcStep (crcIter (a + b) s)
    rw [crcIter_add a b s]
theorem crcFold_zeros : ∀ (n s : Nat), crcFold s (zeros n) = crcIter (8 * n) s
  | 0, s => rfl
  | n + 1, s => by
    show crcFold (crcByte s 0) (zeros n) = _
    rw [crcFold_zeros n]
    show crcIter (8 * n) (crcIter 8 (s ^^^ 0)) = _
    rw [Nat.xor_zero, crcIter_add, Nat.mul_succ]
theorem crcGo_508 : (crcGo 4064 4294967295 == 4294967295) = false := by kernel_rfl
theorem crc_zeros : crcOf (zeros 508) ≠ 0 := by
  intro h
  unfold crcOf at h
  rw [crcFold_zeros, ← crcGo_eq] at h
  have e : crcGo 4064 4294967295 = 4294967295 := by
    have h2 : 4294967295 ^^^ (4294967295 ^^^ crcGo (8 * 508) 4294967295) = 4294967295 ^^^ 0 := by rw [h]
    rw [← Nat.xor_assoc, Nat.xor_self, Nat.zero_xor, Nat.xor_zero] at h2
    exact h2
  have := crcGo_508
  rw [e] at this
  simp at this
theorem bytesP_nz {p : Pg} (hp : p.wf) : allZ (bytesP p) = false := by
  cases hz : allZ (bytesP p) with
  | false => rfl
  | true =>
    exfalso
    have hl := bytesP_length hp
    have e : bytesP p = zeros 512 := by
      unfold zeros
      rw [← hl]
      exact List.eq_replicate_iff.2 ⟨rfl, fun x hx => by
        have := List.all_eq_true.1 hz x hx
        simpa using this⟩
    have e4 : (bytesP p).drop 4 = zeros 508 := by rw [e]; unfold zeros; rw [List.drop_replicate]
    have ht : (bytesP p).take 4 = zeros 4 := by rw [e]; unfold zeros; rw [List.take_replicate]; rfl
    have e1 : bodyP p = zeros 508 := by
      rw [← e4]
      exact (drop_seal _).symm
    have e2 : le4 (crcOf (zeros 508)) = zeros 4 := by
      rw [← e1, ← ht]
      unfold bytesP sealB
      simp [le4]
    have hlt := crcOf_lt (zeros 508)
    have hnz := crc_zeros
    obtain ⟨c, hc⟩ : ∃ c, crcOf (zeros 508) = c := ⟨_, rfl⟩
    rw [hc] at e2 hlt hnz
    simp only [le4, zeros, List.replicate, List.cons.injEq] at e2
    obtain ⟨q0, q1, q2, q3, -⟩ := e2
    have r0 := congrArg UInt8.toNat q0
    have r1 := congrArg UInt8.toNat q1
    have r2 := congrArg UInt8.toNat q2
    have r3 := congrArg UInt8.toNat q3
    simp at r0 r1 r2 r3
    omega
theorem pageOf_bytes {p : Pg} (hp : p.wf) : pageOf (bytesP p) = some p := by
  unfold pageOf
  rw [bytesP_nz hp]
  exact parse_back hp

/-! ### fetch -/
theorem vict_nopin (pins : Int → Option Int) (hp : ∀ k, (pins k).getD 0 ≤ 0) : ∀ (k : Nat) (fs : List Frm) (h : Nat), fs.countP (·.used) < k → h < fs.length → ∃ i, (vict pins k fs h).1 = some i
  | 0, fs, h, hk, hh => by omega
  | k + 1, fs, h, hk, hh => by
    rw [vict]
    have hf : fs[h]? = some fs[h] := List.getElem?_eq_getElem hh
    rw [hf]
    simp only
    rw [if_neg (by have := hp fs[h].n; omega)]
    by_cases hu : fs[h].used = true
    · rw [if_pos hu]
      refine vict_nopin pins hp k _ _ ?_ ?_
      · have := List.countP_set (p := fun f : Frm => f.used) (l := fs) (a := { fs[h] with used := false }) (i := h) hh
        rw [this]
        have h2 : 0 < fs.countP (·.used) := List.countP_pos_iff.2 ⟨_, List.getElem_mem hh, hu⟩
        simp only [hu]
        simp
        omega
      · rw [List.length_set]
        exact Nat.mod_lt _ (by omega)
    · rw [if_neg hu]
      exact ⟨h, rfl⟩

/-- What stays of a pool in a call. -/
structure Stay (P P' : Pl) (L L' : Lg) (D D' : Dk) : Prop where
  base : P'.base = P.base
  count : P'.count = P.count
  most : P'.most = P.most
  dead : P'.dead = P.dead
  first : L'.first = L.first
  cnt : L'.count = L.count
  run : L'.run = L.run
  lmost : L'.most = L.most
  stream : L'.stream = L.stream
  nrec : L'.nrec = L.nrec
  old : L'.old = L.old
  ldead : L'.dead = L.dead
  steps : D'.steps ≤ D.steps + (L.count + 2)
  sec : D'.sec.length = D.sec.length

theorem pwf_hit {P : Pl} (h : PWf P) {i : Nat} {f : Frm} (hf : P.frames[i]? = some f) (g : Frm) (hn : g.n = f.n) (hb : g.bytes.length = 512) : PWf { P with frames := P.frames.set i g } := by
  have hfull := h.full f (List.mem_of_getElem? hf)
  have hil := (List.getElem?_eq_some_iff.1 hf).1
  refine ⟨h.m1, h.m2, by rw [List.length_set]; exact h.len, by rw [List.length_set]; exact h.hand, ?_, h.count, ?_, ?_⟩
  · intro x hx
    rcases List.mem_or_eq_of_mem_set hx with q | q
    · exact h.full x q
    · rw [q, hn]; exact ⟨hfull.1, hfull.2.1, hb⟩
  · intro k j
    show P.atm k = some j ↔ ∃ x, (P.frames.set i g)[j]? = some x ∧ x.n = k
    constructor
    · intro e
      obtain ⟨x, h1, h2⟩ := (h.atm k j).1 e
      by_cases hji : j = i
      · subst hji
        rw [hf] at h1
        injection h1 with h1
        exact ⟨g, set_get.2 (.inl ⟨rfl, hil, rfl⟩), by rw [hn, h1]; exact h2⟩
      · exact ⟨x, set_get.2 (.inr ⟨hji, h1⟩), h2⟩
    · rintro ⟨x, h1, h2⟩
      rcases set_get.1 h1 with ⟨rfl, _, rfl⟩ | ⟨_, h1⟩
      · exact (h.atm k j).2 ⟨f, hf, by rw [← hn]; exact h2⟩
      · exact (h.atm k j).2 ⟨x, h1, h2⟩
  · intro a b x y hx hy e
    have key : ∀ (c : Nat) (z : Frm), (P.frames.set i g)[c]? = some z → ∃ z' : Frm, P.frames[c]? = some z' ∧ z'.n = z.n := fun c z hz => by
      rcases set_get.1 hz with ⟨rfl, _, rfl⟩ | ⟨_, hz⟩
      · exact ⟨f, hf, hn.symm⟩
      · exact ⟨z, hz, rfl⟩
    obtain ⟨x', h1, h2⟩ := key a x hx
    obtain ⟨y', h3, h4⟩ := key b y hy
    exact h.inj a b x' y' h1 h3 (by rw [h2, h4, e])

theorem frOf_set {P : Pl} (h : PWf P) {i : Nat} {f g : Frm} (hf : P.frames[i]? = some f) (k : Int) : frOf { P with frames := P.frames.set i g } k = if k = f.n then some g else frOf P k := by
  have hil := (List.getElem?_eq_some_iff.1 hf).1
  by_cases hk : k = f.n
  · rw [if_pos hk, hk]
    unfold frOf
    show (P.atm f.n).bind _ = _
    rw [(h.atm f.n i).2 ⟨f, hf, rfl⟩]
    exact set_get.2 (.inl ⟨rfl, hil, rfl⟩)
  · rw [if_neg hk]
    unfold frOf
    show (P.atm k).bind (fun j => (P.frames.set i g)[j]?) = (P.atm k).bind (fun j => P.frames[j]?)
    cases ha : P.atm k with
    | none => rfl
    | some j =>
      have hne : i ≠ j := by
        rintro rfl
        obtain ⟨x, h1, h2⟩ := (h.atm k i).1 ha
        rw [hf] at h1
        injection h1 with h1
        exact hk (by rw [h1]; exact h2.symm)
      simp only [Option.bind_some]
      rw [List.getElem?_set_ne hne]
end Go.Proofs.YthfidlhefkjpdaaGreatDoor

namespace Go.Proofs.YthfidlhefkjpdaaGreatDoor
open Go.RowKit Go.Maps

theorem evL_same (L : Lg) (f : Frm) : (evL L f).first = L.first ∧ (evL L f).count = L.count ∧ (evL L f).run = L.run ∧ (evL L f).most = L.most ∧ (evL L f).stream = L.stream ∧ (evL L f).nrec = L.nrec ∧ (evL L f).old = L.old ∧ (evL L f).dead = L.dead := by
  unfold evL wrL
  split
  · split <;> exact ⟨rfl, rfl, rfl, rfl, rfl, rfl, rfl, rfl⟩
  · exact ⟨rfl, rfl, rfl, rfl, rfl, rfl, rfl, rfl⟩
theorem evL_wf {L : Lg} (h : L.wf) (f : Frm) : (evL L f).wf := by
  unfold evL
  split
  · exact wrL_wf h f
  · exact h
theorem evD_law {P : Pl} {L : Lg} {D : Dk} {f : Frm} (ho : Ok P L D) (hf0 : 0 ≤ f.n) (hf1 : f.n < P.count) (hf2 : f.bytes.length = 512) (hlog : L.first + L.count ≤ P.base) :
    (evD D L f P.base).wf ∧ (evD D L f P.base).plan = [] ∧ (evD D L f P.base).off = false ∧ (evD D L f P.base).sec.length = D.sec.length ∧ (evD D L f P.base).steps ≤ D.steps + (L.count + 2) ∧
    (∀ M, M < P.count → (evD D L f P.base).has (P.base + M) = if f.dirty = true ∧ f.n = (M : Int) then f.bytes else D.has (P.base + M)) := by
  unfold evD
  split
  · rename_i hd
    obtain ⟨h1, h2, h3, h4, h5, h6⟩ := wr_next ho hf0 hf1 hf2 hlog
    refine ⟨h1, h2, h3, h4, by omega, fun M hM => ?_⟩
    rw [h6 M hM]
    simp only [hd, true_and]
  · rename_i hd
    refine ⟨ho.dw, ho.dp, ho.doff, rfl, by omega, fun M hM => ?_⟩
    rw [if_neg (fun h => hd h.1)]

/-- A page has come into frame i0, in whose place another one was, or none. -/
structure Come (P P' : Pl) (i0 N : Nat) (g : Frm) : Prop where
  gn : g.n = (N : Int)
  gc : g.dirty = false
  gb : g.bytes.length = 512
  gi : P'.frames[i0]? = some g
  back : ∀ (j : Nat) (x : Frm), j ≠ i0 → P'.frames[j]? = some x → ∃ y : Frm, P.frames[j]? = some y ∧ x = { y with used := x.used }
  to : ∀ (j : Nat) (y : Frm), j ≠ i0 → P.frames[j]? = some y → ∃ x : Frm, P'.frames[j]? = some x ∧ x = { y with used := x.used }
  atm : ∀ k, P'.atm k = if k = (N : Int) then some i0 else if (∃ f : Frm, P.frames[i0]? = some f ∧ f.n = k) then none else P.atm k
  gone : P.atm N = none
  lt : N < P.count
  len : P'.frames.length ≤ P'.most
  hand : P'.hand < max P'.frames.length 1
  most : P'.most = P.most
  count : P'.count = P.count
  base : P'.base = P.base

open Classical in
theorem Come.frames {P P' : Pl} {i0 N : Nat} {g : Frm} (h : Come P P' i0 N g) (hw : PWf P) : ∀ (j : Nat) (x : Frm), P'.frames[j]? = some x → (j = i0 ∧ x = g) ∨ (j ≠ i0 ∧ x.n ≠ (N : Int) ∧ ∃ y : Frm, P.frames[j]? = some y ∧ x = { y with used := x.used }) := by
  intro j x hx
  by_cases hj : j = i0
  · subst hj
    rw [h.gi] at hx
    exact .inl ⟨rfl, (Option.some.inj hx).symm⟩
  · obtain ⟨y, h1, h2⟩ := h.back j x hj hx
    refine .inr ⟨hj, fun e => ?_, y, h1, h2⟩
    have : P.atm N = some j := (hw.atm _ _).2 ⟨y, h1, by rw [← e, h2]⟩
    rw [h.gone] at this
    cases this
theorem Come.pwf {P P' : Pl} {i0 N : Nat} {g : Frm} (h : Come P P' i0 N g) (hw : PWf P) : PWf P' := by
  have hc := hw.count
  refine ⟨by rw [h.most]; exact hw.m1, by rw [h.most]; exact hw.m2, h.len, h.hand, ?_, by rw [h.count]; exact hw.count, ?_, ?_⟩
  · intro x hx
    obtain ⟨j, hj, rfl⟩ := List.mem_iff_getElem.1 hx
    rcases h.frames hw j _ (List.getElem?_eq_getElem hj) with ⟨_, e⟩ | ⟨_, _, y, h1, e⟩
    · rw [e, h.gn, h.gb, h.count]
      have := h.lt
      exact ⟨by omega, by omega, rfl⟩
    · have := hw.full y (List.mem_of_getElem? h1)
      rw [e, h.count]
      exact this
  · intro k j
    rw [h.atm]
    by_cases hk : k = (N : Int)
    · rw [if_pos hk]
      constructor
      · intro e
        obtain rfl : i0 = j := Option.some.inj e
        exact ⟨g, h.gi, by rw [h.gn, hk]⟩
      · rintro ⟨x, h1, h2⟩
        rcases h.frames hw j x h1 with ⟨rfl, _⟩ | ⟨_, h3, _⟩
        · rfl
        · exact absurd (h2.trans hk) h3
    · rw [if_neg hk]
      by_cases he : ∃ f : Frm, P.frames[i0]? = some f ∧ f.n = k
      · rw [if_pos he]
        constructor
        · intro e; cases e
        · rintro ⟨x, h1, h2⟩
          obtain ⟨f, hf, hfn⟩ := he
          rcases h.frames hw j x h1 with ⟨_, e⟩ | ⟨hj, _, y, h3, e⟩
          · rw [e, h.gn] at h2
            exact absurd h2.symm hk
          · have hy : y.n = k := by rw [← h2, e]
            exact absurd (hw.inj j i0 y f h3 hf (by rw [hy, hfn])) hj
      · rw [if_neg he, hw.atm k j]
        constructor
        · rintro ⟨y, h1, h2⟩
          have hj : j ≠ i0 := fun e => he ⟨y, by rw [← e]; exact h1, h2⟩
          obtain ⟨x, h3, e⟩ := h.to j y hj h1
          exact ⟨x, h3, by rw [e]; exact h2⟩
        · rintro ⟨x, h1, h2⟩
          rcases h.frames hw j x h1 with ⟨_, e⟩ | ⟨_, _, y, h3, e⟩
          · rw [e, h.gn] at h2
            exact absurd h2.symm hk
          · exact ⟨y, h3, by rw [← h2, e]⟩
  · intro a b x y hx hy e
    rcases h.frames hw a x hx with ⟨rfl, ex⟩ | ⟨ha, hxn, x', hx', ex⟩
    · rcases h.frames hw b y hy with ⟨rfl, ey⟩ | ⟨hb, hyn, y', hy', ey⟩
      · rfl
      · exact absurd (by rw [← e, ex, h.gn]) hyn
    · rcases h.frames hw b y hy with ⟨rfl, ey⟩ | ⟨hb, hyn, y', hy', ey⟩
      · exact absurd (by rw [e, ey, h.gn]) hxn
      · exact hw.inj a b x' y' hx' hy' (by rw [show x'.n = x.n by rw [ex], show y'.n = y.n by rw [ey], e])
theorem Come.fr_back {P P' : Pl} {i0 N : Nat} {g : Frm} (h : Come P P' i0 N g) (hw : PWf P) {k : Int} {x : Frm} (hx : frOf P' k = some x) : (k = (N : Int) ∧ x = g) ∨ (k ≠ (N : Int) ∧ ∃ y : Frm, frOf P k = some y ∧ x = { y with used := x.used }) := by
  obtain ⟨j, h1, h2, h3⟩ := (h.pwf hw).of_frOf hx
  rcases h.frames hw j x h2 with ⟨_, e⟩ | ⟨_, hn, y, hy, e⟩
  · refine .inl ⟨?_, e⟩
    rw [← h3, e, h.gn]
  · refine .inr ⟨by rw [← h3]; exact hn, y, ?_, e⟩
    have := hw.frOf hy
    rw [show y.n = k by rw [← h3, e]] at this
    exact this
theorem Come.fr_new {P P' : Pl} {i0 N : Nat} {g : Frm} (h : Come P P' i0 N g) (hw : PWf P) : frOf P' N = some g := by
  have := (h.pwf hw).frOf h.gi
  rw [h.gn] at this
  exact this
theorem Come.fr_to {P P' : Pl} {i0 N : Nat} {g : Frm} (h : Come P P' i0 N g) (hw : PWf P) {k : Int} {y : Frm} (hy : frOf P k = some y) : (∃ x : Frm, frOf P' k = some x ∧ x = { y with used := x.used }) ∨ (frOf P' k = none ∧ ∃ f : Frm, P.frames[i0]? = some f ∧ f = y) := by
  obtain ⟨j, h1, h2, h3⟩ := hw.of_frOf hy
  by_cases hj : j = i0
  · subst hj
    refine .inr ⟨?_, y, h2, rfl⟩
    unfold frOf
    rw [h.atm, if_neg, if_pos ⟨y, h2, h3⟩]
    · rfl
    · rintro rfl
      rw [h.gone] at h1
      cases h1
  · obtain ⟨x, h4, e⟩ := h.to j y hj h2
    refine .inl ⟨x, ?_, e⟩
    have := (h.pwf hw).frOf h4
    rw [show x.n = k by rw [e]; exact h3] at this
    exact this
end Go.Proofs.YthfidlhefkjpdaaGreatDoor

namespace Go.Proofs.YthfidlhefkjpdaaGreatDoor
open Go.RowKit Go.Maps

/-- What a call that fetches leaves of what is told. -/
structure Same (P P' : Pl) (L L' : Lg) (D D' : Dk) : Prop where
  stay : Stay P P' L L' D D'
  pins : P'.pins = P.pins
  lc : ∀ M, M < P.count → lc P' D' M = lc P D M
  dty : ∀ k s, dty P' k = some s → dty P k = some s

/-- What the eviction of frame i0, if there is one, turns. -/
def Evict (P P' : Pl) (L L' : Lg) (D D' : Dk) (i0 : Nat) : Prop :=
  (P.frames[i0]? = none ∧ L' = L ∧ D' = D ∧ P'.loose = P.loose) ∨ ∃ f : Frm, P.frames[i0]? = some f ∧ L' = evL L f ∧ D' = evD D L f P.base ∧ P'.loose = (P.loose || f.dirty)

theorem evict_has {P P' : Pl} {L L' : Lg} {D D' : Dk} {i0 : Nat} (h : Inv P L D) (he : Evict P P' L L' D D' i0) :
    (D'.wf ∧ D'.plan = [] ∧ D'.off = false ∧ D'.sec.length = D.sec.length ∧ D'.steps ≤ D.steps + (L.count + 2)) ∧ (L'.wf ∧ L'.first = L.first ∧ L'.count = L.count ∧ L'.run = L.run ∧ L'.most = L.most ∧ L'.stream = L.stream ∧ L'.nrec = L.nrec ∧ L'.old = L.old ∧ L'.dead = L.dead) ∧
    ∀ M, M < P.count → (∃ f : Frm, P.frames[i0]? = some f ∧ f.dirty = true ∧ f.n = (M : Int) ∧ D'.has (P.base + M) = f.bytes) ∨ ((∀ f : Frm, P.frames[i0]? = some f → f.dirty = true → f.n ≠ (M : Int)) ∧ D'.has (P.base + M) = D.has (P.base + M)) := by
  rcases he with ⟨h1, rfl, rfl, _⟩ | ⟨f, hf, rfl, rfl, _⟩
  · exact ⟨⟨h.ok.dw, h.ok.dp, h.ok.doff, rfl, by omega⟩, ⟨h.ok.lw, rfl, rfl, rfl, rfl, rfl, rfl, rfl, rfl⟩, fun M _ => .inr ⟨(fun f hf => by rw [h1] at hf; cases hf), rfl⟩⟩
  · have hb := h.wf.full f (List.mem_of_getElem? hf)
    obtain ⟨e1, e2, e3, e4, e5, e6⟩ := evD_law h.ok hb.1 hb.2.1 hb.2.2 h.log
    refine ⟨⟨e1, e2, e3, e4, e5⟩, ⟨evL_wf h.ok.lw f, (evL_same L f).1, (evL_same L f).2.1, (evL_same L f).2.2.1, (evL_same L f).2.2.2.1, (evL_same L f).2.2.2.2.1, (evL_same L f).2.2.2.2.2.1, (evL_same L f).2.2.2.2.2.2.1, (evL_same L f).2.2.2.2.2.2.2⟩, fun M hM => ?_⟩
    rw [e6 M hM]
    by_cases hd : f.dirty = true ∧ f.n = (M : Int)
    · rw [if_pos hd]
      exact .inl ⟨f, hf, hd.1, hd.2, rfl⟩
    · rw [if_neg hd]
      refine .inr ⟨fun g hg hgd e => ?_, rfl⟩
      rw [hf] at hg
      obtain rfl : f = g := Option.some.inj hg
      exact hd ⟨hgd, e⟩

theorem come_inv {P P' : Pl} {L L' : Lg} {D D' : Dk} {i0 N : Nat} {g : Frm} {p : Pg} (h : Inv P L D) (hc : Come P P' i0 N g) (hg : g = newF N p) (hpw : p.wf) (hp : pageOf (D.has (P.base + N)) = some p) (he : Evict P P' L L' D D' i0)
    (hpins : P'.pins = P.pins) (hdead : P'.dead = P.dead) (hst : D.steps + 20000 ≤ 1152921504606846976) : Inv P' L' D' ∧ Same P P' L L' D D' ∧ dty P' N = none ∧ dty P N = none ∧ lc P D N = D.has (P.base + N) := by
  obtain ⟨⟨d1, d2, d3, d4, d5⟩, ⟨l1, l2, l3, l4, l5, l6, l7, l8, l9⟩, hD⟩ := evict_has h he
  have hw := h.wf
  have hw' := hc.pwf hw
  have hcnt := h.ok.lw.count
  have hNfr : ∀ f : Frm, P.frames[i0]? = some f → f.n ≠ (N : Int) := fun f hf e => by
    have : P.atm N = some i0 := (hw.atm _ _).2 ⟨f, hf, e⟩
    rw [hc.gone] at this
    cases this
  have hDN : D'.has (P.base + N) = D.has (P.base + N) := by
    rcases hD N hc.lt with ⟨f, hf, _, e, _⟩ | ⟨_, e⟩
    · exact absurd e (hNfr f hf)
    · exact e
  have hfN : frOf P N = none := by unfold frOf; rw [hc.gone]; rfl
  have hgc : g.dirty = false := hc.gc
  refine ⟨⟨hw', ⟨l1, by rw [l9]; exact h.ok.ld, d1, d2, d3, by rw [l2, l3, d4]; exact h.ok.lf, by rw [hdead]; exact h.ok.pd, by rw [hc.base, hc.count, d4]; exact h.ok.pb, by omega⟩, by rw [l2, l3, hc.base]; exact h.log, ?_, ?_, ?_⟩, ⟨⟨hc.base, hc.count, hc.most, hdead, l2, l3, l4, l5, l6, l7, l8, l9, d5, d4⟩, hpins, ?_, ?_⟩, ?_, ?_, ?_⟩
  · intro j x hx
    rw [hc.base]
    rcases hc.frames hw j x hx with ⟨_, e⟩ | ⟨hj, hxn, y, hy, e⟩
    · refine ⟨p, hpw, by rw [e, hg]; rfl, by rw [e, hg]; rfl, fun _ => ?_⟩
      rw [e, hc.gn, Int.toNat_natCast, hDN]
      exact hp
    · obtain ⟨q, q1, q2, q3, q4⟩ := h.fr j y hy
      have hyb := hw.full y (List.mem_of_getElem? hy)
      refine ⟨q, q1, by rw [e]; exact q2, by rw [e]; exact q3, fun hcl => ?_⟩
      have hcl' : y.dirty = false := by rw [e] at hcl; exact hcl
      rw [show x.n = y.n by rw [e]]
      have hyt : y.n = (y.n.toNat : Int) := by omega
      rcases hD y.n.toNat (by omega) with ⟨f, hf, _, e2, _⟩ | ⟨_, e2⟩
      · exact absurd (hw.inj j i0 y f hy hf (by rw [e2]; exact hyt)) hj
      · rw [e2]; exact q4 hcl'
  · intro M hM
    rw [hc.count] at hM
    rw [hc.base]
    rcases hD M hM with ⟨f, hf, _, _, e⟩ | ⟨_, e⟩
    · obtain ⟨q, q1, q2, _⟩ := h.fr i0 f hf
      exact ⟨q, q1, by rw [e, q2]; exact pageOf_bytes q1⟩
    · rw [e]; exact h.pg M hM
  · intro hl
    rcases he with ⟨_, _, rfl, e⟩ | ⟨f, _, _, rfl, e⟩
    · exact h.loose (by rw [← e]; exact hl)
    · rw [e, Bool.or_eq_false_iff] at hl
      have : evD D L f P.base = D := by unfold evD; rw [if_neg (by rw [hl.2]; simp)]
      rw [this]
      exact h.loose hl.1
  · intro M hM
    by_cases hMN : M = N
    · subst hMN
      unfold Go.Proofs.YthfidlhefkjpdaaGreatDoor.lc
      rw [hfN, hc.fr_new hw]
      simp only
      rw [if_neg (by rw [hgc]; simp), hc.base]
      exact hDN
    · cases hf : frOf P M with
      | none =>
        have h' : frOf P' M = none := by
          cases hx : frOf P' M with
          | none => rfl
          | some x =>
            rcases hc.fr_back hw hx with ⟨e, _⟩ | ⟨_, y, hy, _⟩
            · exact absurd (by omega) hMN
            · rw [hf] at hy; cases hy
        unfold Go.Proofs.YthfidlhefkjpdaaGreatDoor.lc
        rw [hf, h']
        simp only
        rw [hc.base]
        rcases hD M hM with ⟨f, hf2, _, e, _⟩ | ⟨_, e⟩
        · have := hw.frOf hf2
          rw [e, hf] at this
          cases this
        · exact e
      | some y =>
        obtain ⟨j, _, hyj, hyn⟩ := hw.of_frOf hf
        rcases hc.fr_to hw hf with ⟨x, hx, e⟩ | ⟨hx, f, hf2, rfl⟩
        · unfold Go.Proofs.YthfidlhefkjpdaaGreatDoor.lc
          rw [hf, hx]
          simp only
          rw [show x.dirty = y.dirty by rw [e], show x.bytes = y.bytes by rw [e], hc.base]
          by_cases hd : y.dirty = true
          · rw [if_pos hd, if_pos hd]
          · rw [if_neg hd, if_neg hd]
            rcases hD M hM with ⟨f, hf2, hfd, e2, _⟩ | ⟨_, e2⟩
            · have := hw.frOf hf2
              rw [e2, hf] at this
              obtain rfl : y = f := Option.some.inj this
              exact absurd hfd hd
            · exact e2
        · unfold Go.Proofs.YthfidlhefkjpdaaGreatDoor.lc
          rw [hf, hx]
          simp only
          rw [hc.base]
          rcases hD M hM with ⟨f2, hf3, hfd, e2, e3⟩ | ⟨hno, e2⟩
          · rw [hf2] at hf3
            obtain rfl := Option.some.inj hf3
            rw [if_pos hfd, e3]
          · rw [if_neg (fun hd => hno _ hf2 hd hyn), e2]
  · intro k s hs
    unfold Go.Proofs.YthfidlhefkjpdaaGreatDoor.dty at hs ⊢
    cases hx : frOf P' k with
    | none => rw [hx] at hs; cases hs
    | some x =>
      rw [hx] at hs
      rcases hc.fr_back hw hx with ⟨_, e⟩ | ⟨_, y, hy, e⟩
      · simp only [e, hgc] at hs
        simp at hs
      · rw [hy]
        simp only at hs ⊢
        rw [show x.dirty = y.dirty by rw [e], show x.since = y.since by rw [e]] at hs
        exact hs
  · unfold Go.Proofs.YthfidlhefkjpdaaGreatDoor.dty
    rw [hc.fr_new hw]
    simp only
    rw [if_neg (by rw [hgc]; simp)]
  · unfold Go.Proofs.YthfidlhefkjpdaaGreatDoor.dty
    rw [hfN]
  · unfold Go.Proofs.YthfidlhefkjpdaaGreatDoor.lc
    rw [hfN]
end Go.Proofs.YthfidlhefkjpdaaGreatDoor

namespace Go.Proofs.YthfidlhefkjpdaaGreatDoor
open Go.RowKit Go.Maps

/-- A page on the disk that is not as it was is behind its record, and so will be what is dirty. -/
structure Wal (P : Pl) (L : Lg) (D : Dk) (was : Nat → List UInt8) : Prop where
  disk : ∀ N, N < P.count → D.has (P.base + N) = was N ∨ ∃ p : Pg, p.wf ∧ pageOf (D.has (P.base + N)) = some p ∧ p.lsn < L.lsn L.safe
  dirty : ∀ (i : Nat) (f : Frm), P.frames[i]? = some f → f.dirty = true → f.lsn < L.lsn L.stream.length
theorem wrL_safe {L : Lg} (hw : L.wf) (f : Frm) : L.safe ≤ (wrL L f).safe := by
  unfold wrL
  split
  · exact hw.safe
  · exact Nat.le_refl _
theorem wrL_covers {L : Lg} {f : Frm} (hf : f.lsn < L.lsn L.stream.length) : f.lsn < (wrL L f).lsn (wrL L f).safe := by
  unfold wrL
  split
  · exact hf
  · omega
theorem lsn_mono (L : Lg) {a b : Nat} (h : a ≤ b) : L.lsn a ≤ L.lsn b := by unfold Lg.lsn; omega
theorem lsn_run {L L' : Lg} (h : L'.run = L.run) (a : Nat) : L'.lsn a = L.lsn a := by unfold Lg.lsn; rw [h]
theorem come_wal {P P' : Pl} {L L' : Lg} {D D' : Dk} {i0 N : Nat} {g : Frm} {was : Nat → List UInt8} (h : Inv P L D) (hc : Come P P' i0 N g) (he : Evict P P' L L' D D' i0) (hW : Wal P L D was) : Wal P' L' D' was := by
  obtain ⟨_, ⟨l1, l2, l3, l4, l5, l6, l7, l8, l9⟩, hD⟩ := evict_has h he
  have hsafe : L.safe ≤ L'.safe := by
    rcases he with ⟨_, rfl, _, _⟩ | ⟨f, _, rfl, _, _⟩
    · exact Nat.le_refl _
    · unfold evL
      split
      · exact wrL_safe h.ok.lw f
      · exact Nat.le_refl _
  refine ⟨fun M hM => ?_, fun j x hx hd => ?_⟩
  · rw [hc.count] at hM
    rw [hc.base]
    rcases hD M hM with ⟨f, hf, hfd, hfn, e⟩ | ⟨_, e⟩
    · obtain ⟨q, q1, q2, q3, _⟩ := h.fr i0 f hf
      refine .inr ⟨q, q1, by rw [e, q2]; exact pageOf_bytes q1, ?_⟩
      rcases he with ⟨hn, _, _, _⟩ | ⟨f', hf', rfl, _, _⟩
      · rw [hn] at hf; cases hf
      · rw [hf] at hf'
        obtain rfl := Option.some.inj hf'
        unfold evL
        rw [if_pos hfd, ← q3]
        exact wrL_covers (hW.dirty i0 f hf hfd)
    · rw [e]
      rcases hW.disk M hM with q | ⟨q, q1, q2, q3⟩
      · exact .inl q
      · refine .inr ⟨q, q1, q2, ?_⟩
        rw [lsn_run l4]
        exact Int.lt_of_lt_of_le q3 (lsn_mono L hsafe)
  · rcases hc.frames h.wf j x hx with ⟨_, e⟩ | ⟨_, _, y, hy, e⟩
    · rw [e, hc.gc] at hd; cases hd
    · rw [l6, lsn_run l4, show x.lsn = y.lsn by rw [e]]
      exact hW.dirty j y hy (by rw [e] at hd; exact hd)

/-- What fetch leaves. -/
structure Got (P P' : Pl) (L L' : Lg) (D D' : Dk) (i N : Nat) : Prop where
  inv : Inv P' L' D'
  same : Same P P' L L' D D'
  fr : ∃ (f : Frm) (q : Pg), P'.frames[i]? = some f ∧ f.n = (N : Int) ∧ q.wf ∧ f.bytes = bytesP q ∧ f.lsn = q.lsn ∧ pageOf (lc P D N) = some q
  dn : dty P' N = dty P N
  wal : ∀ was, Wal P L D was → Wal P' L' D' was

theorem got_come {P P' : Pl} {L L' : Lg} {D D' : Dk} {i N : Nat} {p : Pg} (h : Inv P L D) (hc : Come P P' i N (newF N p)) (hpw : p.wf) (hp : pageOf (D.has (P.base + N)) = some p) (he : Evict P P' L L' D D' i)
    (hpins : P'.pins = P.pins) (hdead : P'.dead = P.dead) (hst : D.steps + 20000 ≤ 1152921504606846976) : Got P P' L L' D D' i N := by
  obtain ⟨h1, h2, h3, h4, h5⟩ := come_inv h hc rfl hpw hp he hpins hdead hst
  exact ⟨h1, h2, ⟨newF N p, p, hc.gi, rfl, hpw, rfl, rfl, by rw [h5]; exact hp⟩, h3.trans h4.symm, fun was hW => come_wal h hc he hW⟩

theorem fetch_law {P : Pl} {L : Lg} {D : Dk} {N : Nat} {p : Pg} (h : Inv P L D) (hN : N < P.count) (hpw : p.wf) (hp : pageOf (D.has (P.base + N)) = some p) (hst : D.steps + 20000 ≤ 1152921504606846976) {i : Nat} {P' : Pl} {L' : Lg} {D' : Dk}
    (hr : fetchR P L D N p = some (i, P', L', D')) : Got P P' L L' D D' i N := by
  have hw := h.wf
  unfold fetchR at hr
  cases hat : P.atm N with
  | some j =>
    rw [hat] at hr
    obtain ⟨f, hf, hfn⟩ := (hw.atm _ _).1 hat
    simp only [hf, Option.some.injEq, Prod.mk.injEq] at hr
    obtain ⟨rfl, rfl, rfl, rfl⟩ := hr
    have hb := hw.full f (List.mem_of_getElem? hf)
    have hil := (List.getElem?_eq_some_iff.1 hf).1
    obtain ⟨q, q1, q2, q3, q4⟩ := h.fr j f hf
    have hw' : PWf (hitP P j f) := pwf_hit hw hf { f with used := true } rfl hb.2.2
    have hfr : ∀ k, frOf (hitP P j f) k = if k = f.n then some { f with used := true } else frOf P k := fun k => frOf_set hw hf k
    have hff := hw.frOf hf
    have hlc : ∀ M, lc (hitP P j f) D M = lc P D M := fun M => by
      unfold lc
      rw [hfr]
      by_cases hk : (M : Int) = f.n
      · rw [if_pos hk, hk, hff]; rfl
      · rw [if_neg hk]; rfl
    have hdt : ∀ k, dty (hitP P j f) k = dty P k := fun k => by
      unfold dty
      rw [hfr]
      by_cases hk : k = f.n
      · rw [if_pos hk, hk, hff]
      · rw [if_neg hk]
    refine ⟨⟨hw', ⟨h.ok.lw, h.ok.ld, h.ok.dw, h.ok.dp, h.ok.doff, h.ok.lf, h.ok.pd, h.ok.pb, h.ok.st⟩, h.log, ?_, h.pg, h.loose⟩, ⟨⟨rfl, rfl, rfl, rfl, rfl, rfl, rfl, rfl, rfl, rfl, rfl, rfl, by have := h.ok.lw.count; omega, rfl⟩, rfl, fun M _ => hlc M, fun k s hs => by rw [hdt] at hs; exact hs⟩, ⟨{ f with used := true }, q, set_get.2 (.inl ⟨rfl, hil, rfl⟩), hfn, q1, q2, q3, ?_⟩, hdt _, fun was hW => ⟨hW.disk, fun k x hx hd => ?_⟩⟩
    · intro k x hx
      rcases set_get.1 hx with ⟨rfl, _, rfl⟩ | ⟨_, hx⟩
      · exact ⟨q, q1, q2, q3, q4⟩
      · exact h.fr k x hx
    · unfold lc
      rw [show (N : Int) = f.n from hfn.symm, hff]
      simp only
      by_cases hd : f.dirty = true
      · rw [if_pos hd, q2]
        exact pageOf_bytes q1
      · rw [if_neg hd]
        have := q4 (by simpa using hd)
        rw [hfn, Int.toNat_natCast] at this
        exact this
    · rcases set_get.1 hx with ⟨rfl, _, rfl⟩ | ⟨_, hx⟩
      · exact hW.dirty k f hf hd
      · exact hW.dirty k x hx hd
  | none =>
    rw [hat] at hr
    simp only at hr
    by_cases hlt : P.frames.length < P.most
    · rw [if_pos hlt] at hr
      simp only [Option.some.injEq, Prod.mk.injEq] at hr
      obtain ⟨rfl, rfl, rfl, rfl⟩ := hr
      have hnone : P.frames[P.frames.length]? = none := List.getElem?_eq_none (Nat.le_refl _)
      have hfs : ((P.frames ++ [frm0]).set P.frames.length (newF N p)) = P.frames ++ [newF N p] := by rw [List.set_append_right _ _ (Nat.le_refl _), Nat.sub_self]; rfl
      refine got_come h ⟨rfl, rfl, bytesP_length hpw, ?_, ?_, ?_, ?_, hat, hN, ?_, ?_, rfl, rfl, rfl⟩ hpw hp (.inl ⟨hnone, rfl, rfl, rfl⟩) rfl rfl hst
      · show ((P.frames ++ [frm0]).set P.frames.length (newF N p))[P.frames.length]? = _
        rw [hfs]; simp
      · intro j x hj hx
        have hx' : (P.frames ++ [newF N p])[j]? = some x := by rw [← hfs]; exact hx
        by_cases hjl : j < P.frames.length
        · rw [List.getElem?_append_left hjl] at hx'
          exact ⟨x, hx', rfl⟩
        · rw [List.getElem?_eq_none (by simp; omega)] at hx'
          cases hx'
      · intro j y hj hy
        refine ⟨y, ?_, rfl⟩
        show ((P.frames ++ [frm0]).set P.frames.length (newF N p))[j]? = _
        rw [hfs, List.getElem?_append_left (List.getElem?_eq_some_iff.1 hy).1]
        exact hy
      · intro k
        show (if k = (N : Int) then some P.frames.length else P.atm k) = _
        rw [if_neg (c := ∃ f : Frm, P.frames[P.frames.length]? = some f ∧ f.n = k) (by rintro ⟨f, hf, _⟩; rw [hnone] at hf; cases hf)]
      · show ((P.frames ++ [frm0]).set P.frames.length (newF N p)).length ≤ P.most
        rw [hfs]; simp; omega
      · show P.hand < max ((P.frames ++ [frm0]).set P.frames.length (newF N p)).length 1
        rw [hfs]
        have := hw.hand
        simp
        omega
    · rw [if_neg hlt] at hr
      have hv1 := vict_same P.pins (2 * P.frames.length) P.frames P.hand P.frames (SameF.refl _)
      have hn0 : 0 < P.frames.length := by have := hw.m1; omega
      have hv2 := vict_hand P.pins (2 * P.frames.length) P.frames P.hand (by have := hw.hand; omega)
      split at hr
      · rename_i j fs hd hv
        rw [hv] at hv1 hv2
        simp only at hv1 hv2
        split at hr
        · rename_i f hf
          simp only [Option.some.injEq, Prod.mk.injEq] at hr
          obtain ⟨rfl, rfl, rfl, rfl⟩ := hr
          obtain ⟨g, hg, hfg⟩ := hv1.2 j f hf
          have hjl := (List.getElem?_eq_some_iff.1 hf).1
          have hfs : ((fs.set j frm0).set j (newF N p)) = fs.set j (newF N p) := List.set_set ..
          refine got_come h ⟨rfl, rfl, bytesP_length hpw, ?_, ?_, ?_, ?_, hat, hN, ?_, ?_, rfl, rfl, rfl⟩ hpw hp (.inr ⟨g, hg, by rw [hfg]; rfl, by rw [hfg]; rfl, by rw [hfg]; rfl⟩) rfl rfl hst
          · show ((fs.set j frm0).set j (newF N p))[j]? = _
            rw [hfs]
            exact set_get.2 (.inl ⟨rfl, hjl, rfl⟩)
          · intro k x hk hx
            have hx' : (fs.set j (newF N p))[k]? = some x := by rw [← hfs]; exact hx
            rcases set_get.1 hx' with ⟨e, _⟩ | ⟨_, hx2⟩
            · exact absurd e hk
            · exact hv1.2 k x hx2
          · intro k y hk hy
            have hkl : k < fs.length := by rw [hv1.1]; exact (List.getElem?_eq_some_iff.1 hy).1
            obtain ⟨g2, hg2, e⟩ := hv1.2 k _ (List.getElem?_eq_getElem hkl)
            rw [hy] at hg2
            obtain rfl := Option.some.inj hg2
            refine ⟨fs[k], ?_, e⟩
            show ((fs.set j frm0).set j (newF N p))[k]? = _
            rw [hfs]
            exact set_get.2 (.inr ⟨hk, List.getElem?_eq_getElem hkl⟩)
          · intro k
            show (if k = (N : Int) then some j else if k = f.n then none else P.atm k) = _
            by_cases hk : k = f.n
            · rw [if_pos hk, if_pos (c := ∃ f : Frm, P.frames[j]? = some f ∧ f.n = k) ⟨g, hg, by rw [hk, hfg]⟩]
            · rw [if_neg hk, if_neg (c := ∃ f : Frm, P.frames[j]? = some f ∧ f.n = k) (by
                rintro ⟨f2, hf2, e⟩
                rw [hg] at hf2
                obtain rfl := Option.some.inj hf2
                exact hk (by rw [← e, hfg]))]
          · show ((fs.set j frm0).set j (newF N p)).length ≤ P.most
            rw [hfs, List.length_set, hv1.1]
            exact hw.len
          · show hd < max ((fs.set j frm0).set j (newF N p)).length 1
            rw [hfs, List.length_set, hv1.1]
            omega
        · cases hr
      · cases hr

theorem fetch_can {P : Pl} {L : Lg} {D : Dk} {N : Nat} {p : Pg} (h : Inv P L D) (hnp : ∀ k, (P.pins k).getD 0 ≤ 0) : ∃ r, fetchR P L D N p = some r := by
  have hw := h.wf
  unfold fetchR
  cases hat : P.atm N with
  | some j =>
    obtain ⟨f, hf, hfn⟩ := (hw.atm _ _).1 hat
    simp only [hf]
    exact ⟨_, rfl⟩
  | none =>
    simp only
    by_cases hlt : P.frames.length < P.most
    · rw [if_pos hlt]; exact ⟨_, rfl⟩
    · rw [if_neg hlt]
      have hn0 : 0 < P.frames.length := by have := hw.m1; omega
      have hc : P.frames.countP (·.used) ≤ P.frames.length := List.countP_le_length
      obtain ⟨i, hi⟩ := vict_nopin P.pins hnp (2 * P.frames.length) P.frames P.hand (by omega) (by have := hw.hand; omega)
      have hl := vict_lt P.pins _ _ _ _ hi
      have hv1 := vict_same P.pins (2 * P.frames.length) P.frames P.hand P.frames (SameF.refl _)
      obtain ⟨v1, hd⟩ : ∃ v, vict P.pins (2 * P.frames.length) P.frames P.hand = v := ⟨_, rfl⟩
      obtain ⟨o, fs, hh⟩ := v1
      rw [hd] at hi hv1 ⊢
      simp only at hi hv1
      subst hi
      simp only
      rw [List.getElem?_eq_getElem (show i < fs.length by rw [hv1.1]; exact hl)]
      exact ⟨_, rfl⟩
end Go.Proofs.YthfidlhefkjpdaaGreatDoor

namespace Go.Proofs.YthfidlhefkjpdaaGreatDoor
open Go.RowKit Go.Maps

theorem put_law {P : Pl} {L : Lg} {D : Dk} {i N : Nat} {f : Frm} {q : Pg} (h : Inv P L D) (hf : P.frames[i]? = some f) (hn : f.n = (N : Int)) (hq : q.wf) :
    Inv (putP P i f q) L D ∧ (∀ M, lc (putP P i f q) D M = if M = N then bytesP q else lc P D M) ∧ (∀ k, dty (putP P i f q) k = if k = (N : Int) then some ((dty P N).getD q.lsn) else dty P k) := by
  have hw := h.wf
  have hil := (List.getElem?_eq_some_iff.1 hf).1
  have hb := hw.full f (List.mem_of_getElem? hf)
  have hff := hw.frOf hf
  rw [hn] at hff
  have hw' : PWf (putP P i f q) := pwf_hit hw hf (putF f q) rfl (bytesP_length hq)
  have hfr : ∀ k, frOf (putP P i f q) k = if k = (N : Int) then some (putF f q) else frOf P k := fun k => by rw [← hn]; exact frOf_set hw hf k
  refine ⟨⟨hw', ⟨h.ok.lw, h.ok.ld, h.ok.dw, h.ok.dp, h.ok.doff, h.ok.lf, h.ok.pd, h.ok.pb, h.ok.st⟩, h.log, ?_, h.pg, h.loose⟩, fun M => ?_, fun k => ?_⟩
  · intro j x hx
    rcases set_get.1 hx with ⟨rfl, _, rfl⟩ | ⟨_, hx⟩
    · exact ⟨q, hq, rfl, rfl, fun e => by cases e⟩
    · exact h.fr j x hx
  · unfold lc
    rw [hfr]
    by_cases hk : M = N
    · rw [if_pos (by omega), if_pos hk]
      rfl
    · rw [if_neg (by omega), if_neg hk]
      rfl
  · unfold dty
    rw [hfr]
    by_cases hk : k = (N : Int)
    · rw [if_pos hk, if_pos hk, hff]
      show some (if f.dirty = true then f.since else q.lsn) = _
      by_cases hd : f.dirty = true
      · simp [hd]
      · simp [hd]
    · rw [if_neg hk, if_neg hk]

theorem wrS_law {P : Pl} {L : Lg} {D : Dk} {i : Nat} {f : Frm} (h : Inv P L D) (hf : P.frames[i]? = some f) (hd : f.dirty = true) (hst : D.steps + 20000 ≤ 1152921504606846976) :
    Inv (wrP P i f) (wrL L f) (wrD D L f P.base) ∧ (∀ M, M < P.count → lc (wrP P i f) (wrD D L f P.base) M = lc P D M) ∧ (wrD D L f P.base).steps ≤ D.steps + 4098 ∧ (wrD D L f P.base).sec.length = D.sec.length := by
  have hw := h.wf
  have hil := (List.getElem?_eq_some_iff.1 hf).1
  have hb := hw.full f (List.mem_of_getElem? hf)
  have hcn := h.ok.lw.count
  obtain ⟨h1, h2, h3, h4, h5, h6⟩ := wr_next h.ok hb.1 hb.2.1 hb.2.2 h.log
  have hok := wr_ok (i := i) h.ok hb.1 hb.2.1 hb.2.2 h.log (by omega)
  obtain ⟨e1, e2, -⟩ := wrL_same L f
  obtain ⟨q, q1, q2, q3, q4⟩ := h.fr i f hf
  have hw0 : PWf (wrP P i f) := by
    have := pwf_hit hw hf { f with dirty := false } rfl hb.2.2
    exact ⟨this.m1, this.m2, this.len, this.hand, this.full, this.count, this.atm, this.inj⟩
  have hfr : ∀ k, frOf (wrP P i f) k = if k = f.n then some { f with dirty := false } else frOf P k := fun k => frOf_set hw hf k
  have hff := hw.frOf hf
  have hfn : f.n = (f.n.toNat : Int) := by omega
  refine ⟨⟨hw0, hok, by rw [e1, e2]; exact h.log, ?_, ?_, ?_⟩, fun M hM => ?_, by omega, h4⟩
  · intro j x hx
    rcases set_get.1 hx with ⟨rfl, _, rfl⟩ | ⟨hj, hx⟩
    · refine ⟨q, q1, q2, q3, fun _ => ?_⟩
      show pageOf ((wrD D L f P.base).has (P.base + f.n.toNat)) = _
      rw [h6 _ (by omega), if_pos hfn, q2]
      exact pageOf_bytes q1
    · obtain ⟨r, r1, r2, r3, r4⟩ := h.fr j x hx
      have hxb := hw.full x (List.mem_of_getElem? hx)
      refine ⟨r, r1, r2, r3, fun hc => ?_⟩
      show pageOf ((wrD D L f P.base).has (P.base + x.n.toNat)) = _
      rw [h6 _ (by omega), if_neg (fun e => hj (hw.inj j i x f hx hf (by omega)))]
      exact r4 hc
  · intro M hM
    show ∃ p : Pg, p.wf ∧ pageOf ((wrD D L f P.base).has (P.base + M)) = some p
    rw [h6 M hM]
    by_cases hk : f.n = (M : Int)
    · rw [if_pos hk, q2]
      exact ⟨q, q1, pageOf_bytes q1⟩
    · rw [if_neg hk]
      exact h.pg M hM
  · intro e; cases e
  · unfold lc
    rw [hfr]
    by_cases hk : (M : Int) = f.n
    · rw [if_pos hk, hk, hff]
      simp only
      rw [if_pos hd, if_neg (by simp)]
      show (wrD D L f P.base).has (P.base + M) = _
      rw [h6 M hM, if_pos hk.symm]
    · rw [if_neg hk]
      have e : (wrD D L f P.base).has ((wrP P i f).base + M) = D.has (P.base + M) := by
        show (wrD D L f P.base).has (P.base + M) = _
        rw [h6 M hM, if_neg (fun e => hk e.symm)]
      rw [e]

theorem put_wal {P : Pl} {L : Lg} {D : Dk} {i : Nat} {f : Frm} {q : Pg} {was : Nat → List UInt8} (hq : q.lsn < L.lsn L.stream.length) (hW : Wal P L D was) : Wal (putP P i f q) L D was :=
  ⟨hW.disk, fun k x hx hd => by
    rcases set_get.1 hx with ⟨rfl, _, rfl⟩ | ⟨_, hx⟩
    · exact hq
    · exact hW.dirty k x hx hd⟩
theorem wrS_wal {P : Pl} {L : Lg} {D : Dk} {i : Nat} {f : Frm} {was : Nat → List UInt8} (h : Inv P L D) (hf : P.frames[i]? = some f) (hd : f.dirty = true) (hW : Wal P L D was) : Wal (wrP P i f) (wrL L f) (wrD D L f P.base) was := by
  have hb := h.wf.full f (List.mem_of_getElem? hf)
  obtain ⟨_, _, _, _, _, h6⟩ := wr_next h.ok hb.1 hb.2.1 hb.2.2 h.log
  obtain ⟨l1, l2, l3, l4, l5, _⟩ := wrL_same L f
  refine ⟨fun M hM => ?_, fun k x hx hxd => ?_⟩
  · show (wrD D L f P.base).has (P.base + M) = was M ∨ ∃ p : Pg, p.wf ∧ pageOf ((wrD D L f P.base).has (P.base + M)) = some p ∧ _
    rw [h6 M hM]
    by_cases hk : f.n = (M : Int)
    · rw [if_pos hk]
      obtain ⟨q, q1, q2, q3, _⟩ := h.fr i f hf
      refine .inr ⟨q, q1, by rw [q2]; exact pageOf_bytes q1, ?_⟩
      rw [← q3]
      exact wrL_covers (hW.dirty i f hf hd)
    · rw [if_neg hk]
      rcases hW.disk M hM with q | ⟨q, q1, q2, q3⟩
      · exact .inl q
      · refine .inr ⟨q, q1, q2, ?_⟩
        rw [lsn_run l3]
        exact Int.lt_of_lt_of_le q3 (lsn_mono L (wrL_safe h.ok.lw f))
  · rw [l5, lsn_run l3]
    rcases set_get.1 hx with ⟨rfl, _, rfl⟩ | ⟨_, hx⟩
    · cases hxd
    · exact hW.dirty k x hx hxd

/-- Behind the writes of some dirty frames. -/
structure Wrote (P : Pl) (L : Lg) (D : Dk) (dx : List Nat) (s : Pl × Lg × Dk) : Prop where
  inv : Inv s.1 s.2.1 s.2.2
  lc : ∀ M, M < P.count → lc s.1 s.2.2 M = lc P D M
  frames : ∀ (j : Nat) (x : Frm), s.1.frames[j]? = some x → ∃ y : Frm, P.frames[j]? = some y ∧ x.n = y.n ∧ x.dirty = (y.dirty && !decide (j ∈ dx)) ∧ x.since = y.since
  len : s.1.frames.length = P.frames.length
  base : s.1.base = P.base
  count : s.1.count = P.count
  most : s.1.most = P.most
  pins : s.1.pins = P.pins
  dead : s.1.dead = P.dead
  log : s.2.1.first = L.first ∧ s.2.1.count = L.count ∧ s.2.1.run = L.run ∧ s.2.1.most = L.most ∧ s.2.1.stream = L.stream ∧ s.2.1.nrec = L.nrec ∧ s.2.1.old = L.old ∧ s.2.1.dead = L.dead
  steps : s.2.2.steps ≤ D.steps + dx.length * 4098
  sec : s.2.2.sec.length = D.sec.length
  wal : ∀ was, Wal P L D was → Wal s.1 s.2.1 s.2.2 was

theorem wrAll_law : ∀ (dx : List Nat) (P : Pl) (L : Lg) (D : Dk), Inv P L D → dx.Nodup → (∀ i ∈ dx, ∃ f : Frm, P.frames[i]? = some f ∧ f.dirty = true) → D.steps + dx.length * 4098 + 20000 ≤ 1152921504606846976 → Wrote P L D dx (wrAll P L D dx)
  | [], P, L, D, h, _, _, _ => ⟨h, fun _ _ => rfl, fun j x hx => ⟨x, hx, rfl, by simp, rfl⟩, rfl, rfl, rfl, rfl, rfl, rfl, ⟨rfl, rfl, rfl, rfl, rfl, rfl, rfl, rfl⟩, by show D.steps ≤ _; simp, rfl, fun _ h => h⟩
  | i :: r, P, L, D, h, hnd, hdir, hst => by
    obtain ⟨f, hf, hd⟩ := hdir i (List.mem_cons_self ..)
    have hl : (((i :: r).length : Nat) : Int) = (r.length : Int) + 1 := by simp
    obtain ⟨h1, h2, h3, h4⟩ := wrS_law h hf hd (by rw [hl] at hst; omega)
    have hir := (List.nodup_cons.1 hnd).1
    have e : wrAll P L D (i :: r) = wrAll (wrP P i f) (wrL L f) (wrD D L f P.base) r := by
      show List.foldl wrS (wrS (P, L, D) i) r = _
      unfold wrS
      rw [hf]
      rfl
    have hget : ∀ j, j ≠ i → (wrP P i f).frames[j]? = P.frames[j]? := fun j hj => List.getElem?_set_ne (fun e => hj e.symm)
    have ih := wrAll_law r (wrP P i f) (wrL L f) (wrD D L f P.base) h1 (List.nodup_cons.1 hnd).2 (fun j hj => by
      obtain ⟨g, hg, hgd⟩ := hdir j (List.mem_cons_of_mem _ hj)
      exact ⟨g, by rw [hget j (fun e => hir (by rw [← e]; exact hj))]; exact hg, hgd⟩) (by rw [hl] at hst; omega)
    rw [e]
    obtain ⟨l1, l2, l3, l4, l5, l6, l7⟩ := wrL_same L f
    have l8 : (wrL L f).nrec = L.nrec := by unfold wrL; split <;> rfl
    refine ⟨ih.inv, fun M hM => (ih.lc M hM).trans (h2 M hM), fun j x hx => ?_, ih.len.trans (by show (P.frames.set _ _).length = _; rw [List.length_set]), ih.base, ih.count, ih.most, ih.pins, ih.dead, ?_, ?_, ih.sec.trans h4, fun was hW => ih.wal was (wrS_wal h hf hd hW)⟩
    · obtain ⟨y, y1, y2, y3, y4⟩ := ih.frames j x hx
      by_cases hj : j = i
      · subst hj
        rcases set_get.1 y1 with ⟨_, _, rfl⟩ | ⟨hne, _⟩
        · exact ⟨f, hf, y2, by rw [y3]; simp, y4⟩
        · exact absurd rfl hne
      · rw [hget j hj] at y1
        exact ⟨y, y1, y2, by rw [y3]; simp [hj], y4⟩
    · obtain ⟨k1, k2, k3, k4, k5, k6, k7, k8⟩ := ih.log
      exact ⟨k1.trans l1, k2.trans l2, k3.trans l3, k4.trans l4, k5.trans l5, k6.trans l8, k7.trans l6, k8.trans l7⟩
    · have := ih.steps
      rw [hl]
      omega

theorem dirtyIx_nodup {P : Pl} (hw : PWf P) {ks : List Int} (hk : KeysOf P.atm ks) : (dirtyIx P ks).Nodup := by
  unfold dirtyIx
  refine List.Pairwise.filter _ ?_
  refine List.Pairwise.filterMap P.atm (R := fun a b => a < b) ?_ hk.1
  intro a b hab x hx y hy e
  subst e
  obtain ⟨f, h1, h2⟩ := (hw.atm a x).1 hx
  obtain ⟨g, h3, h4⟩ := (hw.atm b x).1 hy
  rw [h1] at h3
  obtain rfl := Option.some.inj h3
  omega
theorem dirtyIx_all {P : Pl} (hw : PWf P) {ks : List Int} (hk : KeysOf P.atm ks) {i : Nat} {f : Frm} (hf : P.frames[i]? = some f) (hd : f.dirty = true) : i ∈ dirtyIx P ks := by
  have ha := (hw.atm f.n i).2 ⟨f, hf, rfl⟩
  refine List.mem_filter.2 ⟨List.mem_filterMap.2 ⟨f.n, (hk.2 _).2 (by rw [ha]; rfl), ha⟩, ?_⟩
  unfold dirtyOf
  rw [hf]
  exact hd

/-- What Flush leaves: all is on the disk, nothing is dirty. -/
structure Flushed (P P' : Pl) (L L' : Lg) (D D' : Dk) : Prop where
  inv : Inv P' L' D'
  lc : ∀ M, M < P.count → D'.has (P.base + M) = lc P D M
  pend : ∀ k, D'.pend k = none
  clean : ∀ f ∈ P'.frames, f.dirty = false
  base : P'.base = P.base
  count : P'.count = P.count
  most : P'.most = P.most
  pins : P'.pins = P.pins
  dead : P'.dead = P.dead
  log : L'.first = L.first ∧ L'.count = L.count ∧ L'.run = L.run ∧ L'.most = L.most ∧ L'.stream = L.stream ∧ L'.nrec = L.nrec ∧ L'.old = L.old ∧ L'.dead = L.dead
  steps : D'.steps ≤ D.steps + 300000
  sec : D'.sec.length = D.sec.length
  wal : ∀ was, Wal P L D was → Wal P' L' D' was

theorem lc_clean {P : Pl} {D : Dk} (hc : ∀ f ∈ P.frames, f.dirty = false) (M : Nat) : lc P D M = D.has (P.base + M) := by
  unfold lc
  cases hf : frOf P M with
  | none => rfl
  | some f =>
    have hm : f ∈ P.frames := by
      unfold frOf at hf
      cases ha : P.atm M with
      | none => rw [ha] at hf; cases hf
      | some i =>
        rw [ha] at hf
        exact List.mem_of_getElem? hf
    simp only
    rw [if_neg (by rw [hc f hm]; simp)]

theorem flush_law {P : Pl} {L : Lg} {D : Dk} {ks : List Int} (h : Inv P L D) (hk : KeysOf P.atm ks) (hst : D.steps + 600000 ≤ 1152921504606846976) : Flushed P (flushR P L D ks).1 L (flushR P L D ks).2.1 D (flushR P L D ks).2.2 := by
  have hw := h.wf
  have hlen : (dirtyIx P ks).length ≤ 64 := by
    have h1 := dirtyIx_len P ks
    have h2 := hw.keys_len hk
    have := hw.len; have := hw.m2; omega
  have hW := wrAll_law (dirtyIx P ks) P L D h (dirtyIx_nodup hw hk) (fun i hi => dirtyIx_mem hw hi) (by omega)
  unfold flushR
  obtain ⟨s, hs⟩ : ∃ s, wrAll P L D (dirtyIx P ks) = s := ⟨_, rfl⟩
  rw [hs] at hW ⊢
  obtain ⟨P1, L1, D1⟩ := s
  have hcl : ∀ f ∈ P1.frames, f.dirty = false := fun f hf => by
    obtain ⟨j, hj, rfl⟩ := List.mem_iff_getElem.1 hf
    obtain ⟨y, y1, y2, y3, y4⟩ := hW.frames j _ (List.getElem?_eq_getElem hj)
    rw [y3]
    by_cases hd : y.dirty = true
    · rw [hd, decide_eq_true (dirtyIx_all hw hk y1 hd)]; rfl
    · rw [Bool.not_eq_true] at hd
      rw [hd]; rfl
  have hbase : P1.base = P.base := hW.base
  have hcnt : P1.count = P.count := hW.count
  have hsec : D1.sec.length = D.sec.length := hW.sec
  have hstp : D1.steps ≤ D.steps + (dirtyIx P ks).length * 4098 := hW.steps
  have hW1 : ∀ was, Wal P L D was → Wal P1 L1 D1 was := hW.wal
  have hi := hW.inv
  simp only at hi
  have hlc : ∀ M, M < P.count → D1.has (P.base + M) = lc P D M := fun M hM => by
    rw [← hW.lc M hM]
    show _ = lc P1 D1 M
    rw [lc_clean hcl, hbase]
  simp only
  by_cases hl : P1.loose = true
  · rw [if_pos hl]
    have hpb := h.ok.pb
    have hhas : ∀ M, M < P.count → D1.sync.has (P.base + M) = D1.has (P.base + M) := fun M hM => Dk.sync_has (by omega)
    have hss : D1.sync.steps = D1.steps + 1 := rfl
    have hsl : D1.sync.sec.length = D1.sec.length := by simp [Dk.sync]
    have hw1 := hi.wf
    refine ⟨⟨⟨hw1.m1, hw1.m2, hw1.len, hw1.hand, hw1.full, hw1.count, hw1.atm, hw1.inj⟩, ⟨hi.ok.lw, hi.ok.ld, Dk.sync_wf hi.ok.dw (by omega), hi.ok.dp, hi.ok.doff, by rw [hsl]; exact hi.ok.lf, hi.ok.pd, by rw [hsl]; exact hi.ok.pb, by rw [hss]; omega⟩, hi.log, ?_, ?_, fun _ _ => rfl⟩, fun M hM => (hhas M hM).trans (hlc M hM), fun _ => rfl, hcl, hbase, hcnt, hW.most, hW.pins, hW.dead, hW.log, by rw [hss]; omega, hsl.trans hsec, fun was hW => ?_⟩
    · intro j x hx
      obtain ⟨q, q1, q2, q3, q4⟩ := hi.fr j x hx
      have hxb := hw1.full x (List.mem_of_getElem? hx)
      refine ⟨q, q1, q2, q3, fun hc => ?_⟩
      show pageOf (D1.sync.has (P1.base + x.n.toNat)) = _
      rw [hbase, hhas _ (by omega), ← hbase]
      exact q4 hc
    · intro M hM
      show ∃ p : Pg, p.wf ∧ pageOf (D1.sync.has (P1.base + M)) = some p
      have hM' : M < P1.count := hM
      rw [hbase, hhas _ (by omega), ← hbase]
      exact hi.pg M hM
    · have h1 := hW1 was hW
      refine ⟨fun M hM => ?_, h1.dirty⟩
      have hM' : M < P1.count := hM
      have := h1.disk M hM
      show D1.sync.has (P1.base + M) = was M ∨ ∃ p : Pg, p.wf ∧ pageOf (D1.sync.has (P1.base + M)) = some p ∧ _
      rw [hbase, hhas _ (by omega), ← hbase]
      exact this
  · rw [if_neg hl]
    rw [Bool.not_eq_true] at hl
    exact ⟨hi, hlc, hi.loose hl, hcl, hbase, hcnt, hW.most, hW.pins, hW.dead, hW.log, by show D1.steps ≤ _; omega, hsec, hW1⟩
end Go.Proofs.YthfidlhefkjpdaaGreatDoor

namespace Go.Proofs.YthfidlhefkjpdaaGreatDoor
open Go.RowKit Go.Maps

set_option maxRecDepth 100000 in
theorem insert_long (base g : Nat) (p : Pg) (A : Option Addr) (n c : Nat) (w : World) (hP : PageAt w base g p) (hk : p.items.length ≤ 100) (hl : 200 < n) :
    Calls Tryz.prog 51 #[.pointer (some ⟨g, 0, none⟩), .int .i64 (p.items.length : Int), .slice A n c] w fun e w' => e = .returned (.int .i64 4) ∧ w = w' := by
  have hbad := bad_any base g p p.items.length w hP
  obtain ⟨_, v, vs, hB, hO, hR⟩ := hP
  obtain ⟨i1, cap, rfl, hcap, hmax, hform⟩ := own_form hO
  have c3 := hB.cell 3
  simp at c3
  clear hB hO hR hcap hmax hform
  have h1 : decide ((200 : Int) < (n : Int)) = true := by simp; omega
  have hd : decide (p.items.length ≤ p.items.length) = true := by simp
  rw [hd] at hbad
  have hnn : ((p.items.length : Int) != (p.items.length : Int)) = false := by simp
  clear hd
  go_enter Tryz.func51, Tryz.ntmps51
  go_wp2_with fail
  refine hbad.mono ?_
  rintro e w' ⟨rfl, rfl⟩
  go_wp2_with fail
  go_ret
  exact ⟨rfl, rfl⟩

/-- The page that the law's one makes. -/
def oneP (x : List UInt8) : Pg := if x.length ≤ 200 then ⟨0, 1, 5, [x]⟩ else ⟨0, 1, 5, []⟩
theorem oneP_wf (x : List UInt8) : (oneP x).wf := by
  unfold oneP
  split
  · rename_i h
    exact ⟨by simp, by simp, by simp, by simp, by simpa using h, by simp [tot]; omega⟩
  · exact ⟨by simp, by simp, by simp, by simp, by simp, by simp [tot]⟩

set_option maxRecDepth 100000 in
theorem one_any (A : Option Addr) (n c : Nat) (x : List UInt8) (w : World) (hx : RdB w A n x) :
    Calls Tryz.prog 13 #[.slice A n c] w fun e w' => ∃ g, e = .returned (.pointer (some ⟨g, 0, none⟩)) ∧ PageAt w' w.heap.size g (oneP x) ∧ Below w.heap.size w w' := by
  have hpn := pageNew_any 1 5 w (by omega) (by omega)
  have hln := hx.1
  subst hln
  have HX : Aside (∀ W, Below w.heap.size w W → RdB W A x.length x) := ⟨fun W hW => hx.below hW⟩
  clear hx
  go_enter Tryz.func13, Tryz.ntmps13
  go_wp2_with fail
  refine hpn.mono ?_
  rintro e w1 ⟨rfl, hP1, hb1⟩
  have H1 : Aside (PageAt w1 w.heap.size w.heap.size ⟨0, 1, 5, []⟩ ∧ Below w.heap.size w w1) := ⟨hP1, hb1⟩
  clear hP1 hb1 hpn
  go_wp2_with fail
  by_cases hl : x.length ≤ 200
  · have hins := insert_ok w.heap.size w.heap.size ⟨0, 1, 5, []⟩ A c x w1 H1.out.1 ⟨by simp, by simp, by simp, by simp, by simp, by simp [tot]⟩ (HX.out _ H1.out.2) hl (by simp [roomOf, tot]; omega) H1.out.2.size
    have ho : oneP x = ⟨0, 1, 5, [x]⟩ := by unfold oneP; rw [if_pos hl]
    clear hl
    refine hins.mono ?_
    rintro e w2 ⟨rfl, hP2, hb2⟩
    have H2 : Aside (PageAt w2 w.heap.size w.heap.size (oneP x) ∧ Below w.heap.size w w2) := ⟨by rw [ho]; exact hP2, H1.out.2.trans hb2⟩
    clear hP2 hb2 hins ho
    go_wp2_with fail
    go_ret
    exact ⟨_, rfl, H2.out⟩
  · have hins := insert_long w.heap.size w.heap.size ⟨0, 1, 5, []⟩ A x.length c w1 H1.out.1 (by simp) (by omega)
    have ho : oneP x = ⟨0, 1, 5, []⟩ := by unfold oneP; rw [if_neg hl]
    have HO := hid ho
    clear hl ho
    refine hins.mono ?_
    rintro e w2 ⟨rfl, rfl⟩
    clear hins
    go_wp2_with fail
    go_ret
    exact ⟨_, rfl, by rw [HO.out]; exact H1.out.1, H1.out.2⟩
end Go.Proofs.YthfidlhefkjpdaaGreatDoor
