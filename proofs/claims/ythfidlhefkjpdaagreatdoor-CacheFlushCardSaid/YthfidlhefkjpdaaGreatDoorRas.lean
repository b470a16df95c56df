/- What a pool's calls keep; the bounds of its maps; the reference's pool that holds nothing.
   CacheDirty: plain part.
   skeinlaw10.asks where the reference's pool holds nothing: Pin, Unpin, the pool's flush, the log's.
   disk.On where nothing waits: the disk stays as it is.
   skeinref01.Same on slices that read alike. -/
import Derived.Test.YthfidlhefkjpdaaGreatDoorRar
import Derived.Laws.ResultCell
import Derived.Test.YthfidlhefkjpdaaGreatDoorRac
import Derived.Test.YthfidlhefkjpdaaGreatDoorRag
import Derived.Deep.RegionHeld3
namespace Go.Proofs.YthfidlhefkjpdaaGreatDoor
open Go.RowKit Go.Maps

/-- A map whose keys all lie under M has no more than M entries. -/
theorem MapAt.tight {P : Program} {kt : TypeId} {w : World} {b n : Nat} {m : Int → Option Value} (h : MapAt P kt w b n m) (hk : P.underlying kt = some (.int .i64)) {M : Nat} (hM : ∀ k, (m k).isSome = true → 0 ≤ k ∧ k < M) : MapAt P kt w b M m := by
  obtain ⟨D, hown, h2, h3⟩ := h
  obtain ⟨k1, k2, k3⟩ := keys_facts hown hk
  obtain ⟨es, c, hb, F, hs, hD⟩ := hown
  refine ⟨D, ⟨es, c, hb, F, ?_, hD⟩, h2, h3⟩
  have e1 : Maps.size D = es.size := by rw [hD]; simp [Maps.size, length_sorted]
  rw [← e1, ← k3]
  have hsub : (intKeys D) ⊆ (List.range M).map (fun i : Nat => (i : Int)) := fun x hx => by
    rw [k2, h3] at hx
    obtain ⟨h4, h5⟩ := hM x hx
    exact List.mem_map.2 ⟨x.toNat, List.mem_range.2 (by omega), by omega⟩
  have := k1.length_le_of_subset hsub
  rwa [List.length_map, List.length_range] at this

/-- The pins are of the pool's pages, each counted once at least and m times at most. -/
def PinsOk (P : Pl) (m : Nat) : Prop := ∀ k, (P.pins k).isSome = true → 0 ≤ k ∧ k < P.count ∧ 1 ≤ (P.pins k).getD 0 ∧ (P.pins k).getD 0 ≤ m

theorem PinsOk.range {P : Pl} {m : Nat} (h : PinsOk P m) (k : Int) : 0 ≤ (P.pins k).getD 0 ∧ (P.pins k).getD 0 ≤ m := by
  cases hk : P.pins k with
  | none => simp
  | some x =>
    have := h k (by rw [hk]; rfl)
    rw [hk] at this
    omega

set_option maxRecDepth 100000 in
theorem PSt.tight {w : World} {a : Ad} {P : Pl} {L : Lg} {D : Dk} {m : Nat} (h : PSt w a P L D) (hw : PWf P) (hp : PinsOk P m) : PSt w { a with ma := P.count, mn := P.count } P L D := by
  refine ⟨⟨h.ld.disk, h.ld.log, h.ld.bd, h.ld.bs, h.ld.bm⟩, ⟨h.pool.blk, h.pool.row, h.pool.blen, h.pool.each, h.pool.nodup, h.pool.atm.tight (by kernel_rfl) fun k hk => ?_, h.pool.pin.tight (by kernel_rfl) fun k hk => ?_, h.pool.lp, h.pool.la, h.pool.ln, h.pool.ne⟩, h.lb, h.lg⟩
  · unfold atV at hk
    rw [Option.isSome_map] at hk
    obtain ⟨i, hi⟩ := Option.isSome_iff_exists.1 hk
    obtain ⟨f, h1, h2⟩ := (hw.atm k i).1 hi
    have := hw.full f (List.mem_of_getElem? h1)
    show 0 ≤ k ∧ k < (P.count : Int)
    omega
  · unfold pinV at hk
    rw [Option.isSome_map] at hk
    have := hp k hk
    show 0 ≤ k ∧ k < (P.count : Int)
    omega

/-- What a call on the pool keeps. -/
structure Kp (P P' : Pl) (L L' : Lg) (D D' : Dk) : Prop where
  inv : Inv P' L' D'
  lc : ∀ M, M < P.count → lc P' D' M = lc P D M
  base : P'.base = P.base
  count : P'.count = P.count
  first : L'.first = L.first
  cnt : L'.count = L.count
  run : L'.run = L.run
  stream : L'.stream = L.stream
  nrec : L'.nrec = L.nrec
  old : L'.old = L.old
  steps : D'.steps ≤ D.steps + 300000
  sec : D'.sec.length = D.sec.length

theorem Kp.refl {P : Pl} {L : Lg} {D : Dk} (h : Inv P L D) : Kp P P L L D D := ⟨h, fun _ _ => rfl, rfl, rfl, rfl, rfl, rfl, rfl, rfl, rfl, by omega, rfl⟩
theorem Kp.of_same {P P' : Pl} {L L' : Lg} {D D' : Dk} (h : Inv P L D) (hi : Inv P' L' D') (hs : Same P P' L L' D D') : Kp P P' L L' D D' :=
  ⟨hi, hs.lc, hs.stay.base, hs.stay.count, hs.stay.first, hs.stay.cnt, hs.stay.run, hs.stay.stream, hs.stay.nrec, hs.stay.old, by have := hs.stay.steps; have := h.ok.lw.count; omega, hs.stay.sec⟩
theorem Kp.pinned {P P' : Pl} {L L' : Lg} {D D' : Dk} (h : Kp P P' L L' D D') (x : Int → Option Int) : Kp P { P' with pins := x } L L' D D' :=
  ⟨h.inv.pinned x, h.lc, h.base, h.count, h.first, h.cnt, h.run, h.stream, h.nrec, h.old, h.steps, h.sec⟩
theorem Kp.of_flushed {P P' : Pl} {L L' : Lg} {D D' : Dk} (h : Flushed P P' L L' D D') : Kp P P' L L' D D' :=
  ⟨h.inv, fun M hM => by rw [lc_clean h.clean, h.base]; exact h.lc M hM, h.base, h.count, h.log.1, h.log.2.1, h.log.2.2.1, h.log.2.2.2.2.1, h.log.2.2.2.2.2.1, h.log.2.2.2.2.2.2.1, h.steps, h.sec⟩

/-- The log's own flush keeps the pool. -/
theorem inv_lflush {P : Pl} {L : Lg} {D : Dk} (h : Inv P L D) (hst : D.steps + 20000 ≤ 1152921504606846976) : Kp P P L { L with safe := L.stream.length } D (D.lflush L) := by
  have hcn := h.ok.lw.count
  have h1 := lflush_next h.ok.dw h.ok.dp h.ok.doff h.ok.lw h.ok.lf (by omega)
  have hhas : ∀ M, M < P.count → (D.lflush L).has (P.base + M) = D.has (P.base + M) := fun M hM => h1.has _ (by have := h.ok.pb; omega) (.inr (by have := h.log; omega))
  have hs1 := h1.steps
  have hlen := h1.len
  have hlw : Lg.wf { L with safe := L.stream.length } := by
    have := h.ok.lw
    exact ⟨this.run, this.most, this.count, this.len, Nat.le_refl _⟩
  refine ⟨⟨h.wf, ⟨hlw, h.ok.ld, h1.wf, h1.plan, h1.off, by rw [h1.len]; exact h.ok.lf, h.ok.pd, by rw [h1.len]; exact h.ok.pb, by omega⟩, h.log, fun i f hf => ?_, fun N hN => ?_, fun hl k => ?_⟩, fun M hM => ?_, rfl, rfl, rfl, rfl, rfl, rfl, rfl, rfl, by omega, h1.len⟩
  · obtain ⟨p, q1, q2, q3, q4⟩ := h.fr i f hf
    have hfu := h.wf.full f (List.mem_of_getElem? hf)
    exact ⟨p, q1, q2, q3, fun hd => by rw [hhas _ (by omega)]; exact q4 hd⟩
  · rw [hhas _ hN]
    exact h.pg N hN
  · unfold Dk.lflush
    split
    · exact h.loose hl k
    · rfl
  · unfold Go.Proofs.YthfidlhefkjpdaaGreatDoor.lc
    rw [hhas M hM]

theorem lflush_st (a : Ad) (P : Pl) (L : Lg) (D : Dk) (w : World) (h : PSt w a P L D) (hi : Inv P L D) (hst : D.steps + 20000 ≤ 1152921504606846976) :
    Calls Tryz.prog 67 #[.pointer (some ⟨a.gl, 0, none⟩)] w fun e w' => e = .returned (.int .i64 0) ∧ PSt w' a P { L with safe := L.stream.length } (D.lflush L) ∧ Fr (aT a) w w' := by
  refine (lflush_any a.base a.gl a.gd a.gs a.gm a.sv a.rv L D w h.ld hi.ok.lw hi.ok.ld hi.ok.dw hi.ok.dp hi.ok.doff hi.ok.lf (by have := hi.ok.st; omega)).mono ?_
  rintro e w' ⟨rfl, hB, hF⟩
  exact ⟨rfl, h.onLD (fr_aL hF) (Nx.refl _ _) hB, fr_aT1 (fr_aL hF)⟩

/-- Unpin, whatever the number. -/
theorem cunpin_all (a : Ad) (P : Pl) (L : Lg) (D : Dk) (n : Int) (m : Nat) (w : World) (h : PSt w a P L D) (hn : wf64 n) (hp : PinsOk P m) (hm : m ≤ 4398046511104) (hmn : a.mn ≤ 1099511627776) :
    Calls Tryz.prog 35 #[.pointer (some ⟨a.gp, 0, none⟩), .int .i64 n] w fun e w' => (∃ v, e = .returned (.int .i64 v)) ∧
      ∃ a' x, PSt w' a' { P with pins := x } L D ∧ PinsOk { P with pins := x } m ∧ Fr (aT a) w w' ∧ AdN w a a' 2 := by
  have hr := hp.range n
  by_cases h0 : (P.pins n).getD 0 = 0
  · refine (cunpin_loose a P L D n w h hn h0).mono ?_
    rintro e w' ⟨rfl, rfl⟩
    exact ⟨⟨_, rfl⟩, a, P.pins, h, hp, Fr.refl _ _, AdN.refl _ _ _⟩
  · refine (cunpin_st a P L D n w h hn (by omega) (by omega) hmn).mono ?_
    rintro e w' ⟨rfl, a', h1, h2, h3⟩
    refine ⟨⟨_, rfl⟩, a', _, h1, fun k hk => ?_, fr_aT2 h2, h3.mono (by omega)⟩
    replace hk : (unpinV P.pins n k).isSome = true := hk
    show 0 ≤ k ∧ k < P.count ∧ 1 ≤ (unpinV P.pins n k).getD 0 ∧ (unpinV P.pins n k).getD 0 ≤ m
    unfold unpinV at hk ⊢
    by_cases hkn : k = n
    · subst hkn
      rw [if_pos rfl] at hk ⊢
      by_cases h1 : (P.pins k).getD 0 = 1
      · rw [if_pos h1] at hk; cases hk
      · rw [if_neg h1]
        have hs : (P.pins k).isSome = true := by
          cases hx : P.pins k with
          | none => rw [hx] at h0; exact absurd rfl h0
          | some _ => rfl
        have := hp k hs
        simp only [Option.getD_some]
        omega
    · rw [if_neg hkn] at hk ⊢
      exact hp k hk

set_option maxRecDepth 100000 in
theorem rreach_empty (n : Int) (w : World) : Calls Tryz.prog 58 #[.agg #[.slice none 0 0, .slice none 0 0, .int .i64 0], .int .i64 n] w fun e w' => e = .returned (.int .i64 1) ∧ Below w.heap.size w w' := by
  by_cases h0 : n < 0
  · have d0 : decide (n < 0) = true := by simpa using h0
    clear h0
    go_enter Tryz.func58, Tryz.ntmps58
    go_wp2_with fail
    go_ret
    exact ⟨rfl, bl_alloc (Below.refl _ _) _ (Nat.le_refl _)⟩
  · have d0 : decide (n < 0) = false := by simpa using h0
    have d1 : decide ((0 : Int) ≤ n) = true := by simpa using h0
    clear h0
    go_enter Tryz.func58, Tryz.ntmps58
    go_wp2_with fail
    go_ret
    exact ⟨rfl, bl_alloc (Below.refl _ _) _ (Nat.le_refl _)⟩

/-- The boxes of a pool that holds nothing. -/
def box0 : Array Value := #[.slice none 0 0, .slice none 0 0, .int .i64 0]
theorem box0_cells {w : World} {g : Nat} {t : TypeId} (h : w.heap[g]? = some (.cells box0 t (0, 0))) :
    w.cell? ⟨g, 0, none⟩ = some (.slice none 0 0) ∧ w.cell? ⟨g, 1, none⟩ = some (.slice none 0 0) ∧ w.cell? ⟨g, 2, none⟩ = some (.int .i64 0) ∧
    w.frozen? ⟨g, 0, none⟩ = false ∧ w.frozen? ⟨g, 1, none⟩ = false ∧ w.frozen? ⟨g, 2, none⟩ = false := by
  refine ⟨?_, ?_, ?_, ?_, ?_, ?_⟩
  all_goals first
    | (unfold World.cell?; rw [h]; rfl)
    | (unfold World.frozen?; rw [h]; simp)

set_option maxRecDepth 100000 in
theorem rpin_empty (n : Int) (w : World) : Calls Tryz.prog 65 #[.agg #[.slice none 0 0, .slice none 0 0, .int .i64 0], .int .i64 n] w fun e w' => e = .returned (.tuple #[.agg #[.slice none 0 0, .slice none 0 0, .int .i64 0], .int .i64 1]) ∧ Below w.heap.size w w' := by
  have hre := fun W => rreach_empty n W
  go_enter Tryz.func65, Tryz.ntmps65
  go_wp2_with fail
  refine (hre _).mono ?_
  rintro e w1 ⟨rfl, h1⟩
  have b1 : w1.heap[w.heap.size]? = some (.cells box0 49 (0, 0)) := (h1.block _ (by simp; omega)).trans ((Below.heap_alloc _ _ _ (by simp)).trans (alloc_new w _))
  have b2 : w1.heap[w.heap.size + 1]? = some (.cells box0 49 (0, 0)) := (h1.block _ (by simp)).trans (by have := alloc_new (w.alloc (.cells box0 49)) (.cells box0 49); rw [World.size_alloc] at this; exact this)
  have hb : Below w.heap.size w w1 := (bl_alloc (bl_alloc (Below.refl _ _) _ (Nat.le_refl _)) _ (by simp)).trans (h1.mono (by simp; omega))
  obtain ⟨c0, c1, c2, f0, f1, f2⟩ := box0_cells b1
  obtain ⟨d0, d1, d2, e0, e1, e2⟩ := box0_cells b2
  have HB := hid (And.intro hb (And.intro b1 b2))
  clear h1 b1 b2 hb hre
  go_wp2_with fail
  (try simp only [Exit.inBlock, Exit.then])
  refine bodyPost_ret (v := .tuple #[.agg #[.slice none 0 0, .slice none 0 0, .int .i64 0], .int .i64 1]) ?_ rfl ?_
  · rename_i K aK
    clear aK K
    rw [results_cell_tmp rfl]
    go_simp
  · exact ⟨rfl, ((HB.out.1.setCell (by simp) _).setCell (by simp) _).setCell (by simp) _⟩

set_option maxRecDepth 100000 in
theorem runpin_empty (n : Int) (w : World) : Calls Tryz.prog 66 #[.agg #[.slice none 0 0, .slice none 0 0, .int .i64 0], .int .i64 n] w fun e w' => e = .returned (.tuple #[.agg #[.slice none 0 0, .slice none 0 0, .int .i64 0], .int .i64 101]) ∧ Below w.heap.size w w' := by
  go_enter Tryz.func66, Tryz.ntmps66
  go_wp2_with fail
  go_loopg [7, 8] 0 (fun q d i wr => q = 0 ∧ d = .bool false ∧ i = .int .i64 0 ∧ wr = ((w.alloc (.cells #[.slice none 0 0, .slice none 0 0, .int .i64 0] 49)).alloc (.cells #[.slice none 0 0, .slice none 0 0, .int .i64 0] 49)).alloc (.cells #[] 3))
  case atStart => exact ⟨rfl, rfl, rfl, rfl⟩
  case round =>
    obtain ⟨rfl, rfl, rfl, rfl⟩ := hrel
    go_wp2_with fail
    (try simp only [Exit.inBlock, Exit.then])
    refine bodyPost_ret (v := .tuple #[.agg #[.slice none 0 0, .slice none 0 0, .int .i64 0], .int .i64 101]) ?_ rfl ⟨rfl, ?_⟩
    · rw [results_cell_tmp rfl]
      go_simp
    · repeat (first | exact Below.refl _ _ | refine Below.setCell ?_ (by simp <;> omega) _ | refine bl_alloc ?_ _ (by simp <;> omega))
end Go.Proofs.YthfidlhefkjpdaaGreatDoor

namespace Go.Proofs.YthfidlhefkjpdaaGreatDoor
open Go.RowKit Go.Maps

theorem dirtyL_eq {P : Pl} (hw : PWf P) : ∀ ks : List Int, (∀ k ∈ ks, (P.atm k).isSome = true) → dirtyL P ks = ks.filterMap fun k => (dty P k).map fun s => (k, s)
  | [], _ => rfl
  | k :: r, h => by
    obtain ⟨i, hi⟩ := Option.isSome_iff_exists.1 (h k (List.mem_cons_self ..))
    obtain ⟨f, hf, hfn⟩ := (hw.atm k i).1 hi
    have ih := dirtyL_eq hw r fun j hj => h j (List.mem_cons_of_mem _ hj)
    have hfr : frOf P k = some f := by rw [← hfn]; exact hw.frOf hf
    have e : dirtyL P (k :: r) = (if dirtyOf P i = true then [dtyOf P i] else []) ++ dirtyL P r := by
      unfold dirtyL dirtyIx
      simp only [List.filterMap_cons, hi, List.filter_cons]
      split <;> simp
    rw [e, ih]
    simp only [List.filterMap_cons]
    unfold dirtyOf dtyOf
    rw [hf]
    simp only
    by_cases hd : f.dirty = true
    · have : dty P k = some f.since := by unfold dty; rw [hfr]; simp [hd]
      rw [if_pos hd, this]
      simp [hfn]
    · have : dty P k = none := by unfold dty; rw [hfr]; simp [hd]
      rw [if_neg hd, this]
      simp
theorem dirtyL_mem {P : Pl} (hw : PWf P) {ks : List Int} (hk : KeysOf P.atm ks) {x : Int × Int} : x ∈ dirtyL P ks ↔ dty P x.1 = some x.2 := by
  rw [dirtyL_eq hw ks (fun k h => (hk.2 k).1 h), List.mem_filterMap]
  constructor
  · rintro ⟨k, _, h⟩
    cases hd : dty P k with
    | none => rw [hd] at h; cases h
    | some s =>
      rw [hd] at h
      obtain rfl := Option.some.inj h
      exact hd
  · intro h
    refine ⟨x.1, (hk.2 _).2 ?_, by rw [h]; rfl⟩
    unfold dty frOf at h
    cases ha : P.atm x.1 with
    | none => rw [ha] at h; cases h
    | some i => rfl
theorem dirtyL_sorted {P : Pl} (hw : PWf P) {ks : List Int} (hk : KeysOf P.atm ks) : (dirtyL P ks).Pairwise fun x y => x.1 < y.1 := by
  rw [dirtyL_eq hw ks (fun k h => (hk.2 k).1 h)]
  refine List.Pairwise.filterMap _ (R := fun a b => a < b) ?_ hk.1
  intro a b hab x hx y hy
  cases ha : dty P a with
  | none => rw [ha] at hx; cases hx
  | some s =>
    cases hb : dty P b with
    | none => rw [hb] at hy; cases hy
    | some t =>
      rw [ha] at hx
      rw [hb] at hy
      obtain rfl := Option.some.inj hx
      obtain rfl := Option.some.inj hy
      exact hab
theorem dirtyL_len {P : Pl} (hw : PWf P) {ks : List Int} (hk : KeysOf P.atm ks) : (dirtyL P ks).length ≤ P.frames.length := by
  unfold dirtyL
  rw [List.length_map, ← hw.keys_len hk]
  exact dirtyIx_len P ks

/-- The slice reads as these numbers. -/
def RdZ (w : World) (A : Option Addr) (n : Nat) (zs : List Int) : Prop :=
  zs.length = n ∧ (∀ z ∈ zs, wf64 z) ∧ (0 < n → ∃ b o, A = some ⟨b, o, none⟩ ∧ b < w.heap.size ∧ ∀ i (h : i < zs.length), w.cell? ⟨b, o + i, none⟩ = some (.int .i64 zs[i]))
theorem RdZ.below {w w' : World} {A : Option Addr} {n : Nat} {zs : List Int} (h : RdZ w A n zs) (hb : Below w.heap.size w w') : RdZ w' A n zs := by
  refine ⟨h.1, h.2.1, fun h0 => ?_⟩
  obtain ⟨b, o, rfl, hl, hc⟩ := h.2.2 h0
  exact ⟨b, o, rfl, Nat.lt_of_lt_of_le hl hb.size, fun i hi => (World.cell?_of_block (w := w) (hb.block b hl)).trans (hc i hi)⟩

/-- What stands between two rounds of CacheDirty. -/
structure DSt (w2 : World) (a0 a : Ad) (gF : Nat) (wr : World) (P : Pl) (L : Lg) (D : Dk) (F : List Int) (j : Nat) : Prop where
  st : PSt wr a P L D
  inv : Inv P L D
  pins : P.pins = fun _ => none
  cnt : P.count = 8
  fr : Fr (fun b => aT a0 b ∨ b = gF) w2 wr
  ad : AdN w2 a0 a j
  blk : wr.heap[gF]? = some (.cells (F.map (Value.int .i64)).toArray 2 (0, 0))
  fl : F.length = 8
  old : L.old = false
  lcnt : L.count = 4
  run : L.run = 2
  str : L.stream.length = 2 * j
  nrec : L.nrec = j
  steps : D.steps ≤ 4 + 6 * j
  dty : ∀ k s, dty P k = some s → ∃ m : Nat, k = (m : Int) ∧ m < 8 ∧ F.getD m 0 = s ∧ 0 < s ∧ s < L.lsn L.stream.length
theorem DSt.j {w2 wr : World} {a0 a : Ad} {gF j : Nat} {P : Pl} {L : Lg} {D : Dk} {F : List Int} (h : DSt w2 a0 a gF wr P L D F j) : j ≤ 996 := by
  have h1 := h.inv.ok.lw.len
  have h2 := h.str
  have h3 := h.lcnt
  omega
theorem DSt.below {w2 wr w' : World} {a0 a : Ad} {gF j : Nat} {P : Pl} {L : Lg} {D : Dk} {F : List Int} (h : DSt w2 a0 a gF wr P L D F j) (hb : Below wr.heap.size wr w') : DSt w2 a0 a gF w' P L D F j :=
  ⟨h.st.below hb, h.inv, h.pins, h.cnt, h.fr.trans (Fr.of_below hb (fun b => aT a0 b ∨ b = gF)) (fun _ _ h => h), h.ad, (hb.block gF (Array.getElem?_eq_some_iff.1 h.blk).1).trans h.blk, h.fl, h.old, h.lcnt, h.run, h.str, h.nrec, h.steps, h.dty⟩

/-- A block that is none of disk, log and pool is turned. -/
theorem PSt.apart_fr {w w' : World} {a : Ad} {P : Pl} {L : Lg} {D : Dk} {T : Nat → Prop} (h : PSt w a P L D) (hf : Fr T w w') (hT : ∀ b, aT a b → ¬ T b) (hF : ∀ b, Ty w b 76 → ¬ T b) (hu : ∀ b, Ty w b 5 → ¬ T b) : PSt w' a P L D :=
  ⟨h.ld.fr hf (fun b hb => hT b (.inl hb)) hF, h.pool.fr hf (fun b hb => hT b (.inr hb)) (fun b hb _ => hu b hb), h.lb, h.lg⟩
theorem DSt.append {w3 wr w' : World} {a0 a a' : Ad} {gF j : Nat} {P : Pl} {L L' : Lg} {D : Dk} {F : List Int} {r : List UInt8} {nr : Nat} (h : DSt w3 a0 a gF wr P L D F j) (hgl : gF < w3.heap.size) (hne : ¬ aT a0 gF) (hr : r.length = 2) (hnr : nr = L.nrec + 1)
    (hfit : L.stream.length + 2 ≤ L.count * 498) (hL : L' = { L with stream := L.stream ++ r, nrec := nr }) (hP : PSt w' a' P L' D) (hF : Fr (aT a) wr w') (hA : AdN wr a a' 0) : DSt w3 a0 a' gF w' P L' D F (j + 1) := by
  subst hL
  have hz := h.fr.size
  have hgr : gF < wr.heap.size := by omega
  have hna : ¬ aT a gF := fun hh => hne (h.ad.foot gF hgl hh)
  have hAd := h.ad.trans hA hz
  refine ⟨hP, h.inv.appended r nr (by rw [hr]; exact hfit), h.pins, h.cnt, h.fr.trans hF (fun x hx hh => .inl (h.ad.foot x hx hh)), hAd.mono (by omega), (hF.block gF hgr hna).trans h.blk, h.fl, h.old, h.lcnt, h.run, ?_, ?_, ?_, ?_⟩
  · show (L.stream ++ r).length = _
    rw [List.length_append, h.str, hr]; omega
  · show nr = _
    rw [hnr, h.nrec]
  · have := h.steps; omega
  · intro k s hs
    obtain ⟨m, h1, h2, h3, h4, h5⟩ := h.dty k s hs
    refine ⟨m, h1, h2, h3, h4, Int.lt_of_lt_of_le h5 ?_⟩
    show L.lsn L.stream.length ≤ L.lsn (L.stream ++ r).length
    exact lsn_mono L (by rw [List.length_append]; omega)

theorem row2 {w : World} {base n c : Nat} {A : Option Addr} {l : List (Int × Int)} (h : w.ownsRow base 39 2 (.slice A n c) n (l.flatMap encD)) {m : Nat} (hm : m < l.length) :
    ∃ g, A = some ⟨g, 0, none⟩ ∧ g < w.heap.size ∧ w.cell? ⟨g, m * 2, none⟩ = some (.int .i64 l[m].1) ∧ w.cell? ⟨g, m * 2 + 1, none⟩ = some (.int .i64 l[m].2) := by
  have hl : ∀ l : List (Int × Int), (l.flatMap encD).length = l.length * 2 := fun l => by
    induction l with
    | nil => rfl
    | cons x r ih => simp [encD] at ih ⊢; omega
  have hx : ∀ (l : List (Int × Int)) (m : Nat) (hm : m < l.length), (l.flatMap encD)[m * 2]? = some (.int .i64 l[m].1) ∧ (l.flatMap encD)[m * 2 + 1]? = some (.int .i64 l[m].2) := by
    intro l
    induction l with
    | nil => intro m hm; cases hm
    | cons x r ih =>
      intro m hm
      match m with
      | 0 => exact ⟨rfl, rfl⟩
      | m + 1 =>
        have := ih m (by simpa using hm)
        simp only [List.flatMap_cons, encD] at this ⊢
        rw [show (m + 1) * 2 = m * 2 + 2 by omega, show m * 2 + 2 + 1 = (m * 2 + 1) + 2 by omega]
        simpa using this
  have hln := h.1
  rw [hl] at hln
  have hh := h
  obtain ⟨_, ⟨h1, h2⟩ | ⟨g, cap, cur, hv, _, hb, _⟩⟩ := h
  · omega
  · have hA : A = some ⟨g, 0, none⟩ := by injection hv
    subst hA
    refine ⟨g, rfl, (Array.getElem?_eq_some_iff.1 hb).1, ?_, ?_⟩
    · rw [hh.cellAt (m * 2) (by omega)]; exact (hx l m hm).1
    · rw [hh.cellAt (m * 2 + 1) (by omega)]; exact (hx l m hm).2

/-- first[n] = at, if the page was not dirty. -/
def firstF (F : List Int) (was : Option Int) (N : Nat) (at' : Int) : List Int := if was.isSome = true then F else F.set N at'
theorem firstF_len (F : List Int) (was : Option Int) (N : Nat) (x : Int) : (firstF F was N x).length = F.length := by unfold firstF; split <;> simp
theorem firstF_dty {P P' : Pl} {F : List Int} {N : Nat} {x : Int} (hN : N < 8) (hF : F.length = 8) (hx : 0 < x) (h : ∀ k s, dty P k = some s → ∃ m : Nat, k = (m : Int) ∧ m < 8 ∧ F.getD m 0 = s ∧ 0 < s ∧ s < x)
    (hn : dty P' N = some ((dty P N).getD x)) (hk : ∀ k s, k ≠ (N : Int) → dty P' k = some s → dty P k = some s) :
    ∀ k s, dty P' k = some s → ∃ m : Nat, k = (m : Int) ∧ m < 8 ∧ (firstF F (dty P N) N x).getD m 0 = s ∧ 0 < s ∧ s ≤ x := by
  intro k s hs
  by_cases hkN : k = (N : Int)
  · subst hkN
    rw [hn] at hs
    obtain rfl := Option.some.inj hs
    cases hd : dty P N with
    | none =>
      refine ⟨N, rfl, hN, ?_, hx, by simp⟩
      unfold firstF
      simp [List.getD_eq_getElem?_getD, List.getElem?_set, hF, hN]
    | some t =>
      obtain ⟨m, h1, h2, h3, h4, h5⟩ := h N t hd
      obtain rfl : m = N := by omega
      refine ⟨m, rfl, h2, ?_, h4, by simp; omega⟩
      unfold firstF
      simpa using h3
  · have := hk k s hkN hs
    obtain ⟨m, h1, h2, h3, h4, h5⟩ := h k s this
    refine ⟨m, h1, h2, ?_, h4, by omega⟩
    unfold firstF
    split
    · exact h3
    · rw [← h3]
      simp only [List.getD_eq_getElem?_getD]
      rw [List.getElem?_set_ne (by omega)]
theorem any_take_succ {α : Type} (l : List α) (p : α → Bool) (k : Nat) (h : k < l.length) : (l.take (k + 1)).any p = ((l.take k).any p || p l[k]) := by
  rw [List.take_succ_eq_append_getElem h, List.any_append]
  simp
end Go.Proofs.YthfidlhefkjpdaaGreatDoor

namespace Go.Proofs.YthfidlhefkjpdaaGreatDoor
open Go.RowKit Go.Maps

/-- Pin, its answer not asked. -/
theorem cpin_kp (a : Ad) (P : Pl) (L : Lg) (D : Dk) (n : Int) (m : Nat) (w : World) (h : PSt w a P L D) (hi : Inv P L D) (hp : PinsOk P m) (hm : m ≤ 4398046511104) (hma : a.ma ≤ 1099511627776) (hmn : a.mn ≤ 1099511627776) (hst : D.steps + 20000 ≤ 1152921504606846976) :
    Calls Tryz.prog 33 #[.pointer (some ⟨a.gp, 0, none⟩), .int .i64 n] w fun e w' => (∃ v, e = .returned (.int .i64 v)) ∧
      ∃ a' P' L' D', PSt w' a' P' L' D' ∧ Kp P P' L L' D D' ∧ PinsOk P' (m + 1) ∧ Fr (aT a) w w' ∧ AdN w a a' 2 := by
  rcases cpin_all a P L D n w h hi hma hmn hst (fun k => by have := hp.range k; omega) with ⟨N, rfl, hN, hc⟩ | ⟨e0, he, hc⟩
  · refine hc.mono ?_
    rintro e w' ⟨rfl, a', P', L', D', h1, h2, h3, h4, h5⟩
    refine ⟨⟨_, rfl⟩, a', _, L', D', h1, (Kp.of_same hi h2 h3).pinned _, fun k hk => ?_, h4, h5⟩
    show 0 ≤ k ∧ k < (P'.count : Int) ∧ 1 ≤ (if k = (N : Int) then some ((P.pins N).getD 0 + 1) else P.pins k).getD 0 ∧ (if k = (N : Int) then some ((P.pins N).getD 0 + 1) else P.pins k).getD 0 ≤ ((m + 1 : Nat) : Int)
    rw [h3.stay.count]
    by_cases hkN : k = (N : Int)
    · rw [if_pos hkN]
      have := hp.range (N : Int)
      simp only [Option.getD_some]
      omega
    · replace hk : (if k = (N : Int) then some ((P.pins N).getD 0 + 1) else P.pins k).isSome = true := hk
      rw [if_neg hkN] at hk ⊢
      have := hp k hk
      omega
  · refine hc.mono ?_
    rintro e w' ⟨rfl, P', h1, h2, h3, h4⟩
    refine ⟨⟨_, rfl⟩, a, P', L, D, h1, Kp.of_same hi h2 h3, fun k hk => ?_, h4, AdN.refl _ _ _⟩
    rw [h3.pins] at hk ⊢
    rw [h3.stay.count]
    have := hp k hk
    omega

/-- The pool's flush. -/
theorem cflush_kp (a : Ad) (P : Pl) (L : Lg) (D : Dk) (m : Nat) (w : World) (h : PSt w a P L D) (hi : Inv P L D) (hp : PinsOk P m) (hma : a.ma ≤ 1099511627776) (hst : D.steps + 600000 ≤ 1152921504606846976) :
    Calls Tryz.prog 15 #[.pointer (some ⟨a.gp, 0, none⟩)] w fun e w' => e = .returned (.int .i64 0) ∧
      ∃ P' L' D', PSt w' a P' L' D' ∧ Flushed P P' L L' D D' ∧ PinsOk P' m ∧ Fr (aT a) w w' := by
  obtain ⟨ks, hks, -, -⟩ := h.pool.atm.keys Tryz.underlying3
  replace hks := keys_atm hks
  have hf := flush_law hi hks hst
  refine (cflush_any a P L D ks w h hi.ok hi.wf hks hma hi.log hst).mono ?_
  rintro e w' ⟨rfl, h1, h2⟩
  refine ⟨rfl, _, _, _, h1, hf, fun k hk => ?_, h2⟩
  rw [hf.pins] at hk ⊢
  rw [hf.count]
  exact hp k hk

theorem clean_dty {P : Pl} (hc : ∀ f ∈ P.frames, f.dirty = false) (k : Int) : dty P k = none := by
  unfold dty frOf
  cases ha : P.atm k with
  | none => rfl
  | some i =>
    simp only [Option.bind_some]
    cases hf : P.frames[i]? with
    | none => rfl
    | some f =>
      simp only
      rw [if_neg (by rw [hc f (List.mem_of_getElem? hf)]; simp)]

/-- The boxes of a call of asks stand; its pool's calls have left the pool good. -/
theorem asks_end {w wA w1 w2 w' : World} {a a' : Ad} {P P' : Pl} {L L' : Lg} {D D' : Dk} {k : Nat} {cs : Array Value} {t : TypeId} {g : Nat} (h : PSt w a P L D) (hbA : Below w.heap.size w wA) (hP1 : PSt w1 a' P' L' D') (hF1 : Fr (aT a) wA w1) (hA1 : AdN wA a a' k)
    (hb2 : Below w1.heap.size w1 w2) (hg : w.heap.size ≤ g) (hg2 : wA.heap[g]? = some (.cells cs t (0, 0))) (ht1 : t ≠ 76) (ht2 : t ≠ 5) (hf : Fr (· = g) w2 w') : PSt w' a' P' L' D' ∧ Fr (aT a) w w' ∧ AdN w a a' k := by
  have hgl := (Array.getElem?_eq_some_iff.1 hg2).1
  have hna : ¬ aT a g := fun hh => by have := h.lt hh; omega
  have hz1 := hF1.size
  have hblk : w2.heap[g]? = some (.cells cs t (0, 0)) := (hb2.block g (by omega)).trans ((hF1.block g hgl hna).trans hg2)
  have hty : Ty w2 g t := ⟨_, _, hblk⟩
  refine ⟨(hP1.below hb2).apart_fr hf (fun b hb e => ?_) (fun b hb e => by subst e; exact hb.ne hty (Ne.symm ht1)) (fun b hb e => by subst e; exact hb.ne hty (Ne.symm ht2)), ?_, ?_⟩
  · have e' : b = g := e
    exact hna (hA1.foot g hgl (by rw [← e']; exact hb))
  · have h1 := ((Fr.of_below hbA (aT a)).trans hF1 (fun _ _ h => h)).trans (Fr.of_below hb2 (aT a)) (fun _ _ h => h)
    exact h1.trans hf (fun b hb e => by have e' : b = g := e; omega)
  · exact ((AdN.refl w a 0).trans hA1 hbA.size).mono (by omega)

theorem box_after {w wA w1 : World} {a : Ad} {P : Pl} {L : Lg} {D : Dk} {g : Nat} {o : Obj} (h : PSt w a P L D) (hF : Fr (aT a) wA w1) (hg : w.heap.size ≤ g) (ho : wA.heap[g]? = some o) : w1.heap[g]? = some o :=
  (hF.block g (Array.getElem?_eq_some_iff.1 ho).1 (fun hh => by have := h.lt hh; omega)).trans ho

theorem op_cells {w : World} {g : Nat} {t : TypeId} {k n : Int} {v3 v4 : Value} (h : w.heap[g]? = some (.cells #[.int .i64 k, .int .i64 n, v3, v4] t (0, 0))) :
    w.cell? ⟨g, 0, none⟩ = some (.int .i64 k) ∧ w.cell? ⟨g, 1, none⟩ = some (.int .i64 n) := by
  constructor <;> (unfold World.cell?; rw [h]; rfl)

theorem fr_at {a w : World} {g : Nat} (h : Fr (· = g) a w) (o : Nat) (u : Value) : Fr (· = g) a (w.setCell ⟨g, o, none⟩ u) := h.set (p := ⟨g, o, none⟩) (.inl rfl) u
theorem fr_new {a w : World} {T : Nat → Prop} {p : Addr} (h : Fr T a w) (hp : a.heap.size ≤ p.block) (u : Value) : Fr T a (w.setCell p u) := h.set (.inr hp) u

section
variable {P : Program} {ops : Array Oper} {o : Oper} {a : Act} {w : World} {K : Act → World → Prop} {Q : Exit → Act → World → Prop} {E : Prop}
/-- A call of a Go function of one argument as a guarded step of a region that draws. -/
theorem step_call1g (f : FuncId) (hw : Region.wanted o (yielded ops a.tmps) = true) (x : Operand) (ts : Array TypeId) (ho : o.op = .call { callee := .value (.func f), args := #[x], argTypes := ts })
    (eF : ∀ args w, (callFunc f args).run P w = .ok (.enter f args) w) (v : Value) (hv : a.eval x = v) {R : Ending → World → Prop} (hc : Calls P f #[v] w R)
    (h : ∀ e w', R e w' → ∃ v, e = .returned v ∧ K (a.put o.dst v) w') : if Region.wanted o (yielded ops a.tmps) = true then Oper.wp P o a w K Q else E := by
  rw [if_pos hw]
  have e : (execOp a.eval o).run P w = .ok (.enter f #[v]) w := by
    unfold execOp
    simp only [ho, resolve, Sem.run_bind]
    have : (Deferred.ofValue (a.eval (Operand.func f)) (#[x].map a.eval)).run P w = .ok { target := .fn (.func f) #[], args := #[v] } w := by
      rw [show (#[x].map a.eval) = #[v] by simp [hv]]
      simp [Act.eval, Deferred.ofValue]
    rw [this]
    simp [invoke, eF]
  unfold Oper.wp
  rw [e, Oper.upon_enter]
  exact hc.mono fun e w' hr => by
    obtain ⟨v, rfl, hk⟩ := h e w' hr
    exact hk
end

set_option maxRecDepth 100000 in
set_option maxHeartbeats 2000000 in
theorem asks_any (a : Ad) (P : Pl) (L : Lg) (D : Dk) (k n : Int) (m : Nat) (w : World) (h : PSt w a P L D) (hi : Inv P L D) (hp : PinsOk P m) (hm : m ≤ 4398046511104) (hma : a.ma ≤ 1099511627776) (hmn : a.mn ≤ 1099511627776) (hst : D.steps + 600000 ≤ 1152921504606846976)
    (hk : 3 ≤ k ∧ k ≤ 6) (hn : wf64 n) :
    Calls Tryz.prog 20 #[.pointer (some ⟨a.gl, 0, none⟩), .pointer (some ⟨a.gp, 0, none⟩), .agg #[.slice none 0 0, .slice none 0 0, .int .i64 0], .agg #[.int .i64 k, .int .i64 n, .slice none 0 0, .slice none 0 0]] w fun e w' => (∃ v, e = .returned v) ∧
      ∃ a' P' L' D', PSt w' a' P' L' D' ∧ Kp P P' L L' D D' ∧ PinsOk P' (m + 1) ∧ Fr (aT a) w w' ∧ AdN w a a' 2 := by
  obtain ⟨wA, hwA⟩ : ∃ wA, ((w.alloc (.cells #[.slice none 0 0, .slice none 0 0, .int .i64 0] 49)).alloc (.cells #[.int .i64 k, .int .i64 n, .slice none 0 0, .slice none 0 0] 57)).alloc (.cells #[.slice none 0 0, .slice none 0 0, .int .i64 0] 49) = wA := ⟨_, rfl⟩
  have hbA : Below w.heap.size w wA := by rw [← hwA]; exact bl_alloc (bl_alloc (bl_alloc (Below.refl _ _) _) _) _
  have a0 : wA.heap[w.heap.size]? = some (.cells box0 49 (0, 0)) := by
    rw [← hwA]
    exact (Below.heap_alloc _ _ _ (by simp; omega)).trans ((Below.heap_alloc _ _ _ (by simp)).trans (alloc_new w _))
  have a1 : wA.heap[w.heap.size + 1]? = some (.cells #[.int .i64 k, .int .i64 n, .slice none 0 0, .slice none 0 0] 57 (0, 0)) := by
    rw [← hwA]
    refine (Below.heap_alloc _ _ _ (by simp)).trans ?_
    have := alloc_new (w.alloc (.cells #[.slice none 0 0, .slice none 0 0, .int .i64 0] 49)) (.cells #[.int .i64 k, .int .i64 n, .slice none 0 0, .slice none 0 0] 57)
    rw [World.size_alloc] at this
    exact this
  have a2 : wA.heap[w.heap.size + 1 + 1]? = some (.cells box0 49 (0, 0)) := by
    rw [← hwA]
    have := alloc_new ((w.alloc (.cells #[.slice none 0 0, .slice none 0 0, .int .i64 0] 49)).alloc (.cells #[.int .i64 k, .int .i64 n, .slice none 0 0, .slice none 0 0] 57)) (.cells #[.slice none 0 0, .slice none 0 0, .int .i64 0] 49)
    rw [World.size_alloc, World.size_alloc] at this
    exact this
  have hPA := h.below hbA
  have HA : Aside (PSt w a P L D ∧ Below w.heap.size w wA ∧ wA.heap[w.heap.size]? = some (.cells box0 49 (0, 0)) ∧ wA.heap[w.heap.size + 1]? = some (.cells #[.int .i64 k, .int .i64 n, .slice none 0 0, .slice none 0 0] 57 (0, 0)) ∧ wA.heap[w.heap.size + 1 + 1]? = some (.cells box0 49 (0, 0))) := ⟨h, hbA, a0, a1, a2⟩
  have HI : Aside (Inv P L D ∧ PinsOk P m) := ⟨hi, hp⟩
  have HW := hid hwA
  clear hwA
  rcases (show k = 3 ∨ k = 4 ∨ k = 5 ∨ k = 6 by omega) with rfl | rfl | rfl | rfl
  · have hc := cpin_kp a P L D n m wA hPA hi hp hm hma hmn (by omega)
    clear h hbA a0 a1 a2 hPA hi hp hm hma hmn hst hk hn
    go_enter Tryz.func20, Tryz.ntmps20
    go_wp2_with fail
    rw [HW.out]
    clear HW
    refine hc.mono ?_
    rintro e w1 ⟨⟨v, rfl⟩, a', P', L', D', hP1, hK1, hO1, hF1, hA1⟩
    have S1 : Aside (PSt w1 a' P' L' D' ∧ Kp P P' L L' D D' ∧ PinsOk P' (m + 1) ∧ Fr (aT a) wA w1 ∧ AdN wA a a' 2) := ⟨hP1, hK1, hO1, hF1, hA1⟩
    obtain ⟨c0, c1, c2, -, -, -⟩ := box0_cells (box_after HA.out.1 hF1 (Nat.le_refl _) HA.out.2.2.1)
    obtain ⟨d0, d1⟩ := op_cells (box_after HA.out.1 hF1 (by omega) HA.out.2.2.2.1)
    clear hP1 hK1 hO1 hF1 hA1 hc
    have hr := rpin_empty n w1
    go_wp2_with fail
    refine hr.mono ?_
    rintro e w2 ⟨rfl, hb2⟩
    clear c0 c1 c2 d0 d1
    obtain ⟨c0, c1, c2, f0, f1, f2⟩ := box0_cells ((hb2.block _ (by have := (Array.getElem?_eq_some_iff.1 HA.out.2.2.2.2).1; have := S1.out.2.2.2.1.size; omega)).trans (box_after HA.out.1 S1.out.2.2.2.1 (by omega) HA.out.2.2.2.2))
    have hl2 : w.heap.size + 1 + 1 < w2.heap.size := by have := (Array.getElem?_eq_some_iff.1 HA.out.2.2.2.2).1; have := S1.out.2.2.2.1.size; have := hb2.size; omega
    have S2 := hid hb2
    clear hb2 hr
    go_wp2_with fail
    (try simp only [Exit.inBlock, Exit.then])
    refine bodyPost_ret (v := .tuple #[.agg #[.slice none 0 0, .slice none 0 0, .int .i64 0], .bool (v == 1)]) ?_ rfl ⟨⟨_, rfl⟩, ?_⟩
    · rw [results_cell_tmp rfl]
      go_simp
    · refine (?_ : ∀ W, Fr (· = w.heap.size + 1 + 1) w2 W → ∃ a' P' L' D', PSt W a' P' L' D' ∧ Kp P P' L L' D D' ∧ PinsOk P' (m + 1) ∧ Fr (aT a) w W ∧ AdN w a a' 2) _ (by repeat (first | exact Fr.refl _ _ | refine fr_at ?_ _ _ | refine fr_new ?_ (by simp) _ | refine Fr.alloc ?_ _ | refine Fr.drew ?_))
      intro W hWf
      obtain ⟨x1, x2, x3⟩ := asks_end (g := w.heap.size + 1 + 1) HA.out.1 HA.out.2.1 S1.out.1 S1.out.2.2.2.1 S1.out.2.2.2.2 S2.out (by omega) HA.out.2.2.2.2 (by decide) (by decide) hWf
      exact ⟨a', P', L', D', x1, S1.out.2.1, S1.out.2.2.1, x2, x3⟩
  · have hc := cunpin_all a P L D n m wA hPA hn hp hm hmn
    clear h hbA a0 a1 a2 hPA hi hp hm hma hmn hst hk hn
    go_enter Tryz.func20, Tryz.ntmps20
    go_wp2_with fail
    rw [HW.out]
    clear HW
    refine hc.mono ?_
    rintro e w1 ⟨⟨v, rfl⟩, a', x, hP1, hO1, hF1, hA1⟩
    have S1 : Aside (PSt w1 a' { P with pins := x } L D ∧ PinsOk { P with pins := x } m ∧ Fr (aT a) wA w1 ∧ AdN wA a a' 2) := ⟨hP1, hO1, hF1, hA1⟩
    obtain ⟨c0, c1, c2, -, -, -⟩ := box0_cells (box_after HA.out.1 hF1 (Nat.le_refl _) HA.out.2.2.1)
    obtain ⟨d0, d1⟩ := op_cells (box_after HA.out.1 hF1 (by omega) HA.out.2.2.2.1)
    clear hP1 hO1 hF1 hA1 hc
    have hr := runpin_empty n w1
    go_wp2_with fail
    refine hr.mono ?_
    rintro e w2 ⟨rfl, hb2⟩
    clear c0 c1 c2 d0 d1
    obtain ⟨c0, c1, c2, f0, f1, f2⟩ := box0_cells ((hb2.block _ (by have := (Array.getElem?_eq_some_iff.1 HA.out.2.2.2.2).1; have := S1.out.2.2.1.size; omega)).trans (box_after HA.out.1 S1.out.2.2.1 (by omega) HA.out.2.2.2.2))
    have hl2 : w.heap.size + 1 + 1 < w2.heap.size := by have := (Array.getElem?_eq_some_iff.1 HA.out.2.2.2.2).1; have := S1.out.2.2.1.size; have := hb2.size; omega
    have S2 := hid hb2
    clear hb2 hr
    go_wp2_with fail
    (try simp only [Exit.inBlock, Exit.then])
    refine bodyPost_ret (v := .tuple #[.agg #[.slice none 0 0, .slice none 0 0, .int .i64 0], .bool (v == 101)]) ?_ rfl ⟨⟨_, rfl⟩, ?_⟩
    · rw [results_cell_tmp rfl]
      go_simp
    · refine (?_ : ∀ W, Fr (· = w.heap.size + 1 + 1) w2 W → ∃ a' P' L' D', PSt W a' P' L' D' ∧ Kp P P' L L' D D' ∧ PinsOk P' (m + 1) ∧ Fr (aT a) w W ∧ AdN w a a' 2) _ (by repeat (first | exact Fr.refl _ _ | refine fr_at ?_ _ _ | refine fr_new ?_ (by simp) _ | refine Fr.alloc ?_ _ | refine Fr.drew ?_))
      intro W hWf
      obtain ⟨x1, x2, x3⟩ := asks_end (g := w.heap.size + 1 + 1) HA.out.1 HA.out.2.1 S1.out.1 S1.out.2.2.1 S1.out.2.2.2 S2.out (by omega) HA.out.2.2.2.2 (by decide) (by decide) hWf
      refine ⟨a', _, _, _, x1, (Kp.refl HI.out.1).pinned x, fun k hk => ?_, x2, x3⟩
      have := S1.out.2.1 k hk
      omega
  · have HCf : Aside (∀ W, Below wA.heap.size wA W → Calls Tryz.prog 15 #[.pointer (some ⟨a.gp, 0, none⟩)] W fun e w' => e = .returned (.int .i64 0) ∧
        ∃ P' L' D', PSt w' a P' L' D' ∧ Flushed P P' L L' D D' ∧ PinsOk P' m ∧ Fr (aT a) wA w') := ⟨fun W hW => (cflush_kp a P L D m W (hPA.below hW) hi hp hma hst).mono fun e w' hr => by
      obtain ⟨e1, P', L', D', h1, h2, h3, h4⟩ := hr
      exact ⟨e1, P', L', D', h1, h2, h3, (Fr.of_below hW (aT a)).trans h4 (fun _ _ h => h)⟩⟩
    have HCd : Aside (∀ (W : World) (P' : Pl) (L' : Lg) (D' : Dk), PSt W a P' L' D' → Inv P' L' D' → (∀ f ∈ P'.frames, f.dirty = false) → Calls Tryz.prog 11 #[.pointer (some ⟨a.gp, 0, none⟩)] W fun e w' => ∃ A c, e = .returned (.slice A 0 c) ∧ Below W.heap.size W w') := ⟨fun W P' L' D' h1 h2 h3 => (cDirty_any a P' L' D' W h1 h2.wf hma).mono fun e w' hr => by
      obtain ⟨v2, ks2, rfl, hks2, hown2, hb2⟩ := hr
      rw [dirtyL_nil h2.wf (clean_dty h3)] at hown2
      obtain ⟨A2, n2, rfl⟩ := own_form_n hown2
      exact ⟨A2, n2, rfl, hb2⟩⟩
    have HEf : Aside (∀ args w, (callFunc 15 args).run Tryz.prog w = .ok (.enter 15 args) w) := ⟨enters_of Tryz.func15 (by kernel_rfl) rfl⟩
    have HEd : Aside (∀ args w, (callFunc 11 args).run Tryz.prog w = .ok (.enter 11 args) w) := ⟨enters_of Tryz.func11 (by kernel_rfl) rfl⟩
    obtain ⟨c0, c1, c2, -, -, -⟩ := box0_cells a0
    have tok1 : True := trivial
    clear h hbA a0 a1 a2 hPA hi hp hm hmn hst hk hn hma
    go_enter Tryz.func20, Tryz.ntmps20
    go_wp2_with fail
    rw [HW.out]
    clear HW
    go_region_law (first
      | (have _t := tok1
         (refine step_call1 (o := ⟨some 167, _, _, _, _, _⟩) 15 (by rfl) _ _ (by rfl) HEf.out (.pointer (some ⟨a.gp, 0, none⟩)) (by go_simp) (HCf.out _ ?_) ?_)
         · exact (by repeat (first | exact Below.refl _ _ | refine bl_drew ?_))
         rintro e w1 ⟨rfl, P', L', D', hP1, hK1, hO1, hF1⟩
         have S1 : Aside (PSt w1 a P' L' D' ∧ Flushed P P' L L' D D' ∧ PinsOk P' m ∧ Fr (aT a) wA w1) := ⟨hP1, hK1, hO1, hF1⟩
         clear c0 c1 c2
         obtain ⟨c0, c1, c2, -, -, -⟩ := box0_cells (box_after HA.out.1 hF1 (Nat.le_refl _) HA.out.2.2.1)
         have tok2 : True := trivial
         clear hP1 hK1 hO1 hF1 tok1
         refine ⟨_, rfl, ?_⟩)
      | (have _t := tok2
         (refine step_call1g (o := ⟨some 171, _, _, _, _, _⟩) 11 (by go_simp) _ _ (by rfl) HEd.out (.pointer (some ⟨a.gp, 0, none⟩)) (by go_simp) (HCd.out _ _ _ _ ?_ S1.out.2.1.inv S1.out.2.1.clean) ?_)
         · exact S1.out.1.below (by repeat (first | exact Below.refl _ _ | refine bl_drew ?_))
         rintro e w2 ⟨A2, n2, rfl, hb2⟩
         replace hb2 : Below w1.heap.size w1 w2 := ⟨hb2.os, hb2.tape, hb2.output, hb2.size, hb2.block⟩
         clear c0 c1 c2
         obtain ⟨c0, c1, c2, -, -, -⟩ := box0_cells ((hb2.block _ (by have := (Array.getElem?_eq_some_iff.1 HA.out.2.2.1).1; have := S1.out.2.2.2.size; omega)).trans (box_after HA.out.1 S1.out.2.2.2 (Nat.le_refl _) HA.out.2.2.1))
         obtain ⟨d0, d1, d2, f0, f1, f2⟩ := box0_cells ((hb2.block _ (by have := (Array.getElem?_eq_some_iff.1 HA.out.2.2.2.2).1; have := S1.out.2.2.2.size; omega)).trans (box_after HA.out.1 S1.out.2.2.2 (by omega) HA.out.2.2.2.2))
         have S2 := hid hb2
         clear hb2 tok2
         refine ⟨_, rfl, ?_⟩))
    all_goals
      go_wp2_with fail
      (try simp only [Exit.inBlock, Exit.then])
      refine bodyPost_ret (v := .tuple #[.agg #[.slice none 0 0, .slice none 0 0, .int .i64 0], .bool true]) ?_ rfl ⟨⟨_, rfl⟩, ?_⟩
      · rw [results_cell_tmp rfl]
        go_simp
      · refine (?_ : ∀ W, Fr (· = w.heap.size + 1 + 1) w2 W → ∃ a' P' L' D', PSt W a' P' L' D' ∧ Kp P P' L L' D D' ∧ PinsOk P' (m + 1) ∧ Fr (aT a) w W ∧ AdN w a a' 2) _ (by repeat (first | exact Fr.refl _ _ | refine fr_at ?_ _ _ | refine fr_new ?_ (by simp) _ | refine Fr.alloc ?_ _ | refine Fr.drew ?_))
        intro W hWf
        obtain ⟨x1, x2, x3⟩ := asks_end (k := 2) (g := w.heap.size + 1 + 1) HA.out.1 HA.out.2.1 S1.out.1 S1.out.2.2.2 (AdN.refl _ _ _) S2.out (by omega) HA.out.2.2.2.2 (by decide) (by decide) hWf
        refine ⟨a, P', L', D', x1, Kp.of_flushed S1.out.2.1, fun k hk => ?_, x2, x3⟩
        have := S1.out.2.2.1 k hk
        omega
  · have HCf : Aside (∀ W, Below wA.heap.size wA W → Calls Tryz.prog 67 #[.pointer (some ⟨a.gl, 0, none⟩)] W fun e w' => e = .returned (.int .i64 0) ∧ PSt w' a P { L with safe := L.stream.length } (D.lflush L) ∧ Fr (aT a) wA w') := ⟨fun W hW => (lflush_st a P L D W (hPA.below hW) hi (by omega)).mono fun e w' hr => ⟨hr.1, hr.2.1, (Fr.of_below hW (aT a)).trans hr.2.2 (fun _ _ h => h)⟩⟩
    have HEf : Aside (∀ args w, (callFunc 67 args).run Tryz.prog w = .ok (.enter 67 args) w) := ⟨enters_of Tryz.func67 (by kernel_rfl) rfl⟩
    have hk6 := inv_lflush hi (by omega)
    have HK := hid hk6
    obtain ⟨c0, c1, c2, -, -, -⟩ := box0_cells a0
    have tok1 : True := trivial
    clear h hbA a0 a1 a2 hPA hi hp hm hmn hst hk hn hma hk6
    go_enter Tryz.func20, Tryz.ntmps20
    go_wp2_with fail
    rw [HW.out]
    clear HW
    go_region_law (
      (have _t := tok1
       (refine step_call1 (o := ⟨some 179, _, _, _, _, _⟩) 67 (by rfl) _ _ (by rfl) HEf.out (.pointer (some ⟨a.gl, 0, none⟩)) (by go_simp) (HCf.out _ ?_) ?_)
       · exact (by repeat (first | exact Below.refl _ _ | refine bl_drew ?_))
       rintro e w1 ⟨rfl, hP1, hF1⟩
       have S1 : Aside (PSt w1 a P { L with safe := L.stream.length } (D.lflush L) ∧ Fr (aT a) wA w1) := ⟨hP1, hF1⟩
       clear c0 c1 c2
       obtain ⟨c0, c1, c2, -, -, -⟩ := box0_cells (box_after HA.out.1 hF1 (Nat.le_refl _) HA.out.2.2.1)
       obtain ⟨d0, d1, d2, f0, f1, f2⟩ := box0_cells (box_after HA.out.1 hF1 (by omega) HA.out.2.2.2.2)
       clear hP1 hF1 tok1
       refine ⟨_, rfl, ?_⟩))
    all_goals
      go_wp2_with fail
      (try simp only [Exit.inBlock, Exit.then])
      refine bodyPost_ret (v := .tuple #[.agg #[.slice none 0 0, .slice none 0 0, .int .i64 0], .bool true]) ?_ rfl ⟨⟨_, rfl⟩, ?_⟩
      · rw [results_cell_tmp rfl]
        go_simp
      · refine (?_ : ∀ W, Fr (· = w.heap.size + 1 + 1) w1 W → ∃ a' P' L' D', PSt W a' P' L' D' ∧ Kp P P' L L' D D' ∧ PinsOk P' (m + 1) ∧ Fr (aT a) w W ∧ AdN w a a' 2) _ (by repeat (first | exact Fr.refl _ _ | refine fr_at ?_ _ _ | refine fr_new ?_ (by simp) _ | refine Fr.alloc ?_ _ | refine Fr.drew ?_))
        intro W hWf
        obtain ⟨x1, x2, x3⟩ := asks_end (k := 2) (g := w.heap.size + 1 + 1) HA.out.1 HA.out.2.1 S1.out.1 S1.out.2 (AdN.refl _ _ _) (Below.refl _ _) (by omega) HA.out.2.2.2.2 (by decide) (by decide) hWf
        refine ⟨a, P, _, _, x1, HK.out, fun k hk => ?_, x2, x3⟩
        have := HI.out.2 k hk
        omega
end Go.Proofs.YthfidlhefkjpdaaGreatDoor

namespace Go.Proofs.YthfidlhefkjpdaaGreatDoor
open Go.RowKit Go.Maps

set_option maxRecDepth 100000 in
set_option maxHeartbeats 2000000 in
theorem don_any (gd gs gm : Nat) (D : Dk) (A : Option Addr) (n c : Nat) (zs : List Int) (w : World) (hD : DiskAt w gd gs gm D) (hw : D.wf) (hoff : D.off = false) (hpend : ∀ k, D.pend k = none) (hz : RdZ w A n zs) (hn : n ≤ 17592186044416)
    (hfar : ∀ b o, 0 < n → A = some ⟨b, o, none⟩ → b ≠ gs) :
    Calls Tryz.prog 29 #[.pointer (some ⟨gd, 0, none⟩), .slice A n c] w fun e w' => e = .returned (.tuple #[]) ∧ DiskAt w' gd gs gm D ∧ Fr (fun b => b = gd ∨ (b = gs ∨ b = gm)) w w' := by
  have hset := fun W i (hW : DiskAt W gd gs gm D) hi => settle_any gd gs gm D i W hW hw hi
  have hsame : ∀ i, i < D.sec.length → D.sec.set i (D.has i) = D.sec := fun i hi => by
    unfold Dk.has
    rw [hpend]
    simp only [List.getD_eq_getElem?_getD, List.getElem?_eq_getElem hi, Option.getD_some]
    exact List.set_getElem_self hi
  obtain ⟨pv, m, hB, hS, hM, hms, hP⟩ := id hD
  have hgd := hB.lt
  have hgs := (Array.getElem?_eq_some_iff.1 hS).1
  have hgm := hM.lt
  have hmapne : ∀ b t, Ty w b t → gm ≠ b := by
    rintro b t ⟨cs, fr, h⟩ rfl
    obtain ⟨_, ⟨es, c', h1, _⟩, _⟩ := hM
    rw [h] at h1; cases h1
  have hgmd : gm ≠ gd := hmapne gd _ hB.ty
  have hgms : gm ≠ gs := hmapne gs _ ⟨_, _, hS⟩
  have hgsd : gs ≠ gd := fun e => by subst e; exact hB.ty.ne ⟨_, _, hS⟩ (by decide)
  have hPn : ∀ b, pv.ownBlock = some b → b ≠ gd ∧ b ≠ gs ∧ b ≠ gm := fun b hb =>
    ⟨fun e => by subst e; exact (own_ty hP hb).ne hB.ty (by decide), fun e => by subst e; exact (own_ty hP hb).ne ⟨_, _, hS⟩ (by decide), fun e => hmapne b _ (own_ty hP hb) e.symm⟩
  obtain ⟨ns, hns⟩ : ∃ ns, D.sec.length = ns := ⟨_, rfl⟩
  have H : Aside (DiskAt w gd gs gm D ∧ D.wf ∧ RdZ w A n zs ∧ (∀ b o, 0 < n → A = some ⟨b, o, none⟩ → b ≠ gs)) := ⟨hD, hw, hz, hfar⟩
  have HS : Aside ((∀ W i, DiskAt W gd gs gm D → i < D.sec.length → Calls Tryz.prog 73 #[.pointer (some ⟨gd, 0, none⟩), .int .i64 (i : Int)] W fun e w' => e = .returned (.tuple #[]) ∧
      w'.heap[gs]? = some (.cells (cellsB (flat (D.sec.set i (D.has i)))) 113 (0, 0)) ∧ Fr (· = gs) W w') ∧ (∀ i, i < D.sec.length → D.sec.set i (D.has i) = D.sec) ∧ D.sec.length = ns) := ⟨hset, hsame, hns⟩
  have N1 : Aside (gd < w.heap.size ∧ gs < w.heap.size ∧ gm < w.heap.size ∧ gm ≠ gd ∧ gm ≠ gs ∧ gs ≠ gd ∧ D.off = false ∧ (D.pend = fun _ => none) ∧ D.sec.length ≤ 4096) := ⟨hgd, hgs, hgm, hgmd, hgms, hgsd, hoff, funext hpend, hw.n⟩
  have same_gs : ∀ W W', DiskAt W gd gs gm D → Fr (· = gs) w W → Fr (· = gs) W W' → W'.heap[gs]? = some (.cells (cellsB (flat D.sec)) 113 (0, 0)) → DiskAt W' gd gs gm D := by
    intro W W' h1 hFw hF h2
    obtain ⟨pv', m', k1, k2, k3, k4, k5⟩ := h1
    have hz := hFw.size
    exact ⟨pv', m', k1.fr hF (fun e => hgsd e.symm), h2, k3.block (hF.block gm (by omega) hgms), k4, own_fr k5 hF (fun b hb e => by
      have e' : b = gs := e
      subst e'
      exact (own_ty k5 hb).ne (⟨_, _, k2⟩ : Ty W _ 113) (by decide))⟩
  have SG := hid same_gs
  have hnn : ns ≤ 4096 := by have := hw.n; omega
  clear hset hsame hB hS hM hms hP hD hw hz hfar hmapne hPn same_gs hns hoff hpend hgd hgs hgm hgmd hgms hgsd
  go_enter Tryz.func29, Tryz.ntmps29
  go_wp2_with fail
  go_loopg [8] n (fun q i wr => ∃ k : Nat, k + q = n ∧ i = .int .i64 (k : Nat) ∧ Hid (DiskAt wr gd gs gm D ∧ Fr (· = gs) w wr))
  case atStart => exact ⟨0, by omega, rfl, H.out.1, Fr.refl _ _⟩
  case round =>
    obtain ⟨k, hk, rfl, hI⟩ := hrel
    have HI := hid hI.out
    clear hI
    obtain ⟨pv2, m2, hB2, hS2, hM2, hms2, hP2⟩ := id HI.out.1
    have c0 := hB2.cell 0
    have c1 := hB2.cell 1
    have c4 := hB2.cell 4
    have f4 := hB2.frozen 4
    simp only [List.getElem?_toArray, List.getElem?_cons_succ, List.getElem?_cons_zero] at c0 c1 c4
    rw [HS.out.2.2] at c0
    by_cases hlt : k < n
    · have hlt2 : (k : Int) < (n : Int) := by omega
      obtain ⟨bz, oz, rfl, hbz, hcz⟩ := H.out.2.2.1.2.2 (by omega)
      have hkz : k < zs.length := by rw [H.out.2.2.1.1]; exact hlt
      obtain ⟨z, hz⟩ : ∃ z, zs[k] = z := ⟨_, rfl⟩
      have hcell : wr.cell? ⟨bz, oz + k, none⟩ = some (.int .i64 z) := by
        rw [World.cell?_of_block (w := w) (HI.out.2.block bz hbz (fun e => H.out.2.2.2 bz oz (by omega) rfl e)), ← hz]
        exact hcz k hkz
      clear hB2 hS2 hM2 hms2 hP2 hcz hbz hkz hz c1 c4 f4
      by_cases hz0 : 0 ≤ z
      · have d0 : decide ((0 : Int) ≤ z) = true := by simpa using hz0
        obtain ⟨i, rfl⟩ : ∃ i : Nat, (i : Int) = z := ⟨z.toNat, by omega⟩
        by_cases hi : i < ns
        · have d1 : decide ((i : Int) < (ns : Int)) = true := by simpa using hi
          have hc := HS.out.1 wr i HI.out.1 (by rw [HS.out.2.2]; exact hi)
          rw [HS.out.2.1 i (by rw [HS.out.2.2]; exact hi)] at hc
          go_wp2_with fail
          refine hc.mono ?_
          rintro e w2 ⟨rfl, hS2, hF2⟩
          have H2 : Aside (DiskAt w2 gd gs gm D ∧ Fr (· = gs) w w2) := ⟨SG.out wr w2 HI.out.1 HI.out.2 hF2 hS2, HI.out.2.trans hF2 (fun _ _ h => h)⟩
          clear hS2 hF2 hc hcell c0
          go_wp2_with fail
          go_roundg (n - 1 - k)
          case rel => exact ⟨k + 1, by omega, by go_num, H2.out⟩
          case measure => omega
        · have d1 : decide ((i : Int) < (ns : Int)) = false := by simpa using hi
          go_wp2_with fail
          go_roundg (n - 1 - k)
          case rel => exact ⟨k + 1, by omega, by go_num, HI.out⟩
          case measure => omega
      · have d0 : decide ((0 : Int) ≤ z) = false := by simpa using hz0
        go_wp2_with fail
        go_roundg (n - 1 - k)
        case rel => exact ⟨k + 1, by omega, by go_num, HI.out⟩
        case measure => omega
    · have hkn : ¬ (k : Int) < (n : Int) := by omega
      have HM := hid hM2
      have HB := hid hB2
      have HR : Aside (wr.heap[gs]? = some (.cells (cellsB (flat D.sec)) 113 (0, 0)) ∧ wr.ownsRow 0 76 2 pv2 D.plan.length (D.plan.flatMap encF) ∧ (m2 : Int) ≤ D.steps) := ⟨hS2, hP2, hms2⟩
      clear hB2 hS2 hM2 hms2 hP2
      go_wp2_with (refine wpList_clear (by rfl) (.tmp 30) 109 113 (by rfl) Tryz.underlying109 (by rfl) HM.out ?_
                   intro w2 hM2 hg2 hs2
                   have B2 : Aside (Blk w2 gd 111 #[.slice (some ⟨gs, 0, none⟩) D.sec.length D.sec.length, .map (some gm), pv2, .int .i64 D.steps, .bool D.off]) := ⟨HB.out.only hg2 (fun e => N1.out.2.2.2.1 (by injection e with e; exact e.symm))⟩
                   have C2 : Aside (MapAt Tryz.prog 3 w2 gm 0 (fun _ => none) ∧ wr.grownBy w2 (some gm)) := ⟨hM2, hg2⟩
                   have c42 := B2.out.cell 4
                   have f42 := B2.out.frozen 4
                   clear hM2 hg2 hs2 c0 c1 c4 f4)
      go_end0
      have hF2 : Fr (· = gm) wr w2 := Fr.of_only C2.out.2
      have hF3 : Fr (· = gd) w2 (w2.setCell ⟨gd, 4, none⟩ (.bool false)) := (Fr.refl (· = gd) w2).set (p := ⟨gd, 4, none⟩) (.inl rfl) _
      have hz1 := HI.out.2.size
      have hz2 := hF2.size
      obtain ⟨n1, n2, n3, n4, n5, n6, n7, n8, n9⟩ := N1.out
      have hS2 : w2.heap[gs]? = some (.cells (cellsB (flat D.sec)) 113 (0, 0)) := (hF2.block gs (by omega) (fun e => n5 e.symm)).trans HR.out.1
      have hR2 : w2.ownsRow 0 76 2 pv2 D.plan.length (D.plan.flatMap encF) := own_fr HR.out.2.1 hF2 (fun b hb e => by
        have e' : b = gm := e
        subst e'
        obtain ⟨_, ⟨es, c', h1, _⟩, _⟩ := HM.out
        obtain ⟨_, _, h2⟩ := own_ty HR.out.2.1 hb
        rw [h1] at h2; cases h2)
      refine ⟨rfl, ⟨pv2, 0, ?_, (hF3.block gs (by omega) n6).trans hS2, ?_, by have := H.out.2.1.s0; omega, own_fr hR2 hF3 (fun b hb e => by
        have e' : b = gd := e
        subst e'
        exact (own_ty hR2 hb).ne B2.out.ty (by decide))⟩, ?_⟩
      · have := B2.out.set_ 4 (.bool false)
        rw [n7]
        rw [n7] at this
        simpa using this
      · rw [n8]
        exact C2.out.1.block (hF3.block gm (by omega) n4)
      · exact ((HI.out.2.mono (fun b _ h => .inr (.inl h))).trans hF2 (fun b _ h => .inr (.inr h))).trans hF3 (fun b _ h => .inl h)
end Go.Proofs.YthfidlhefkjpdaaGreatDoor

namespace Go.Proofs.YthfidlhefkjpdaaGreatDoor
open Go.RowKit Go.Maps

set_option maxRecDepth 100000 in
set_option maxHeartbeats 2000000 in
theorem same_any (A B : Option Addr) (n ca cb : Nat) (bs : List UInt8) (w : World) (hA : RdB w A n bs) (hB : RdB w B n bs) (hn : n ≤ 140737488355328) :
    Calls Tryz.prog 26 #[.slice A n ca, .slice B n cb] w fun e w' => e = .returned (.bool true) ∧ Below w.heap.size w w' := by
  have HA := hid hA
  have HB := hid hB
  have dn : decide ((n : Int) = (n : Int)) = true := by simp
  clear hA hB
  go_enter Tryz.func26, Tryz.ntmps26
  go_wp2_with fail
  go_loopg [5] n (fun q i wr => ∃ k : Nat, k + q = n ∧ i = .int .i64 (k : Nat) ∧ Hid (Below w.heap.size w wr))
  case atStart => exact ⟨0, by omega, rfl, Below.refl _ _⟩
  case round =>
    obtain ⟨k, hk, rfl, hI⟩ := hrel
    by_cases hlt : k < n
    · have hlt2 : (k : Int) < (n : Int) := by omega
      obtain ⟨ba, oa, hAe, hxe, x, hca⟩ := HA.out.get hlt
      obtain ⟨bb, ob, hBe, hye, y, hcb⟩ := HB.out.get hlt
      subst hAe hBe
      obtain ⟨v, hv⟩ : ∃ v : Nat, bs[k].toNat = v := ⟨_, rfl⟩
      have c1 : wr.cell? ⟨ba, oa + k, none⟩ = some (.int .u8 (v : Int)) := by rw [← hv]; exact (hI.out.cell (p := ⟨ba, oa + k, none⟩) hxe).trans hca
      have c2 : wr.cell? ⟨bb, ob + k, none⟩ = some (.int .u8 (v : Int)) := by rw [← hv]; exact (hI.out.cell (p := ⟨bb, ob + k, none⟩) hye).trans hcb
      have S1 := hid hI.out
      clear hI hca hcb hv hxe hye
      go_wp2_with fail
      go_region_held3 (fun w' => w'.cell? ⟨ba, oa + k, none⟩ = some (.int .u8 (v : Int)) ∧ w'.cell? ⟨bb, ob + k, none⟩ = some (.int .u8 (v : Int))) (exact ⟨c1, c2⟩) (fail)
      go_wp2_with fail
      go_roundg (n - 1 - k)
      case rel => exact ⟨k + 1, by omega, by go_num, bl_drew S1.out⟩
      case measure => omega
    · have hkn : ¬ (k : Int) < (n : Int) := by omega
      go_wp2_with fail
      go_ret
      exact ⟨rfl, hI.out⟩
end Go.Proofs.YthfidlhefkjpdaaGreatDoor
