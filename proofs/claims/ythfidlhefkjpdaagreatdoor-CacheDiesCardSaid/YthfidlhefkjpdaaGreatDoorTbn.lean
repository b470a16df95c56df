/- What a pool's calls keep; the bounds of its maps; the reference's pool that holds nothing.
   CacheDirty: plain part. -/
import Derived.Test.YthfidlhefkjpdaaGreatDoorTbl
import Derived.Test.YthfidlhefkjpdaaGreatDoorTbm
import Derived.Laws.ResultCell
namespace Go.Proofs.YthfidlhefkjpdaaGreatDoor
open Go.RowKit Go.Maps

/-- A map whose keys all lie under M has no more than M entries. -/
theorem MapAt.tight {P : Program} {kt : TypeId} {w : World} {b n : Nat} {m : Int → Option Value} (h : MapAt P kt w b n m) (hk : P.underlying kt = some (.int .i64)) {M : Nat} (hM : ∀ k, (m k).isSome = true → 0 ≤ k ∧ k < M) : MapAt P kt w b M m := by
  obtain ⟨D, hown, h2, h3⟩ := h
  obtain ⟨k1, k2, k3⟩ := keys_facts hown hk
  obtain ⟨es, c, hb, F, hs, hD⟩ := hown
  refine ⟨D, ⟨es, c, hb, F, ?_, hD⟩, h2, h3⟩
  have e1 : Maps.size D = es.size := by rw [hD]; simp [Maps.size, length_sorted]
  rw [← e1, ← k3]
  have hsub : (intKeys D) ⊆ (List.range M).map (fun i : Nat => (i : Int)) := fun x hx => by
    rw [k2, h3] at hx
    obtain ⟨h4, h5⟩ := hM x hx
    exact List.mem_map.2 ⟨x.toNat, List.mem_range.2 (by omega), by omega⟩
  have := k1.length_le_of_subset hsub
  rwa [List.length_map, List.length_range] at this

/-- The pins are of the pool's pages, each counted once at least and m times at most. -/
def PinsOk (P : Pl) (m : Nat) : Prop := ∀ k, (P.pins k).isSome = true → 0 ≤ k ∧ k < P.count ∧ 1 ≤ (P.pins k).getD 0 ∧ (P.pins k).getD 0 ≤ m

theorem PinsOk.range {P : Pl} {m : Nat} (h : PinsOk P m) (k : Int) : 0 ≤ (P.pins k).getD 0 ∧ (P.pins k).getD 0 ≤ m := by
  cases hk : P.pins k with
  | none => simp
  | some x =>
    have := h k (by rw [hk]; rfl)
    rw [hk] at this
    omega

set_option maxRecDepth 100000 in
theorem PSt.tight {w : World} {a : Ad} {P : Pl} {L : Lg} {D : Dk} {m : Nat} (h : PSt w a P L D) (hw : PWf P) (hp : PinsOk P m) : PSt w { a with ma := P.count, mn := P.count } P L D := by
  refine ⟨⟨h.ld.disk, h.ld.log, h.ld.bd, h.ld.bs, h.ld.bm⟩, ⟨h.pool.blk, h.pool.row, h.pool.blen, h.pool.each, h.pool.nodup, h.pool.atm.tight (by kernel_rfl) fun k hk => ?_, h.pool.pin.tight (by kernel_rfl) fun k hk => ?_, h.pool.lp, h.pool.la, h.pool.ln, h.pool.ne, h.pool.ol⟩, h.lb, h.lg⟩
  · unfold atV at hk
    rw [Option.isSome_map] at hk
    obtain ⟨i, hi⟩ := Option.isSome_iff_exists.1 hk
    obtain ⟨f, h1, h2⟩ := (hw.atm k i).1 hi
    have := hw.full f (List.mem_of_getElem? h1)
    show 0 ≤ k ∧ k < (P.count : Int)
    omega
  · unfold pinV at hk
    rw [Option.isSome_map] at hk
    have := hp k hk
    show 0 ≤ k ∧ k < (P.count : Int)
    omega

/-- What a call on the pool keeps. -/
structure Kp (P P' : Pl) (L L' : Lg) (D D' : Dk) : Prop where
  inv : Inv P' L' D'
  lc : ∀ M, M < P.count → lc P' D' M = lc P D M
  base : P'.base = P.base
  count : P'.count = P.count
  first : L'.first = L.first
  cnt : L'.count = L.count
  run : L'.run = L.run
  stream : L'.stream = L.stream
  nrec : L'.nrec = L.nrec
  old : L'.old = L.old
  steps : D'.steps ≤ D.steps + 300000
  sec : D'.sec.length = D.sec.length

theorem Kp.refl {P : Pl} {L : Lg} {D : Dk} (h : Inv P L D) : Kp P P L L D D := ⟨h, fun _ _ => rfl, rfl, rfl, rfl, rfl, rfl, rfl, rfl, rfl, by omega, rfl⟩
theorem Kp.of_same {P P' : Pl} {L L' : Lg} {D D' : Dk} (h : Inv P L D) (hi : Inv P' L' D') (hs : Same P P' L L' D D') : Kp P P' L L' D D' :=
  ⟨hi, hs.lc, hs.stay.base, hs.stay.count, hs.stay.first, hs.stay.cnt, hs.stay.run, hs.stay.stream, hs.stay.nrec, hs.stay.old, by have := hs.stay.steps; have := h.ok.lw.count; omega, hs.stay.sec⟩
theorem Kp.pinned {P P' : Pl} {L L' : Lg} {D D' : Dk} (h : Kp P P' L L' D D') (x : Int → Option Int) : Kp P { P' with pins := x } L L' D D' :=
  ⟨h.inv.pinned x, h.lc, h.base, h.count, h.first, h.cnt, h.run, h.stream, h.nrec, h.old, h.steps, h.sec⟩
theorem Kp.of_flushed {P P' : Pl} {L L' : Lg} {D D' : Dk} (h : Flushed P P' L L' D D') : Kp P P' L L' D D' :=
  ⟨h.inv, fun M hM => by rw [lc_clean h.clean, h.base]; exact h.lc M hM, h.base, h.count, h.log.1, h.log.2.1, h.log.2.2.1, h.log.2.2.2.2.1, h.log.2.2.2.2.2.1, h.log.2.2.2.2.2.2.1, h.steps, h.sec⟩

/-- The log's own flush keeps the pool. -/
theorem inv_lflush {P : Pl} {L : Lg} {D : Dk} (h : Inv P L D) (hst : D.steps + 20000 ≤ 1152921504606846976) : Kp P P L { L with safe := L.stream.length } D (D.lflush L) := by
  have hcn := h.ok.lw.count
  have h1 := lflush_next h.ok.dw h.ok.dp h.ok.doff h.ok.lw h.ok.lf (by omega)
  have hhas : ∀ M, M < P.count → (D.lflush L).has (P.base + M) = D.has (P.base + M) := fun M hM => h1.has _ (by have := h.ok.pb; omega) (.inr (by have := h.log; omega))
  have hs1 := h1.steps
  have hlen := h1.len
  have hlw : Lg.wf { L with safe := L.stream.length } := by
    have := h.ok.lw
    exact ⟨this.run, this.most, this.count, this.len, Nat.le_refl _⟩
  refine ⟨⟨h.wf, ⟨hlw, h.ok.ld, h1.wf, h1.plan, h1.off, by rw [h1.len]; exact h.ok.lf, h.ok.pd, by rw [h1.len]; exact h.ok.pb, by omega⟩, h.log, fun i f hf => ?_, fun N hN => ?_, fun hl k => ?_⟩, fun M hM => ?_, rfl, rfl, rfl, rfl, rfl, rfl, rfl, rfl, by omega, h1.len⟩
  · obtain ⟨p, q1, q2, q3, q4⟩ := h.fr i f hf
    have hfu := h.wf.full f (List.mem_of_getElem? hf)
    exact ⟨p, q1, q2, q3, fun hd => by rw [hhas _ (by omega)]; exact q4 hd⟩
  · rw [hhas _ hN]
    exact h.pg N hN
  · unfold Dk.lflush
    split
    · exact h.loose hl k
    · rfl
  · unfold Go.Proofs.YthfidlhefkjpdaaGreatDoor.lc
    rw [hhas M hM]

theorem lflush_st (a : Ad) (P : Pl) (L : Lg) (D : Dk) (w : World) (h : PSt w a P L D) (hi : Inv P L D) (hst : D.steps + 20000 ≤ 1152921504606846976) :
    Calls Tryz.prog 67 #[.pointer (some ⟨a.gl, 0, none⟩)] w fun e w' => e = .returned (.int .i64 0) ∧ PSt w' a P { L with safe := L.stream.length } (D.lflush L) ∧ Fr (aT a) w w' := by
  refine (lflush_any a.base a.gl a.gd a.gs a.gm a.sv a.rv L D w h.ld hi.ok.lw hi.ok.ld hi.ok.dw hi.ok.dp hi.ok.doff hi.ok.lf (by have := hi.ok.st; omega)).mono ?_
  rintro e w' ⟨rfl, hB, hF⟩
  exact ⟨rfl, h.onLD (fr_aL hF) (Nx.refl _ _) hB, fr_aT1 (fr_aL hF)⟩

/-- Unpin, whatever the number. -/
theorem cunpin_all (a : Ad) (P : Pl) (L : Lg) (D : Dk) (n : Int) (m : Nat) (w : World) (h : PSt w a P L D) (hn : wf64 n) (hp : PinsOk P m) (hm : m ≤ 4398046511104) (hmn : a.mn ≤ 1099511627776) :
    Calls Tryz.prog 35 #[.pointer (some ⟨a.gp, 0, none⟩), .int .i64 n] w fun e w' => (∃ v, e = .returned (.int .i64 v)) ∧
      ∃ a' x, PSt w' a' { P with pins := x } L D ∧ PinsOk { P with pins := x } m ∧ Fr (aT a) w w' ∧ AdN w a a' 2 := by
  have hr := hp.range n
  by_cases h0 : (P.pins n).getD 0 = 0
  · refine (cunpin_loose a P L D n w h hn h0).mono ?_
    rintro e w' ⟨rfl, rfl⟩
    exact ⟨⟨_, rfl⟩, a, P.pins, h, hp, Fr.refl _ _, AdN.refl _ _ _⟩
  · refine (cunpin_st a P L D n w h hn (by omega) (by omega) hmn).mono ?_
    rintro e w' ⟨rfl, a', h1, h2, h3⟩
    refine ⟨⟨_, rfl⟩, a', _, h1, fun k hk => ?_, fr_aT2 h2, h3.mono (by omega)⟩
    replace hk : (unpinV P.pins n k).isSome = true := hk
    show 0 ≤ k ∧ k < P.count ∧ 1 ≤ (unpinV P.pins n k).getD 0 ∧ (unpinV P.pins n k).getD 0 ≤ m
    unfold unpinV at hk ⊢
    by_cases hkn : k = n
    · subst hkn
      rw [if_pos rfl] at hk ⊢
      by_cases h1 : (P.pins k).getD 0 = 1
      · rw [if_pos h1] at hk; cases hk
      · rw [if_neg h1]
        have hs : (P.pins k).isSome = true := by
          cases hx : P.pins k with
          | none => rw [hx] at h0; exact absurd rfl h0
          | some _ => rfl
        have := hp k hs
        simp only [Option.getD_some]
        omega
    · rw [if_neg hkn] at hk ⊢
      exact hp k hk

set_option maxRecDepth 100000 in
theorem rreach_empty (n : Int) (w : World) : Calls Tryz.prog 58 #[.agg #[.slice none 0 0, .slice none 0 0, .int .i64 0], .int .i64 n] w fun e w' => e = .returned (.int .i64 1) ∧ Below w.heap.size w w' := by
  by_cases h0 : n < 0
  · have d0 : decide (n < 0) = true := by simpa using h0
    clear h0
    go_enter Tryz.func58, Tryz.ntmps58
    go_wp2_with fail
    go_ret
    exact ⟨rfl, bl_alloc (Below.refl _ _) _ (Nat.le_refl _)⟩
  · have d0 : decide (n < 0) = false := by simpa using h0
    have d1 : decide ((0 : Int) ≤ n) = true := by simpa using h0
    clear h0
    go_enter Tryz.func58, Tryz.ntmps58
    go_wp2_with fail
    go_ret
    exact ⟨rfl, bl_alloc (Below.refl _ _) _ (Nat.le_refl _)⟩

/-- The boxes of a pool that holds nothing. -/
def box0 : Array Value := #[.slice none 0 0, .slice none 0 0, .int .i64 0]
theorem box0_cells {w : World} {g : Nat} {t : TypeId} (h : w.heap[g]? = some (.cells box0 t (0, 0))) :
    w.cell? ⟨g, 0, none⟩ = some (.slice none 0 0) ∧ w.cell? ⟨g, 1, none⟩ = some (.slice none 0 0) ∧ w.cell? ⟨g, 2, none⟩ = some (.int .i64 0) ∧
    w.frozen? ⟨g, 0, none⟩ = false ∧ w.frozen? ⟨g, 1, none⟩ = false ∧ w.frozen? ⟨g, 2, none⟩ = false := by
  refine ⟨?_, ?_, ?_, ?_, ?_, ?_⟩
  all_goals first
    | (unfold World.cell?; rw [h]; rfl)
    | (unfold World.frozen?; rw [h]; simp)

set_option maxRecDepth 100000 in
theorem rpin_empty (n : Int) (w : World) : Calls Tryz.prog 65 #[.agg #[.slice none 0 0, .slice none 0 0, .int .i64 0], .int .i64 n] w fun e w' => e = .returned (.tuple #[.agg #[.slice none 0 0, .slice none 0 0, .int .i64 0], .int .i64 1]) ∧ Below w.heap.size w w' := by
  have hre := fun W => rreach_empty n W
  go_enter Tryz.func65, Tryz.ntmps65
  go_wp2_with fail
  refine (hre _).mono ?_
  rintro e w1 ⟨rfl, h1⟩
  have b1 : w1.heap[w.heap.size]? = some (.cells box0 49 (0, 0)) := (h1.block _ (by simp; omega)).trans ((Below.heap_alloc _ _ _ (by simp)).trans (alloc_new w _))
  have b2 : w1.heap[w.heap.size + 1]? = some (.cells box0 49 (0, 0)) := (h1.block _ (by simp)).trans (by have := alloc_new (w.alloc (.cells box0 49)) (.cells box0 49); rw [World.size_alloc] at this; exact this)
  have hb : Below w.heap.size w w1 := (bl_alloc (bl_alloc (Below.refl _ _) _ (Nat.le_refl _)) _ (by simp)).trans (h1.mono (by simp; omega))
  obtain ⟨c0, c1, c2, f0, f1, f2⟩ := box0_cells b1
  obtain ⟨d0, d1, d2, e0, e1, e2⟩ := box0_cells b2
  have HB := hid (And.intro hb (And.intro b1 b2))
  clear h1 b1 b2 hb hre
  go_wp2_with fail
  (try simp only [Exit.inBlock, Exit.then])
  refine bodyPost_ret (v := .tuple #[.agg #[.slice none 0 0, .slice none 0 0, .int .i64 0], .int .i64 1]) ?_ rfl ?_
  · rename_i K aK
    clear aK K
    rw [results_cell_tmp rfl]
    go_simp
  · exact ⟨rfl, ((HB.out.1.setCell (by simp) _).setCell (by simp) _).setCell (by simp) _⟩

set_option maxRecDepth 100000 in
theorem runpin_empty (n : Int) (w : World) : Calls Tryz.prog 66 #[.agg #[.slice none 0 0, .slice none 0 0, .int .i64 0], .int .i64 n] w fun e w' => e = .returned (.tuple #[.agg #[.slice none 0 0, .slice none 0 0, .int .i64 0], .int .i64 101]) ∧ Below w.heap.size w w' := by
  go_enter Tryz.func66, Tryz.ntmps66
  go_wp2_with fail
  go_loopg [7, 8] 0 (fun q d i wr => q = 0 ∧ d = .bool false ∧ i = .int .i64 0 ∧ wr = ((w.alloc (.cells #[.slice none 0 0, .slice none 0 0, .int .i64 0] 49)).alloc (.cells #[.slice none 0 0, .slice none 0 0, .int .i64 0] 49)).alloc (.cells #[] 3))
  case atStart => exact ⟨rfl, rfl, rfl, rfl⟩
  case round =>
    obtain ⟨rfl, rfl, rfl, rfl⟩ := hrel
    go_wp2_with fail
    (try simp only [Exit.inBlock, Exit.then])
    refine bodyPost_ret (v := .tuple #[.agg #[.slice none 0 0, .slice none 0 0, .int .i64 0], .int .i64 101]) ?_ rfl ⟨rfl, ?_⟩
    · rw [results_cell_tmp rfl]
      go_simp
    · repeat (first | exact Below.refl _ _ | refine Below.setCell ?_ (by simp <;> omega) _ | refine bl_alloc ?_ _ (by simp <;> omega))
end Go.Proofs.YthfidlhefkjpdaaGreatDoor

namespace Go.Proofs.YthfidlhefkjpdaaGreatDoor
open Go.RowKit Go.Maps

theorem dirtyL_eq {P : Pl} (hw : PWf P) : ∀ ks : List Int, (∀ k ∈ ks, (P.atm k).isSome = true) → dirtyL P ks = ks.filterMap fun k => (dty P k).map fun s => (k, s)
  | [], _ => rfl
  | k :: r, h => by
    obtain ⟨i, hi⟩ := Option.isSome_iff_exists.1 (h k (List.mem_cons_self ..))
    obtain ⟨f, hf, hfn⟩ := (hw.atm k i).1 hi
    have ih := dirtyL_eq hw r fun j hj => h j (List.mem_cons_of_mem _ hj)
    have hfr : frOf P k = some f := by rw [← hfn]; exact hw.frOf hf
    have e : dirtyL P (k :: r) = (if dirtyOf P i = true then [dtyOf P i] else []) ++ dirtyL P r := by
      unfold dirtyL dirtyIx
      simp only [List.filterMap_cons, hi, List.filter_cons]
      split <;> simp
    rw [e, ih]
    simp only [List.filterMap_cons]
    unfold dirtyOf dtyOf
    rw [hf]
    simp only
    by_cases hd : f.dirty = true
    · have : dty P k = some f.since := by unfold dty; rw [hfr]; simp [hd]
      rw [if_pos hd, this]
      simp [hfn]
    · have : dty P k = none := by unfold dty; rw [hfr]; simp [hd]
      rw [if_neg hd, this]
      simp
theorem dirtyL_mem {P : Pl} (hw : PWf P) {ks : List Int} (hk : KeysOf P.atm ks) {x : Int × Int} : x ∈ dirtyL P ks ↔ dty P x.1 = some x.2 := by
  rw [dirtyL_eq hw ks (fun k h => (hk.2 k).1 h), List.mem_filterMap]
  constructor
  · rintro ⟨k, _, h⟩
    cases hd : dty P k with
    | none => rw [hd] at h; cases h
    | some s =>
      rw [hd] at h
      obtain rfl := Option.some.inj h
      exact hd
  · intro h
    refine ⟨x.1, (hk.2 _).2 ?_, by rw [h]; rfl⟩
    unfold dty frOf at h
    cases ha : P.atm x.1 with
    | none => rw [ha] at h; cases h
    | some i => rfl
theorem dirtyL_sorted {P : Pl} (hw : PWf P) {ks : List Int} (hk : KeysOf P.atm ks) : (dirtyL P ks).Pairwise fun x y => x.1 < y.1 := by
  rw [dirtyL_eq hw ks (fun k h => (hk.2 k).1 h)]
  refine List.Pairwise.filterMap _ (R := fun a b => a < b) ?_ hk.1
  intro a b hab x hx y hy
  cases ha : dty P a with
  | none => rw [ha] at hx; cases hx
  | some s =>
    cases hb : dty P b with
    | none => rw [hb] at hy; cases hy
    | some t =>
      rw [ha] at hx
      rw [hb] at hy
      obtain rfl := Option.some.inj hx
      obtain rfl := Option.some.inj hy
      exact hab
theorem dirtyL_len {P : Pl} (hw : PWf P) {ks : List Int} (hk : KeysOf P.atm ks) : (dirtyL P ks).length ≤ P.frames.length := by
  unfold dirtyL
  rw [List.length_map, ← hw.keys_len hk]
  exact dirtyIx_len P ks

/-- The slice reads as these numbers. -/
def RdZ (w : World) (A : Option Addr) (n : Nat) (zs : List Int) : Prop :=
  zs.length = n ∧ (∀ z ∈ zs, wf64 z) ∧ (0 < n → ∃ b o, A = some ⟨b, o, none⟩ ∧ b < w.heap.size ∧ ∀ i (h : i < zs.length), w.cell? ⟨b, o + i, none⟩ = some (.int .i64 zs[i]))
theorem RdZ.below {w w' : World} {A : Option Addr} {n : Nat} {zs : List Int} (h : RdZ w A n zs) (hb : Below w.heap.size w w') : RdZ w' A n zs := by
  refine ⟨h.1, h.2.1, fun h0 => ?_⟩
  obtain ⟨b, o, rfl, hl, hc⟩ := h.2.2 h0
  exact ⟨b, o, rfl, Nat.lt_of_lt_of_le hl hb.size, fun i hi => (World.cell?_of_block (w := w) (hb.block b hl)).trans (hc i hi)⟩

/-- What stands between two rounds of CacheDirty. -/
structure DSt (w2 : World) (a0 a : Ad) (gF : Nat) (wr : World) (P : Pl) (L : Lg) (D : Dk) (F : List Int) (j : Nat) : Prop where
  st : PSt wr a P L D
  inv : Inv P L D
  pins : P.pins = fun _ => none
  cnt : P.count = 8
  fr : Fr (fun b => aT a0 b ∨ b = gF) w2 wr
  ad : AdN w2 a0 a j
  blk : wr.heap[gF]? = some (.cells (F.map (Value.int .i64)).toArray 2 (0, 0))
  fl : F.length = 8
  old : L.old = false
  lcnt : L.count = 4
  run : L.run = 2
  str : L.stream.length = 2 * j
  nrec : L.nrec = j
  steps : D.steps ≤ 4 + 6 * j
  dty : ∀ k s, dty P k = some s → ∃ m : Nat, k = (m : Int) ∧ m < 8 ∧ F.getD m 0 = s ∧ 0 < s ∧ s < L.lsn L.stream.length
theorem DSt.j {w2 wr : World} {a0 a : Ad} {gF j : Nat} {P : Pl} {L : Lg} {D : Dk} {F : List Int} (h : DSt w2 a0 a gF wr P L D F j) : j ≤ 996 := by
  have h1 := h.inv.ok.lw.len
  have h2 := h.str
  have h3 := h.lcnt
  omega
theorem DSt.below {w2 wr w' : World} {a0 a : Ad} {gF j : Nat} {P : Pl} {L : Lg} {D : Dk} {F : List Int} (h : DSt w2 a0 a gF wr P L D F j) (hb : Below wr.heap.size wr w') : DSt w2 a0 a gF w' P L D F j :=
  ⟨h.st.below hb, h.inv, h.pins, h.cnt, h.fr.trans (Fr.of_below hb (fun b => aT a0 b ∨ b = gF)) (fun _ _ h => h), h.ad, (hb.block gF (Array.getElem?_eq_some_iff.1 h.blk).1).trans h.blk, h.fl, h.old, h.lcnt, h.run, h.str, h.nrec, h.steps, h.dty⟩

/-- A block that is none of disk, log and pool is turned. -/
theorem PSt.apart_fr {w w' : World} {a : Ad} {P : Pl} {L : Lg} {D : Dk} {T : Nat → Prop} (h : PSt w a P L D) (hf : Fr T w w') (hT : ∀ b, aT a b → ¬ T b) (hF : ∀ b, Ty w b 76 → ¬ T b) (hu : ∀ b, Ty w b 5 → ¬ T b) : PSt w' a P L D :=
  ⟨h.ld.fr hf (fun b hb => hT b (.inl hb)) hF, h.pool.fr hf (fun b hb => hT b (.inr hb)) (fun b hb _ _ => hu b hb), h.lb, h.lg⟩
theorem DSt.append {w3 wr w' : World} {a0 a a' : Ad} {gF j : Nat} {P : Pl} {L L' : Lg} {D : Dk} {F : List Int} {r : List UInt8} {nr : Nat} (h : DSt w3 a0 a gF wr P L D F j) (hgl : gF < w3.heap.size) (hne : ¬ aT a0 gF) (hr : r.length = 2) (hnr : nr = L.nrec + 1)
    (hfit : L.stream.length + 2 ≤ L.count * 498) (hL : L' = { L with stream := L.stream ++ r, nrec := nr }) (hP : PSt w' a' P L' D) (hF : Fr (aT a) wr w') (hA : AdN wr a a' 0) : DSt w3 a0 a' gF w' P L' D F (j + 1) := by
  subst hL
  have hz := h.fr.size
  have hgr : gF < wr.heap.size := by omega
  have hna : ¬ aT a gF := fun hh => hne (h.ad.foot gF hgl hh)
  have hAd := h.ad.trans hA hz
  refine ⟨hP, h.inv.appended r nr (by rw [hr]; exact hfit), h.pins, h.cnt, h.fr.trans hF (fun x hx hh => .inl (h.ad.foot x hx hh)), hAd.mono (by omega), (hF.block gF hgr hna).trans h.blk, h.fl, h.old, h.lcnt, h.run, ?_, ?_, ?_, ?_⟩
  · show (L.stream ++ r).length = _
    rw [List.length_append, h.str, hr]; omega
  · show nr = _
    rw [hnr, h.nrec]
  · have := h.steps; omega
  · intro k s hs
    obtain ⟨m, h1, h2, h3, h4, h5⟩ := h.dty k s hs
    refine ⟨m, h1, h2, h3, h4, Int.lt_of_lt_of_le h5 ?_⟩
    show L.lsn L.stream.length ≤ L.lsn (L.stream ++ r).length
    exact lsn_mono L (by rw [List.length_append]; omega)

theorem row2 {w : World} {base n c : Nat} {A : Option Addr} {l : List (Int × Int)} (h : w.ownsRow base 39 2 (.slice A n c) n (l.flatMap encD)) {m : Nat} (hm : m < l.length) :
    ∃ g, A = some ⟨g, 0, none⟩ ∧ g < w.heap.size ∧ w.cell? ⟨g, m * 2, none⟩ = some (.int .i64 l[m].1) ∧ w.cell? ⟨g, m * 2 + 1, none⟩ = some (.int .i64 l[m].2) := by
  have hl : ∀ l : List (Int × Int), (l.flatMap encD).length = l.length * 2 := fun l => by
    induction l with
    | nil => rfl
    | cons x r ih => simp [encD] at ih ⊢; omega
  have hx : ∀ (l : List (Int × Int)) (m : Nat) (hm : m < l.length), (l.flatMap encD)[m * 2]? = some (.int .i64 l[m].1) ∧ (l.flatMap encD)[m * 2 + 1]? = some (.int .i64 l[m].2) := by
    intro l
    induction l with
    | nil => intro m hm; cases hm
    | cons x r ih =>
      intro m hm
      match m with
      | 0 => exact ⟨rfl, rfl⟩
      | m + 1 =>
        have := ih m (by simpa using hm)
        simp only [List.flatMap_cons, encD] at this ⊢
        rw [show (m + 1) * 2 = m * 2 + 2 by omega, show m * 2 + 2 + 1 = (m * 2 + 1) + 2 by omega]
        simpa using this
  have hln := h.1
  rw [hl] at hln
  have hh := h
  obtain ⟨_, ⟨h1, h2⟩ | ⟨g, cap, cur, hv, _, hb, _⟩⟩ := h
  · omega
  · have hA : A = some ⟨g, 0, none⟩ := by injection hv
    subst hA
    refine ⟨g, rfl, (Array.getElem?_eq_some_iff.1 hb).1, ?_, ?_⟩
    · rw [hh.cellAt (m * 2) (by omega)]; exact (hx l m hm).1
    · rw [hh.cellAt (m * 2 + 1) (by omega)]; exact (hx l m hm).2

/-- first[n] = at, if the page was not dirty. -/
def firstF (F : List Int) (was : Option Int) (N : Nat) (at' : Int) : List Int := if was.isSome = true then F else F.set N at'
theorem firstF_len (F : List Int) (was : Option Int) (N : Nat) (x : Int) : (firstF F was N x).length = F.length := by unfold firstF; split <;> simp
theorem firstF_dty {P P' : Pl} {F : List Int} {N : Nat} {x : Int} (hN : N < 8) (hF : F.length = 8) (hx : 0 < x) (h : ∀ k s, dty P k = some s → ∃ m : Nat, k = (m : Int) ∧ m < 8 ∧ F.getD m 0 = s ∧ 0 < s ∧ s < x)
    (hn : dty P' N = some ((dty P N).getD x)) (hk : ∀ k s, k ≠ (N : Int) → dty P' k = some s → dty P k = some s) :
    ∀ k s, dty P' k = some s → ∃ m : Nat, k = (m : Int) ∧ m < 8 ∧ (firstF F (dty P N) N x).getD m 0 = s ∧ 0 < s ∧ s ≤ x := by
  intro k s hs
  by_cases hkN : k = (N : Int)
  · subst hkN
    rw [hn] at hs
    obtain rfl := Option.some.inj hs
    cases hd : dty P N with
    | none =>
      refine ⟨N, rfl, hN, ?_, hx, by simp⟩
      unfold firstF
      simp [List.getD_eq_getElem?_getD, List.getElem?_set, hF, hN]
    | some t =>
      obtain ⟨m, h1, h2, h3, h4, h5⟩ := h N t hd
      obtain rfl : m = N := by omega
      refine ⟨m, rfl, h2, ?_, h4, by simp; omega⟩
      unfold firstF
      simpa using h3
  · have := hk k s hkN hs
    obtain ⟨m, h1, h2, h3, h4, h5⟩ := h k s this
    refine ⟨m, h1, h2, ?_, h4, by omega⟩
    unfold firstF
    split
    · exact h3
    · rw [← h3]
      simp only [List.getD_eq_getElem?_getD]
      rw [List.getElem?_set_ne (by omega)]
theorem any_take_succ {α : Type} (l : List α) (p : α → Bool) (k : Nat) (h : k < l.length) : (l.take (k + 1)).any p = ((l.take k).any p || p l[k]) := by
  rw [List.take_succ_eq_append_getElem h, List.any_append]
  simp
end Go.Proofs.YthfidlhefkjpdaaGreatDoor
