/- cache.free.
   cache.room where a frame is still to be had.
   cache.room where a frame must leave. -/
import Derived.Test.YthfidlhefkjpdaaGreatDoorTay
namespace Go.Proofs.YthfidlhefkjpdaaGreatDoor
open Go.RowKit

/-- the first frame that holds nothing -/
def frees : List Frm → Nat → Option Nat
  | [], _ => none
  | f :: r, k => if f.n < 0 then some k else frees r (k + 1)
theorem frees_spec : ∀ (fs : List Frm) (k0 : Nat), (∀ f ∈ fs, 0 ≤ f.n) → frees fs k0 = none
  | [], _, _ => rfl
  | f :: r, k0, h => by
    rw [frees, if_neg (by have := h f (List.mem_cons_self ..); omega)]
    exact frees_spec r _ (fun g hg => h g (List.mem_cons_of_mem _ hg))
theorem frees_at (fs : List Frm) (k : Nat) (hk : k < fs.length) : frees (fs.drop k) k = if fs[k].n < 0 then some k else frees (fs.drop (k + 1)) (k + 1) := by
  rw [List.drop_eq_getElem_cons hk, frees]
theorem frees_lt : ∀ (fs : List Frm) (k0 i : Nat), frees fs k0 = some i → k0 ≤ i ∧ i < k0 + fs.length
  | [], _, _, h => by cases h
  | f :: r, k0, i, h => by
    rw [frees] at h
    split at h
    · injection h with h; subst h; simp
    · have := frees_lt r _ _ h
      simp only [List.length_cons]
      omega

theorem isfree_any (b : Nat) (n : Int) (w : World) (hc : w.cell? ⟨b, 0, none⟩ = some (.int .i64 n)) :
    Calls Tryz.prog 126 #[.pointer (some ⟨b, 0, none⟩)] w fun e w' => e = .returned (.bool (decide (n < 0))) ∧ w = w' := by
  go_enter Tryz.func126, Tryz.ntmps126
  go_wp2_with fail
  go_ret
  exact ⟨rfl, rfl⟩

set_option maxRecDepth 100000 in
set_option maxHeartbeats 1000000 in
theorem cindex_any (a : Ad) (P : Pl) (L : Lg) (D : Dk) (w : World) (h : PSt w a P L D) (hn1 : P.frames.length ≤ 64) :
    Calls Tryz.prog 125 #[a.fv, .func (.func 126) #[] #[]] w fun e w' => e = .returned (.int .i64 (match frees P.frames 0 with | none => -1 | some i => (i : Int))) ∧ w = w' := by
  obtain ⟨fA, fcap, hfv, hfc, hfm, hfr⟩ := own_form h.pool.row
  obtain ⟨n, hn⟩ : ∃ n, P.frames.length = n := ⟨_, rfl⟩
  rw [hn] at hfv hfc hn1 hfr
  obtain ⟨rvl, hrvl⟩ : ∃ rvl : Int, (match frees P.frames 0 with | none => (-1 : Int) | some i => (i : Int)) = rvl := ⟨_, rfl⟩
  rw [hrvl, hfv]
  have HRV := hid hrvl
  have H : Aside (PSt w a P L D ∧ P.frames.length = n ∧ a.fv = .slice fA n fcap ∧ (0 < n → ∃ g, fA = some ⟨g, 0, none⟩)) := ⟨h, hn, hfv, fun h0 => by obtain ⟨g, e, _⟩ := hfr h0; exact ⟨g, e⟩⟩
  clear h hn hfv hfr hrvl
  go_enter Tryz.func125, Tryz.ntmps125
  go_wp2_with fail
  go_loopg [8] n (fun q i wr => ∃ k : Nat, k + q = n ∧ i = .int .i64 (k : Nat) ∧ wr = w ∧ Hid ((match frees (P.frames.drop k) k with | none => (-1 : Int) | some i => (i : Int)) = rvl))
  case atStart => exact ⟨0, by omega, rfl, rfl, HRV.out⟩
  case round =>
    obtain ⟨k, hk, rfl, rfl, hI⟩ := hrel
    by_cases hlt : k < n
    · obtain ⟨gf, rfl⟩ := H.out.2.2.2 (by omega)
      have hrow := H.out.1.pool.ptr H.out.2.2.1 H.out.2.1 k hlt
      have hkl : k < P.frames.length := by rw [H.out.2.1]; exact hlt
      obtain ⟨_, _, _, _, hBk⟩ := (H.out.1.pool.each k hkl).cells
      obtain ⟨bi, hbi⟩ : ∃ bi, a.bk.getD k 0 = bi := ⟨_, rfl⟩
      rw [hbi] at hBk hrow
      have k0 := hBk.cell 0
      simp [frmCells] at k0
      obtain ⟨fn, hfn⟩ : ∃ fn, P.frames[k].n = fn := ⟨_, rfl⟩
      have hI' := hI.out
      rw [frees_at _ _ hkl] at hI'
      rw [hfn] at k0 hI'
      have hcl := isfree_any bi fn wr k0
      clear hI hBk hfn hbi
      by_cases hneg : fn < 0
      · have dn : decide (fn < 0) = true := by simpa using hneg
        rw [if_pos hneg] at hI'
        rw [dn] at hcl
        have HI := hid hI'
        clear hI' hneg
        go_wp2_with fail
        refine hcl.mono ?_
        rintro e w' ⟨rfl, rfl⟩
        go_wp2_with fail
        go_ret
        rw [← HI.out]
        exact ⟨rfl, rfl⟩
      · have dn : decide (fn < 0) = false := by simpa using hneg
        rw [if_neg hneg] at hI'
        rw [dn] at hcl
        have HI := hid hI'
        clear hI' hneg
        go_wp2_with fail
        refine hcl.mono ?_
        rintro e w' ⟨rfl, rfl⟩
        go_wp2_with fail
        go_roundg (n - 1 - k)
        case rel => exact ⟨k + 1, by omega, by go_num, rfl, HI.out⟩
        case measure => omega
    · obtain rfl : k = n := by omega
      have hI' := hI.out
      rw [List.drop_of_length_le (by rw [H.out.2.1]; omega)] at hI'
      have HI : Hid ((-1 : Int) = rvl) := hI'
      clear hI hI'
      go_wp2_with fail
      go_ret
      rw [← HI.out]
      exact ⟨rfl, rfl⟩

set_option maxRecDepth 100000 in
theorem cfree_any (a : Ad) (P : Pl) (L : Lg) (D : Dk) (w : World) (h : PSt w a P L D) (hn1 : P.frames.length ≤ 64) :
    Calls Tryz.prog 89 #[.pointer (some ⟨a.gp, 0, none⟩)] w fun e w' => e = .returned (match frees P.frames 0 with | none => .pointer none | some i => .pointer (some ⟨a.bk.getD i 0, 0, none⟩)) ∧ w = w' := by
  have hci := cindex_any a P L D w h hn1
  have c5 := h.pool.blk.cell 5
  simp [plCells] at c5
  obtain ⟨fA, fcap, hfv, hfc, hfm, hfr⟩ := own_form h.pool.row
  cases hfr2 : frees P.frames 0 with
  | none =>
    rw [hfr2] at hci
    rw [hfv] at c5 hci
    clear h hfr hfr2
    go_enter Tryz.func89, Tryz.ntmps89
    go_wp2_with fail
    refine hci.mono ?_
    rintro e w' ⟨rfl, rfl⟩
    go_wp2_with fail
    go_ret
    exact ⟨rfl, rfl⟩
  | some i =>
    rw [hfr2] at hci
    have hi := (frees_lt _ _ _ hfr2).2
    rw [Nat.zero_add] at hi
    obtain ⟨gf, rfl, -⟩ := hfr (by omega)
    have hrow := h.pool.ptr hfv rfl i hi
    rw [hfv] at c5 hci
    obtain ⟨bi, hbi⟩ : ∃ bi, a.bk.getD i 0 = bi := ⟨_, rfl⟩
    rw [hbi] at hrow
    show Calls Tryz.prog 89 _ w fun e w' => e = .returned (.pointer (some ⟨a.bk.getD i 0, 0, none⟩)) ∧ w = w'
    rw [hbi]
    obtain ⟨n, hn⟩ : ∃ n, P.frames.length = n := ⟨_, rfl⟩
    rw [hn] at hci c5 hi
    clear h hfr2 hbi hn hfr hfv hfc hn1
    go_enter Tryz.func89, Tryz.ntmps89
    go_wp2_with fail
    refine hci.mono ?_
    rintro e w' ⟨rfl, rfl⟩
    go_wp2_with fail
    go_ret
    exact ⟨rfl, rfl⟩
end Go.Proofs.YthfidlhefkjpdaaGreatDoor

namespace Go.Proofs.YthfidlhefkjpdaaGreatDoor
open Go.RowKit Go.Maps

theorem infoFr : (Tryz.prog.info? 94).map (fun i => (i.zero, i.size, i.bytes)) = some (some (.pointer none), 1, 8) := by kernel_rfl

def frm0 : Frm := ⟨-1, [], 0, false, 0, false⟩

theorem PoolAt.push {w wB wC : World} {a : Ad} {P : Pl} {b : Nat} {fv' : Value} (h : PoolAt w a P) (hat : ∀ k i, P.atm k = some i → i < P.frames.length) (hb : Below w.heap.size w wB) (hnew : FrmAt wB a.pb a.sv a.ov b frm0) (hbn : w.heap.size ≤ b)
    (hg : wB.grownBy wC a.fv.ownBlock) (ho : wC.ownsRow a.pb 94 1 fv' (P.frames.length + 1) (ptrs a.bk ++ [.pointer (some ⟨b, 0, none⟩)])) (hnx : Nx w a.fv fv') :
    PoolAt (wC.setCell ⟨a.gp, 5, none⟩ fv') { a with fv := fv', bk := a.bk ++ [b] } { P with frames := P.frames ++ [frm0] } ∧ Fr (pT a) w (wC.setCell ⟨a.gp, 5, none⟩ fv') := by
  have hB := h.below hb
  have hFC : Fr (fun x => a.fv.ownBlock = some x) wB wC := ⟨hg.os, hg.tape, hg.output, hg.size, fun x hx hn => hg.block x hx (fun e => hn e.symm)⟩
  have hne : ∀ x t, Ty wB x t → t ≠ 94 → ¬ a.fv.ownBlock = some x := fun x t hx ht e => hx.ne (own_ty hB.row e) ht
  have hnm : ∀ x n m, MapAt Tryz.prog 3 wB x n m → ¬ a.fv.ownBlock = some x := fun x n m hm e => map_ty hm (own_ty hB.row e)
  have hgp : Blk wC a.gp 105 (plCells a P) := hB.blk.fr hFC (hne _ _ hB.blk.ty (by decide))
  have hFD : Fr (· = a.gp) wC (wC.setCell ⟨a.gp, 5, none⟩ fv') := (Fr.refl (· = a.gp) wC).set (p := ⟨a.gp, 5, none⟩) (.inl rfl) fv'
  have hneg : ∀ x t, Ty wC x t → t ≠ 105 → ¬ x = a.gp := fun x t hx ht e => by subst e; exact hx.ne hgp.ty ht
  have hFF : Fr (pT a) w (wC.setCell ⟨a.gp, 5, none⟩ fv') := ((Fr.of_below hb (pT a)).trans (hFC.mono fun x _ e => .inr (.inl e)) (fun _ _ h => h)).trans (hFD.mono fun x _ e => .inl e) (fun _ _ h => h)
  have key : ∀ x f, FrmAt wB a.pb a.sv a.ov x f → FrmAt (wC.setCell ⟨a.gp, 5, none⟩ fv') a.pb a.sv a.ov x f := fun x f hf => by
    have h1 : FrmAt wC a.pb a.sv a.ov x f := hf.fr hFC (by obtain ⟨_, _, q, _⟩ := hf; exact hne _ _ q.ty (by decide)) (fun y hy _ _ => hne y _ hy (by decide))
    exact h1.fr hFD (by obtain ⟨_, _, q, _⟩ := h1; exact hneg _ _ q.ty (by decide)) (fun y hy _ _ => hneg y _ hy (by decide))
  have hatv : atV (a.bk ++ [b]) P.atm = atV a.bk P.atm := by
    funext k
    unfold atV
    cases hk : P.atm k with
    | none => rfl
    | some i =>
      have := hat k i hk
      rw [← h.blen] at this
      simp only [Option.map_some, List.getD_eq_getElem?_getD, List.getElem?_append_left this]
  have hma : MapAt Tryz.prog 3 wC a.ga a.ma (atV a.bk P.atm) := hB.atm.block (hFC.block _ hB.atm.lt (hnm _ _ _ hB.atm))
  have hmn : MapAt Tryz.prog 3 wC a.gn a.mn (pinV P.pins) := hB.pin.block (hFC.block _ hB.pin.lt (hnm _ _ _ hB.pin))
  refine ⟨⟨?_, ?_, by simp [h.blen], fun i hi => ?_, ?_, ?_, ?_, h.lp, h.la, h.ln, h.ne, fun b hb => Nat.lt_of_lt_of_le (h.ol b hb) hFF.size⟩, hFF⟩
  · have := hgp.set_ 5 fv'
    simpa [plCells] using this
  · have := own_fr ho hFD (fun x hx => hneg x _ (own_ty ho hx) (by decide))
    simpa [ptrs] using this
  · have hi' : i < P.frames.length + 1 := by simpa using hi
    by_cases hlt : i < P.frames.length
    · have e1 : (P.frames ++ [frm0])[i]'hi = P.frames[i] := List.getElem_append_left hlt
      have e2 : (a.bk ++ [b]).getD i 0 = a.bk.getD i 0 := by
        rw [List.getD_eq_getElem?_getD, List.getElem?_append_left (by rw [h.blen]; exact hlt), List.getD_eq_getElem?_getD]
      show FrmAt _ a.pb a.sv a.ov ((a.bk ++ [b]).getD i 0) ((P.frames ++ [frm0])[i]'hi)
      rw [e1, e2]
      exact key _ _ (hB.each i hlt)
    · obtain rfl : i = P.frames.length := by omega
      have e1 : (P.frames ++ [frm0])[P.frames.length]'hi = frm0 := by simp
      have e2 : (a.bk ++ [b]).getD P.frames.length 0 = b := by
        rw [← h.blen]; simp [List.getD_eq_getElem?_getD]
      show FrmAt _ a.pb a.sv a.ov ((a.bk ++ [b]).getD P.frames.length 0) ((P.frames ++ [frm0])[P.frames.length]'hi)
      rw [e1, e2]
      exact key _ _ hnew
  · refine List.nodup_append.2 ⟨h.nodup, List.nodup_cons.2 ⟨by simp, List.nodup_nil⟩, ?_⟩
    intro x hx y hy e
    simp only [List.mem_singleton] at hy
    subst hy e
    have := h.lt (.inr (.inr (.inl hx)))
    omega
  · show MapAt _ _ _ a.ga a.ma (atV (a.bk ++ [b]) P.atm)
    rw [hatv]
    exact hma.block (hFD.block _ hma.lt (fun e => map_ty hma (by rw [e]; exact hgp.ty)))
  · exact hmn.block (hFD.block _ hmn.lt (fun e => map_ty hmn (by rw [e]; exact hgp.ty)))

set_option maxRecDepth 100000 in
set_option maxHeartbeats 1000000 in
theorem croom_new (a : Ad) (P : Pl) (L : Lg) (D : Dk) (w : World) (h : PSt w a P L D) (hat : ∀ k i, P.atm k = some i → i < P.frames.length) (hlt : P.frames.length < P.most) (hm : P.most ≤ 64) :
    Calls Tryz.prog 90 #[.pointer (some ⟨a.gp, 0, none⟩)] w fun e w' => ∃ b fv', w.heap.size ≤ b ∧ e = .returned (.tuple #[.pointer (some ⟨b, 0, none⟩), .int .i64 0]) ∧
      PSt w' { a with fv := fv', bk := a.bk ++ [b] } { P with frames := P.frames ++ [frm0] } L D ∧ Fr (pT a) w w' ∧ Nx w a.fv fv' := by
  obtain ⟨i0, hi0, hz0, hz1, hz2⟩ := info_parts infoFr
  obtain ⟨fA, fcap, hfv, hfc, hfm, -⟩ := own_form h.pool.row
  obtain ⟨n, hn⟩ : ∃ n, P.frames.length = n := ⟨_, rfl⟩
  have c5 := h.pool.blk.cell 5
  have c4 := h.pool.blk.cell 4
  have f5 := h.pool.blk.frozen 5
  simp [plCells] at c5 c4
  rw [hn] at hfv hfc hlt
  have hrow := h.pool.row
  rw [hn, hfv] at hrow
  rw [hfv] at c5
  obtain ⟨mo, hmo⟩ : ∃ mo, P.most = mo := ⟨_, rfl⟩
  rw [hmo] at c4 hlt hm
  have dlt : decide (n < mo) = true := by simpa using hlt
  have dlt' : decide ((n : Int) < (mo : Int)) = true := by simp; omega
  have hgp := h.pool.blk.lt
  have hpb : a.pb ≤ w.heap.size := by have := h.pool.lp; omega
  have H : Aside (PSt w a P L D ∧ P.frames.length = n ∧ a.fv = .slice fA n fcap ∧ (∀ k i, P.atm k = some i → i < P.frames.length) ∧ w.ownsRow a.pb 94 1 (.slice fA n fcap) n (ptrs a.bk)) := ⟨h, hn, hfv, hat, hrow⟩
  clear h hn hfv hat hrow hmo
  go_enter Tryz.func90, Tryz.ntmps90
  go_wp2_with fail
  go_region_held3 (fun w' => w'.cell? ⟨a.gp, 5, none⟩ = some (.slice fA n fcap) ∧ w'.cell? ⟨a.gp, 4, none⟩ = some (.int .i64 (mo : Int))) (exact ⟨c5, c4⟩) (fail)
  obtain ⟨w1, hw1⟩ : ∃ w1, w.drew = w1 := ⟨_, rfl⟩
  have H1 : Aside (PSt w1 a P L D ∧ Below w.heap.size w w1 ∧ w1.heap.size = w.heap.size ∧ w1.ownsRow a.pb 94 1 (.slice fA n fcap) n (ptrs a.bk)) := by
    rw [← hw1]; exact ⟨H.out.1.below (bl_drew (Below.refl _ _)), bl_drew (Below.refl _ _), rfl, own_drewN0 H.out.2.2.2.2⟩
  replace c5 : w1.cell? ⟨a.gp, 5, none⟩ = some (.slice fA n fcap) := by rw [← hw1]; exact c5
  replace f5 : w1.frozen? ⟨a.gp, 5, none⟩ = false := by rw [← hw1]; exact f5
  rw [hw1]
  clear hw1 c4
  have hgp1 : a.gp < w1.heap.size := by rw [H1.out.2.2.1]; exact hgp
  obtain ⟨wA, hwA⟩ : ∃ wA, w1.alloc (.cells #[.int .i64 (-1), .slice none 0 0, .int .i64 0, .bool false, .int .i64 0, .bool false] 96) = wA := ⟨_, rfl⟩
  obtain ⟨wB, hwB⟩ : ∃ wB, wA.alloc (.cells #[.pointer (some ⟨w1.heap.size, 0, none⟩)] 94) = wB := ⟨_, rfl⟩
  have zA : wA.heap.size = w1.heap.size + 1 := by rw [← hwA]; simp
  have zB : wB.heap.size = w1.heap.size + 2 := by rw [← hwB]; simp [zA]
  have bB : Below w1.heap.size w1 wB := by rw [← hwB, ← hwA]; exact bl_alloc (bl_alloc (Below.refl _ _) _) _
  have nB : Blk wB w1.heap.size 96 (frmCells frm0 (.slice none 0 0)) := by
    have h1 : Blk wA w1.heap.size 96 (frmCells frm0 (.slice none 0 0)) := by rw [← hwA]; exact alloc_new w1 _
    rw [← hwB]
    exact h1.fr ((Fr.refl (fun _ => False) wA).alloc _) (fun h => h)
  have sB : wB.heap[w1.heap.size + 1]? = some (.cells #[.pointer (some ⟨w1.heap.size, 0, none⟩)] 94 (0, 0)) := by rw [← hwB, ← zA]; exact alloc_new wA _
  have hBp : a.pb ≤ w1.heap.size := by rw [H1.out.2.2.1]; exact hpb
  have HB : Aside (Below w1.heap.size w1 wB ∧ FrmAt wB a.pb a.sv a.ov w1.heap.size frm0 ∧ wB.ownsRow a.pb 94 1 (.slice fA n fcap) n (ptrs a.bk) ∧ wB.heap[w1.heap.size + 1]? = some (.cells #[.pointer (some ⟨w1.heap.size, 0, none⟩)] 94 (0, 0))) := by
    refine ⟨bB, ⟨hBp, .slice none 0 0, nB, World.ownsRow_nil _ _ _ _, fun b hb => by cases hb⟩, ?_, sB⟩
    exact own_fr H1.out.2.2.2 (Fr.of_below bB (fun _ => False)) (fun _ _ h => h)
  have hgpB : wB.heap[a.gp]? = w1.heap[a.gp]? := bB.block a.gp hgp1
  have c5A : wA.cell? ⟨a.gp, 5, none⟩ = some (.slice fA n fcap) := by rw [← hwA]; exact (cell?_keep_alloc w1 a.gp 5 hgp1 _).trans c5
  clear bB nB sB
  go_wp2_with (
    at_builtin
    (refine wpList_append_lies _ (by rfl) (.tmp 23) (.tmp 25) 92 (by rfl) a.pb 94 i0 _ 1 8 Tryz.underlying92 hi0 hz0 hz1 hz2 rfl (by omega) (.slice fA n fcap) n (ptrs a.bk) (by rfl) HB.out.2.2.1 ⟨w1.heap.size + 1, 0, none⟩ 1 1 [.pointer (some ⟨w1.heap.size, 0, none⟩)] (by rfl) (by rfl) ?_ ?_ (by omega) ?_ (by omega) ?_ (w1.heap.size + 2) zB ?_)
    · exact news_blk (cs := #[_]) (t := 94) (fr := (0, 0)) HB.out.2.2.2
    · simp [Value.oneCell']
    · unfold maxLen; omega
    · omega
    intro g3 cap3 w3 hown3 hgrow3 hat3 hlt3
    have Q3 : Aside (w3.ownsRow a.pb 94 1 (.slice (some ⟨g3, 0, none⟩) (n + 1) cap3) (n + 1) (ptrs a.bk ++ [.pointer (some ⟨w1.heap.size, 0, none⟩)]) ∧ wB.grownBy w3 (Value.slice fA n fcap).ownBlock ∧ ((Value.slice fA n fcap).ownBlock = some g3 ∨ g3 = w1.heap.size + 2)) := ⟨hown3, hgrow3, hat3⟩
    have hne5 : some a.gp ≠ (Value.slice fA n fcap).ownBlock := H1.out.1.pool.blk.own_ne H1.out.2.2.2 (by decide)
    have hb3 : w3.heap[a.gp]? = w1.heap[a.gp]? := (hgrow3.block a.gp (by omega) hne5).trans hgpB
    have c53 := (World.cell?_of_block (w := w1) (a := ⟨a.gp, 5, none⟩) hb3).trans c5
    have f53 := (World.frozen?_of_block (w := w1) (a := ⟨a.gp, 5, none⟩) hb3).trans f5
    clear hown3 hgrow3 hat3 hne5 hb3)
  go_ret2
  obtain ⟨hp, hF⟩ := H1.out.1.pool.push (b := w1.heap.size) (fv' := .slice (some ⟨g3, 0, none⟩) (n + 1) cap3) H.out.2.2.2.1 HB.out.1 HB.out.2.1 (Nat.le_refl _) (by rw [H.out.2.2.1]; exact Q3.out.2.1) (by rw [H.out.2.1]; exact Q3.out.1) (by
    rw [H.out.2.2.1]
    intro b e
    have e' : g3 = b := by injection e
    rcases Q3.out.2.2 with h | h
    · rw [← e']; exact .inl h
    · exact .inr (by omega))
  refine ⟨w1.heap.size, .slice (some ⟨g3, 0, none⟩) (n + 1) cap3, by rw [H1.out.2.2.1]; exact Nat.le_refl _, rfl, ?_, ?_, ?_⟩
  · exact H1.out.1.onPool (a' := { a with fv := .slice (some ⟨g3, 0, none⟩) (n + 1) cap3, bk := a.bk ++ [w1.heap.size] }) hF hp
  · exact (Fr.of_below H1.out.2.1 _).trans hF (fun _ _ h => h)
  · rw [H.out.2.2.1]
    intro b e
    have e' : g3 = b := by injection e
    rcases Q3.out.2.2 with h | h
    · rw [← e']; exact .inl h
    · exact .inr (by rw [← H1.out.2.2.1]; omega)
end Go.Proofs.YthfidlhefkjpdaaGreatDoor

namespace Go.Proofs.YthfidlhefkjpdaaGreatDoor
open Go.RowKit Go.Maps

theorem MapAt.drop {P : Program} {kt : TypeId} {w : World} {b n : Nat} {m : Int → Option Value} {t e : TypeId} (h : MapAt P kt w b n m) (hk : P.underlying kt = some (.int .i64)) (ht : P.underlying t = some (.map kt e)) {k : Int} (hwf : wf64 k) (ty : TypeId) :
    ∃ w', (Builtin.delete_ #[t, kt] ty #[.map (some b), .int .i64 k]).run P w = .ok (.tuple #[]) w' ∧ MapAt P kt w' b n (fun j => if j = k then none else m j) ∧ w.mapTurned w' b := by
  obtain ⟨D, h1, h2, h3⟩ := h
  obtain ⟨w', hrun, ho, ht'⟩ := h1.drop (int_keyed hk) ht (keyOf_int_mk hk (wf64_lit hwf)) ty
  refine ⟨w', hrun, ⟨_, ho, fun j z => ?_, fun j => ?_⟩, ht'⟩
  · by_cases hj : j = k
    · subst hj
      rw [atKey_del_same]
      simp
    · rw [atKey_del_other (by simp [hj]), h2]
      simp [hj]
  · by_cases hj : j = k
    · subst hj
      rw [has_del_same]
      simp
    · rw [has_del_other (by simp [hj]), h3]
      simp [hj]

/-- The frames are the same but for their flags of use. -/
def SameF (fs gs : List Frm) : Prop := fs.length = gs.length ∧ ∀ (i : Nat) (f : Frm), fs[i]? = some f → ∃ g : Frm, gs[i]? = some g ∧ f = { g with used := f.used }
theorem SameF.refl (fs : List Frm) : SameF fs fs := ⟨rfl, fun i f h => ⟨f, h, rfl⟩⟩
theorem vict_same (pins : Int → Option Int) : ∀ (k : Nat) (fs : List Frm) (h : Nat) (gs : List Frm), SameF fs gs → SameF (vict pins k fs h).2.1 gs
  | 0, fs, h, gs, hs => hs
  | k + 1, fs, h, gs, hs => by
    rw [vict]
    cases hf : fs[h]? with
    | none => exact hs
    | some f =>
      simp only
      split
      · exact vict_same pins k _ _ _ hs
      · split
        · refine vict_same pins k _ _ _ ⟨by rw [List.length_set]; exact hs.1, fun i g hg => ?_⟩
          rw [List.getElem?_set] at hg
          split at hg
          · rename_i hhi
            subst hhi
            split at hg
            · injection hg with hg
              obtain ⟨g0, h1, h2⟩ := hs.2 h f hf
              exact ⟨g0, h1, by rw [← hg, h2]⟩
            · cases hg
          · exact hs.2 i g hg
        · exact hs
theorem vict_lt (pins : Int → Option Int) : ∀ (k : Nat) (fs : List Frm) (h i : Nat), (vict pins k fs h).1 = some i → i < fs.length
  | 0, fs, h, i, e => by cases e
  | k + 1, fs, h, i, e => by
    rw [vict] at e
    cases hf : fs[h]? with
    | none => rw [hf] at e; cases e
    | some f =>
      rw [hf] at e
      simp only at e
      split at e
      · exact vict_lt pins k _ _ _ e
      · split at e
        · have := vict_lt pins k _ _ _ e
          simpa using this
        · injection e with e
          subst e
          exact (List.getElem?_eq_some_iff.1 hf).1
theorem vict_hand (pins : Int → Option Int) : ∀ (k : Nat) (fs : List Frm) (h : Nat), h < fs.length → (vict pins k fs h).2.2 < fs.length
  | 0, fs, h, hh => hh
  | k + 1, fs, h, hh => by
    have hm := Nat.mod_lt (h + 1) (show 0 < fs.length by omega)
    rw [vict]
    cases hf : fs[h]? with
    | none => exact hh
    | some f =>
      simp only
      split
      · exact vict_hand pins k _ _ hm
      · split
        · have := vict_hand pins k (fs.set h { f with used := false }) ((h + 1) % fs.length) (by rw [List.length_set]; exact hm)
          rw [List.length_set] at this
          exact this
        · exact hm

/-- All frames hold pages. -/
def Full (P : Pl) : Prop := ∀ f ∈ P.frames, 0 ≤ f.n ∧ f.n < P.count ∧ f.bytes.length = 512

theorem SameF.full {fs : List Frm} {P : Pl} (h : SameF fs P.frames) (hf : Full P) : ∀ f ∈ fs, 0 ≤ f.n ∧ f.n < P.count ∧ f.bytes.length = 512 := fun f hm => by
  obtain ⟨i, hi, rfl⟩ := List.mem_iff_getElem.1 hm
  obtain ⟨g, h1, h2⟩ := h.2 i _ (List.getElem?_eq_getElem hi)
  have := hf g (List.mem_of_getElem? h1)
  rw [h2]
  exact this

set_option maxRecDepth 100000 in
set_option maxHeartbeats 1000000 in
theorem croom_pinned (a : Ad) (P : Pl) (L : Lg) (D : Dk) (w : World) (n hd : Nat) (fs : List Frm) (h : PSt w a P L D) (hn : P.frames.length = n) (hn0 : 0 < n) (hn1 : n ≤ 64) (hh : P.hand < n) (hfull : Full P) (hlt : P.most ≤ n) (hc : P.count ≤ 4096)
    (hv : vict P.pins (2 * n) P.frames P.hand = (none, fs, hd)) :
    Calls Tryz.prog 90 #[.pointer (some ⟨a.gp, 0, none⟩)] w fun e w' => e = .returned (.tuple #[.pointer none, .int .i64 100]) ∧ PSt w' a { P with frames := fs, hand := hd } L D ∧ Fr (pT a) w w' := by
  have hvi := fun W (hW : PSt W a P L D) => cvictim_any a P L D n W hW hn hn0 hn1 hh (fun f hf => by obtain ⟨h1, h2, _⟩ := hfull f hf; unfold wf64; omega)
  rw [hv] at hvi
  obtain ⟨fA, fcap, hfv, hfc, hfm, -⟩ := own_form h.pool.row
  have c5 := h.pool.blk.cell 5
  have c4 := h.pool.blk.cell 4
  simp [plCells] at c5 c4
  rw [hn] at hfv
  rw [hfv] at c5
  obtain ⟨mo, hmo⟩ : ∃ mo, P.most = mo := ⟨_, rfl⟩
  rw [hmo] at c4 hlt
  have dlt : decide (n < mo) = false := by simp; omega
  have dlt' : decide ((n : Int) < (mo : Int)) = false := by simp; omega
  have H : Aside (PSt w a P L D) := ⟨h⟩
  have HV := hid hvi
  clear h hn hfv hmo hvi hv hfull
  go_enter Tryz.func90, Tryz.ntmps90
  go_wp2_with fail
  go_region_held3 (fun w' => w'.cell? ⟨a.gp, 5, none⟩ = some (.slice fA n fcap) ∧ w'.cell? ⟨a.gp, 4, none⟩ = some (.int .i64 (mo : Int))) (exact ⟨c5, c4⟩) (fail)
  go_wp2_with fail
  refine (HV.out w.drew (H.out.below (bl_drew (Below.refl _ _)))).mono ?_
  rintro e w2 ⟨rfl, h2, hF2⟩
  have H2 : Aside (PSt w2 a { P with frames := fs, hand := hd } L D ∧ Fr (pT a) w w2) := ⟨h2, (Fr.drew (Fr.refl (pT a) w)).trans hF2 (fun _ _ h => h)⟩
  clear h2 hF2
  dsimp only
  go_wp2_with fail
  go_ret2
  exact ⟨rfl, H2.out⟩
end Go.Proofs.YthfidlhefkjpdaaGreatDoor
