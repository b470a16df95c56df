/- A log over a disk; wal.Reset.
   num.Put of small numbers, num.PutText of short texts. -/
import Derived.Test.YthfidlhefkjpdaaGreatDoorTap
import Derived.Test.YthfidlhefkjpdaaGreatDoorTaf
import Derived.Test.YthfidlhefkjpdaaGreatDoorTaa
import Derived.Test.YthfidlhefkjpdaaGreatDoorTan
import Derived.Deep.LoopGhost
namespace Go.Proofs.YthfidlhefkjpdaaGreatDoor
open Go.RowKit

/-- A disk, and a log over it that was made later. -/
structure LD (w : World) (base gl gd gs gm : Nat) (sv rv : Value) (L : Lg) (D : Dk) : Prop where
  disk : DiskAt w gd gs gm D
  log : LogAt w base gl gd sv rv L
  bd : gd < base
  bs : gs < base
  bm : gm < base

/-- v' lies where v lay, or in a new block. -/
def Nx (w : World) (v v' : Value) : Prop := ∀ b, v'.ownBlock = some b → v.ownBlock = some b ∨ w.heap.size ≤ b
theorem Nx.refl (w : World) (v : Value) : Nx w v v := fun _ h => .inl h
theorem Nx.nil (w : World) (v : Value) : Nx w v (.slice none 0 0) := fun _ h => by cases h
theorem Nx.trans {a b : World} {v v' v2 : Value} (h : Nx a v v') (k : Nx b v' v2) (hz : a.heap.size ≤ b.heap.size) : Nx a v v2 := fun x hx => by
  rcases k x hx with h1 | h1
  · exact h x h1
  · exact .inr (by omega)

/-- The blocks of both. -/
def ldT (gl gd gs gm : Nat) (sv rv : Value) : Nat → Prop := fun b => dT gd gs gm b ∨ lT gl sv rv b

section
variable {w w' : World} {base gl gd gs gm : Nat} {sv rv sv' rv' : Value} {L L' : Lg} {D D' : Dk} {T : Nat → Prop}
theorem LD.apart (h : LD w base gl gd gs gm sv rv L D) {b : Nat} (hd : dT gd gs gm b) : ¬ lT gl sv rv b := by
  intro hl
  have := (h.log.kinds hl).1
  have := h.bd; have := h.bs; have := h.bm
  rcases hd with rfl | rfl | rfl <;> omega
theorem LD.fr (h : LD w base gl gd gs gm sv rv L D) (hf : Fr T w w') (hT : ∀ b, ldT gl gd gs gm sv rv b → ¬ T b) (hF : ∀ b, Ty w b 76 → ¬ T b) : LD w' base gl gd gs gm sv rv L D :=
  ⟨h.disk.fr hf (fun b hb => ⟨fun e => by subst e; exact hT _ (.inl (.inl rfl)) hb, fun e => by subst e; exact hT _ (.inl (.inr (.inl rfl))) hb, fun e => by subst e; exact hT _ (.inl (.inr (.inr rfl))) hb⟩) hF,
    h.log.fr hf (fun b hb => hT b (.inr hb)), h.bd, h.bs, h.bm⟩
theorem LD.below (h : LD w base gl gd gs gm sv rv L D) (hb : Below w.heap.size w w') : LD w' base gl gd gs gm sv rv L D :=
  h.fr (Fr.of_below hb (fun _ => False)) (fun _ _ h => h) (fun _ _ h => h)
/-- Behind a call that turned the disk alone. -/
theorem LD.onDisk (h : LD w base gl gd gs gm sv rv L D) (hf : Fr (dT gd gs gm) w w') (hD : DiskAt w' gd gs gm D') : LD w' base gl gd gs gm sv rv L D' :=
  ⟨hD, h.log.fr hf (fun _ hb hd => h.apart hd hb), h.bd, h.bs, h.bm⟩
/-- Behind a call that turned the log alone. -/
theorem LD.onLog (h : LD w base gl gd gs gm sv rv L D) (hf : Fr (lT gl sv rv) w w') (hL : LogAt w' base gl gd sv' rv' L') : LD w' base gl gd gs gm sv' rv' L' D :=
  ⟨h.disk.fr hf (fun b hb => ⟨fun e => by subst e; exact h.apart (.inl rfl) hb, fun e => by subst e; exact h.apart (.inr (.inl rfl)) hb, fun e => by subst e; exact h.apart (.inr (.inr rfl)) hb⟩)
    (fun b hb hl => by
      rcases (h.log.kinds hl).2 with k | k | k
      · exact hb.ne k (by decide)
      · exact hb.ne k (by decide)
      · exact hb.ne k (by decide)), hL, h.bd, h.bs, h.bm⟩
theorem LD.glt (h : LD w base gl gd gs gm sv rv L D) : gl < w.heap.size := h.log.lt
/-- Frames one behind the other. -/
theorem ldT_next (hs : Nx w sv sv') (hr : Nx w rv rv') : ∀ b, b < w.heap.size → ldT gl gd gs gm sv' rv' b → ldT gl gd gs gm sv rv b := by
  rintro b hb (h | h | h | h)
  · exact .inl h
  · exact .inr (.inl h)
  · rcases hs b h with k | k
    · exact .inr (.inr (.inl k))
    · omega
  · rcases hr b h with k | k
    · exact .inr (.inr (.inr k))
    · omega
end

theorem fr_gl {w w' : World} {gl : Nat} {sv rv : Value} (h : Fr (· = gl) w w') : Fr (lT gl sv rv) w w' := h.mono fun _ _ e => .inl e
theorem fr_dT {w w' : World} {gd gs gm : Nat} (h : Fr (fun b => b = gd ∨ b = gm) w w') : Fr (dT gd gs gm) w w' := h.mono fun _ _ e => by
  rcases e with e | e
  · exact .inl e
  · exact .inr (.inr e)

theorem lstep_ok (base gl gd gs gm : Nat) (sv rv : Value) (L : Lg) (D : Dk) (w : World) (h : LD w base gl gd gs gm sv rv L D) (hd : L.dead = false) :
    Calls Tryz.prog 86 #[.pointer (some ⟨gl, 0, none⟩), .int .i64 0] w fun e w' => e = .returned (.bool true) ∧ LD w' base gl gd gs gm sv rv L D ∧ Fr (· = gl) w w' := by
  refine (lstep_any base gl gd sv rv L 0 w h.log).mono ?_
  rintro e w' ⟨rfl, hL, hF⟩
  have e : ({ L with dead := L.dead || !decide ((0 : Int) = 0) } : Lg) = L := by
    have : (L.dead || !decide ((0 : Int) = 0)) = L.dead := by simp
    rw [this]
  rw [e] at hL
  exact ⟨rfl, h.onLog (fr_gl hF) hL, hF⟩

theorem ld_frames {w w1 w2 : World} {gl gd gs gm : Nat} (h : Fr (fun b => b = gl ∨ dT gd gs gm b) w w1) (k : Fr (· = gl) w1 w2 ∨ Fr (dT gd gs gm) w1 w2) : Fr (fun b => b = gl ∨ dT gd gs gm b) w w2 := by
  rcases k with k | k
  · exact h.trans k (fun _ _ e => .inl e)
  · exact h.trans k (fun _ _ e => .inr e)

set_option maxRecDepth 100000 in
set_option maxHeartbeats 1000000 in
theorem lreset_any (base gl gd gs gm : Nat) (sv rv : Value) (L : Lg) (D : Dk) (w : World) (h : LD w base gl gd gs gm sv rv L D) (hw : D.wf) (hp : D.plan = []) (hoff : D.off = false)
    (hf : L.first < D.sec.length) (hm : L.most < 274877906944) (hd : L.dead = false) (hst : D.steps + 2 ≤ 1152921504606846976) :
    Calls Tryz.prog 42 #[.pointer (some ⟨gl, 0, none⟩)] w fun e w' => e = .returned (.int .i64 0) ∧
      LD w' base gl gd gs gm (.slice none 0 0) (.slice none 0 0) ⟨L.first, L.count, L.most + 1, L.most + 1, [], 0, 0, false, false⟩ (D.write L.first (sectorL (L.most + 1) [])).sync ∧ Fr (fun b => b = gl ∨ dT gd gs gm b) w w' := by
  have H : Aside (LD w base gl gd gs gm sv rv L D ∧ D.wf ∧ D.plan = [] ∧ D.off = false ∧ L.first < D.sec.length ∧ L.dead = false ∧ D.steps + 2 ≤ 1152921504606846976) := ⟨h, hw, hp, hoff, hf, hd, hst⟩
  obtain ⟨c0, c1, c2, c3, c4, c5, c6, c7, c8, c9⟩ := h.log.cells
  have hgl := h.glt
  rw [hd] at c9
  obtain ⟨M, hM⟩ : ∃ M, L.most = M := ⟨_, rfl⟩
  obtain ⟨F, hF⟩ : ∃ F, L.first = F := ⟨_, rfl⟩
  rw [hM] at c4 hm ⊢
  rw [hF] at c1 ⊢
  have d1 : decide ((274877906944 : Int) ≤ (M : Int)) = false := by simp; omega
  have hMw : IntKind.i64.wrap ((M : Int) + 1) = ((M + 1 : Nat) : Int) := by rw [wrap_nat (by omega) (by omega)]; omega
  obtain ⟨N, hN⟩ : ∃ N, M + 1 = N := ⟨_, rfl⟩
  rw [hN] at hMw ⊢
  have HN : Aside (M + 1 = N ∧ L.most = M ∧ L.first = F ∧ N < 9223372036854775808) := ⟨hN, hM, hF, by omega⟩
  clear h hw hp hoff hf hd hst hN hM hF c2 c3 c5 c6 c7 c8
  go_enter Tryz.func42, Tryz.ntmps42
  go_wp2_with fail
  have k0 : ∀ W, Below w.heap.size w W → W.cell? ⟨gl, 0, none⟩ = some (.pointer (some ⟨gd, 0, none⟩)) ∧ W.cell? ⟨gl, 1, none⟩ = some (.int .i64 (F : Int)) ∧ W.cell? ⟨gl, 4, none⟩ = some (.int .i64 (M : Int)) := fun W hW => ⟨(hW.cell (p := ⟨gl, 0, none⟩) hgl).trans c0, (hW.cell (p := ⟨gl, 1, none⟩) hgl).trans c1, (hW.cell (p := ⟨gl, 4, none⟩) hgl).trans c4⟩
  have k1 : ∀ W, LD W base gl gd gs gm sv rv L (D.write F (sectorL N [])) → W.cell? ⟨gl, 0, none⟩ = some (.pointer (some ⟨gd, 0, none⟩)) ∧ W.cell? ⟨gl, 1, none⟩ = some (.int .i64 (F : Int)) ∧ W.cell? ⟨gl, 4, none⟩ = some (.int .i64 (M : Int)) := fun W hW => by
    obtain ⟨c0, c1, c2, c3, c4, c5, c6, c7, c8, c9⟩ := hW.log.cells
    rw [HN.out.2.2.1] at c1
    rw [HN.out.2.1] at c4
    exact ⟨c0, c1, c4⟩
  have K := hid k0
  have K1 := hid k1
  clear k0 k1
  go_region_held3 (fun w' => w'.cell? ⟨gl, 0, none⟩ = some (.pointer (some ⟨gd, 0, none⟩)) ∧ w'.cell? ⟨gl, 1, none⟩ = some (.int .i64 (F : Int)) ∧ w'.cell? ⟨gl, 4, none⟩ = some (.int .i64 (M : Int)))
    (first | exact ⟨c0, c1, c4⟩ | exact K1.out _ R2.out.1 | exact K.out _ (by repeat (first | exact R1.out.2 | exact Below.refl _ _ | refine bl_drew ?_)))
    (first
     | (go_at_call 82
        (with_reducible refine Calls.mono (build_any N none 0 0 [] _ HN.out.2.2.2 (RdB.nil _ _) (by omega)) ?_)
        rintro e w1 ⟨g, cap, rfl, hown, hb1⟩
        have R1 : Aside (RdB w1 (some ⟨g, 0, none⟩) 512 (sectorL N []) ∧ Below w.heap.size w w1) := ⟨RdB.of_own hown, bl_undrew hb1⟩
        clear hown hb1)
     | (go_at_call 81
        (with_reducible refine Calls.mono (write_any gd gs gm D F 512 cap _ (sectorL N []) _ (H.out.1.disk.below R1.out.2) H.out.2.1 H.out.2.2.1 H.out.2.2.2.1 (by rw [← HN.out.2.2.1]; exact H.out.2.2.2.2.1) R1.out.1 (by omega)) ?_)
        rintro e w2 ⟨rfl, hD2, hF2⟩
        have R2 : Aside (LD w2 base gl gd gs gm sv rv L (D.write F (sectorL N [])) ∧ Fr (dT gd gs gm) w w2) := ⟨(H.out.1.below R1.out.2).onDisk (fr_dT hF2) hD2, (Fr.of_below R1.out.2 _).trans (fr_dT hF2) (fun _ _ h => h)⟩
        clear hD2 hF2))
  go_wp2_with fail
  have H2 : Aside (Fr (fun b => b = gl ∨ dT gd gs gm b) w w2) := ⟨R2.out.2.mono fun _ _ e => .inr e⟩
  refine (lstep_ok base gl gd gs gm sv rv L _ w2 R2.out.1 H.out.2.2.2.2.2.1).mono ?_
  rintro e w3 ⟨rfl, h3, hF3⟩
  have c03 := h3.log.cells.1
  have H3 : Aside (LD w3 base gl gd gs gm sv rv L (D.write F (sectorL N [])) ∧ Fr (fun b => b = gl ∨ dT gd gs gm b) w w3) := ⟨h3, ld_frames H2.out (.inl hF3)⟩
  clear h3 hF3
  go_wp2_with fail
  have hst := H.out.2.2.2.2.2.2
  refine (sync_any gd gs gm (D.write F (sectorL N [])) w3 H3.out.1.disk (Dk.write_wf H.out.2.1 (by rw [← HN.out.2.2.1]; exact H.out.2.2.2.2.1) (by rw [sectorL_length _ _ (by simp)]; omega) (by omega)) H.out.2.2.1 H.out.2.2.2.1 (by show D.steps + 1 + 1 ≤ _; omega)).mono ?_
  rintro e w4 ⟨rfl, hD4, hF4⟩
  have H4 : Aside (LD w4 base gl gd gs gm sv rv L (D.write F (sectorL N [])).sync ∧ Fr (fun b => b = gl ∨ dT gd gs gm b) w w4) := ⟨H3.out.1.onDisk hF4 hD4, ld_frames H3.out.2 (.inr hF4)⟩
  clear hD4 hF4 hst c03
  go_wp2_with fail
  refine (lstep_ok base gl gd gs gm sv rv L _ w4 H4.out.1 H.out.2.2.2.2.2.1).mono ?_
  rintro e w5 ⟨rfl, h5, hF5⟩
  have H5 : Aside (LD w5 base gl gd gs gm sv rv L (D.write F (sectorL N [])).sync ∧ Fr (fun b => b = gl ∨ dT gd gs gm b) w w5) := ⟨h5, ld_frames H4.out.2 (.inl hF5)⟩
  have cc := h5.log.cells
  have ff := fun i => h5.log.1.frozen i
  have c4 := cc.2.2.2.2.1
  have c3 := cc.2.2.2.1
  have c5 := cc.2.2.2.2.2.1
  have c6 := cc.2.2.2.2.2.2.1
  have c7 := cc.2.2.2.2.2.2.2.1
  have c8 := cc.2.2.2.2.2.2.2.2.1
  rw [HN.out.2.1] at c4
  clear cc h5 hF5
  go_wp2_with fail
  go_ret
  have hb := H5.out.1.log.1
  have hfr : Fr (· = gl) w5 (((((w5.setCell ⟨gl, 4, none⟩ (.int .i64 (N : Int))).setCell ⟨gl, 3, none⟩ (.int .i64 (N : Int))).setCell ⟨gl, 5, none⟩ (.slice none 0 0)).setCell ⟨gl, 6, none⟩ (.int .i64 0)).setCell ⟨gl, 7, none⟩ (.slice none 0 0)) := (((((Fr.refl (· = gl) w5).set (p := ⟨gl, 4, none⟩) (.inl rfl) _).set (p := ⟨gl, 3, none⟩) (.inl rfl) _).set (p := ⟨gl, 5, none⟩) (.inl rfl) _).set (p := ⟨gl, 6, none⟩) (.inl rfl) _).set (p := ⟨gl, 7, none⟩) (.inl rfl) _
  have hfr2 := hfr.set (p := ⟨gl, 8, none⟩) (.inl rfl) (.bool false)
  refine ⟨rfl, H5.out.1.onLog (fr_gl hfr2) ⟨?_, H5.out.1.log.2.1, World.ownsRow_nil _ _ _ _, [], World.ownsRow_nil _ _ _ _⟩, ld_frames H5.out.2 (.inl hfr2)⟩
  have hd := H.out.2.2.2.2.2.1
  have := (((((hb.set_ 4 (.int .i64 (N : Int))).set_ 3 (.int .i64 (N : Int))).set_ 5 (.slice none 0 0)).set_ 6 (.int .i64 0)).set_ 7 (.slice none 0 0)).set_ 8 (.bool false)
  rw [hd, HN.out.2.2.1] at this
  simpa [lgCells] using this
end Go.Proofs.YthfidlhefkjpdaaGreatDoor

namespace Go.Proofs.YthfidlhefkjpdaaGreatDoor
open Go.RowKit

set_option maxRecDepth 100000 in
set_option maxHeartbeats 1000000 in
theorem put_small (u : Nat) (w : World) (hu : u < 128) : Calls Tryz.prog 87 #[.int .u64 (u : Int)] w fun e w' => ∃ v, e = .returned v ∧ w'.ownsRow w.heap.size 5 1 v 1 ([UInt8.ofNat u].map u8) ∧ Below w.heap.size w w' := by
  obtain ⟨i0, hi0, hz0, hz1, hz2⟩ := info_parts info5
  have hd : decide ((128 : Int) ≤ (u : Int)) = false := by simp; omega
  have hv : (.int .u8 (u : Int) : Value) = u8 (UInt8.ofNat u) := by simp [u8]; omega
  have HV := hid hv
  clear hv
  go_enter Tryz.func87, Tryz.ntmps87
  go_wp2_with fail
  go_loopg [0, 3] 0 (fun q x s wr => wr = w ∧ x = .int .u64 (u : Int) ∧ s = .slice none 0 0)
  case atStart => exact ⟨rfl, rfl, rfl⟩
  case round =>
    obtain ⟨rfl, rfl, rfl⟩ := hrel
    go_wp2_with (at_builtin
                 refine wpList_append_own _ rfl _ _ 43 rfl wr.heap.size 5 i0 _ 1 1 Tryz.underlying43 hi0 hz0 hz1 hz2 rfl (by decide) (.slice none 0 0) 0 [] rfl (World.ownsRow_nil _ _ _ _) ⟨wr.heap.size, 0, none⟩ 1 1 [.int .u8 (u : Int)] rfl rfl (cell_one_new _ _ _) (by simp [Value.oneCell']) (by unfold maxLen; omega) (by omega) (by simp) ?_
                 intro v' w1 hown' hgrow _
                 have Q : Aside (w1.ownsRow wr.heap.size 5 1 v' 1 [.int .u8 (u : Int)] ∧ Below wr.heap.size wr w1) := ⟨hown', (bl_alloc (Below.refl _ _) _).grown hgrow (by simp) (by rintro k e; cases e)⟩
                 clear hown' hgrow)
    go_ret
    refine ⟨v', rfl, ?_, Q.out.2⟩
    have := Q.out.1
    rw [HV.out] at this
    exact this

set_option maxRecDepth 100000 in
set_option maxHeartbeats 1000000 in
theorem putText_small (A : Option Addr) (n c : Nat) (bs : List UInt8) (w : World) (hR : RdB w A n bs) (hn : n < 128) :
    Calls Tryz.prog 44 #[.slice A n c] w fun e w' => ∃ A' cap, e = .returned (.slice A' (1 + n) cap) ∧ w'.ownsRow w.heap.size 5 1 (.slice A' (1 + n) cap) (1 + n) ((UInt8.ofNat n :: bs).map u8) ∧ Below w.heap.size w w' := by
  have HR : Aside (∀ W, Below w.heap.size w W → RdB W A n bs) := ⟨fun W hB => hR.below hB⟩
  clear hR
  go_enter Tryz.func44, Tryz.ntmps44
  go_wp2_with fail
  refine (put_small n w hn).mono ?_
  rintro e w1 ⟨v, rfl, hown, hb1⟩
  obtain ⟨va, vc, rfl, h1, h2, h3⟩ := own_form hown
  have Q : Aside (w1.ownsRow w.heap.size 5 1 (.slice va 1 vc) 1 ([UInt8.ofNat n].map u8) ∧ Below w.heap.size w w1) := ⟨hown, hb1⟩
  clear hown hb1 h1 h2 h3
  go_wp2_with ((refine wpList_app_bytes (by rfl) (.tmp 6) (.tmp 7) (by rfl) w.heap.size (.slice va 1 vc) 1 [UInt8.ofNat n] (by rfl) Q.out.1 A n c bs (by rfl) (HR.out _ Q.out.2) (by omega) Q.out.2.size ?_)
               intro A' cap w2 hown2 hg2 hat2
               have Q2 : Aside (w2.ownsRow w.heap.size 5 1 (.slice A' (1 + n) cap) (1 + n) (([UInt8.ofNat n] ++ bs).map u8) ∧ Below w.heap.size w w2) := ⟨hown2, Q.out.2.trans (grown_below hg2 Q.out.1 Q.out.2.size)⟩
               clear hown2 hg2 hat2)
  go_ret
  exact ⟨A', cap, rfl, Q2.out.1, Q2.out.2⟩

end Go.Proofs.YthfidlhefkjpdaaGreatDoor
