/- wal.Flush in one; what stays.
   A disk under a plan: what a call may leave, well done or refused. -/
import Derived.Test.YthfidlhefkjpdaaGreatDoorTar
import Derived.Test.YthfidlhefkjpdaaGreatDoorTas
import Derived.Test.YthfidlhefkjpdaaGreatDoorTae
namespace Go.Proofs.YthfidlhefkjpdaaGreatDoor
open Go.RowKit

def Dk.lflush (D : Dk) (L : Lg) : Dk := if L.safe = L.stream.length then D else (D.logged L.first L.run L.stream (L.safe / 498) ((L.stream.length + 497) / 498 - L.safe / 498)).sync

/-- What a call that works on the log's sectors leaves. -/
structure DkNext (D D' : Dk) (lo hi : Nat) (n : Int) : Prop where
  len : D'.sec.length = D.sec.length
  plan : D'.plan = []
  off : D'.off = false
  wf : D'.wf
  steps : D'.steps ≤ D.steps + n
  ge : D.steps ≤ D'.steps
  has : ∀ j, j < D.sec.length → (j < lo ∨ hi ≤ j) → D'.has j = D.has j

theorem lflush_next {D : Dk} {L : Lg} (hDw : D.wf) (hp : D.plan = []) (hoff : D.off = false) (hw : L.wf) (hf : L.first + L.count ≤ D.sec.length) (hst : D.steps + 4098 ≤ 1152921504606846976) :
    DkNext D (D.lflush L) L.first (L.first + L.count) (L.count + 1) := by
  have hs0 := hDw.s0
  unfold Dk.lflush
  split
  · exact ⟨rfl, hp, hoff, hDw, by omega, by omega, fun _ _ _ => rfl⟩
  · obtain ⟨K, hK⟩ : ∃ K, (L.stream.length + 497) / 498 - L.safe / 498 = K := ⟨_, rfl⟩
    rw [hK]
    obtain ⟨h1, h2, h3, h4⟩ := logged_keep D L.first L.run L.stream (L.safe / 498) K
    have hlen := hw.len
    have hcnt := hw.count
    have hsf := hw.safe
    have hiK : L.safe / 498 + K ≤ L.count := by omega
    have hw1 := logged_wf hDw L.first L.run L.stream (L.safe / 498) K (by omega) (by omega)
    have hw2 := Dk.sync_wf hw1 (by rw [h4]; omega)
    refine ⟨by simp [Dk.sync, h1], h2.trans hp, h3.trans hoff, hw2, ?_, ?_, ?_⟩
    · show (D.logged L.first L.run L.stream (L.safe / 498) K).steps + 1 ≤ _
      rw [h4]; omega
    · show _ ≤ (D.logged L.first L.run L.stream (L.safe / 498) K).steps + 1
      rw [h4]; omega
    · intro j hj hout
      rw [Dk.sync_has (by rw [h1]; exact hj)]
      have key : ∀ k, L.safe / 498 + k ≤ L.count → (D.logged L.first L.run L.stream (L.safe / 498) k).has j = D.has j := by
        intro k
        induction k with
        | zero => intro _; rfl
        | succ k ih =>
          intro hk
          rw [Dk.logged, Dk.write_has, if_neg (by omega)]
          exact ih (by omega)
      exact key K hiK

theorem lflush_any (base gl gd gs gm : Nat) (sv rv : Value) (L : Lg) (D : Dk) (w : World) (h : LD w base gl gd gs gm sv rv L D) (hw : L.wf) (hd : L.dead = false) (hDw : D.wf) (hp : D.plan = []) (hoff : D.off = false)
    (hf : L.first + L.count ≤ D.sec.length) (hst : D.steps + 4098 ≤ 1152921504606846976) :
    Calls Tryz.prog 67 #[.pointer (some ⟨gl, 0, none⟩)] w fun e w' => e = .returned (.int .i64 0) ∧
      LD w' base gl gd gs gm sv rv { L with safe := L.stream.length } (D.lflush L) ∧ Fr (fun b => b = gl ∨ dT gd gs gm b) w w' := by
  have hsf := hw.safe
  by_cases hs : L.safe = L.stream.length
  · refine (lflush_none base gl gd gs gm sv rv L D w h hw hd hs).mono ?_
    rintro e w' ⟨rfl, hb⟩
    refine ⟨rfl, ?_, Fr.of_below hb _⟩
    have e1 : ({ L with safe := L.stream.length } : Lg) = L := by rw [← hs]
    rw [e1, Dk.lflush, if_pos hs]
    exact h.below hb
  · refine (lflush_some base gl gd gs gm sv rv L D w ((L.stream.length + 497) / 498 - L.safe / 498) h hw hd hDw hp hoff hf (by omega) hst (by omega)).mono ?_
    rintro e w' ⟨rfl, h1, h2⟩
    rw [Dk.lflush, if_neg hs]
    exact ⟨rfl, h1, h2⟩
end Go.Proofs.YthfidlhefkjpdaaGreatDoor

namespace Go.Proofs.YthfidlhefkjpdaaGreatDoor
open Go.RowKit

/-- The disk with a plan. -/
def Dk.under (D : Dk) (pl : List (Int × Int)) : Dk := { D with plan := pl }
/-- No fate from behind step s up to step t. -/
def Calm (pl : List (Int × Int)) (s t : Int) : Prop := ∀ u, s < u → u ≤ t → kindOf pl u = 0
theorem Calm.refl (pl : List (Int × Int)) (s : Int) : Calm pl s s := fun u h1 h2 => by omega
theorem Calm.trans {pl : List (Int × Int)} {a b c : Int} (h : Calm pl a b) (k : Calm pl b c) : Calm pl a c := fun u h1 h2 => by
  by_cases hu : u ≤ b
  · exact h u h1 hu
  · exact k u (by omega) h2
theorem Calm.one {pl : List (Int × Int)} {s : Int} (h : kindOf pl (s + 1) = 0) : Calm pl s (s + 1) := fun u h1 h2 => by
  rw [show u = s + 1 by omega]; exact h

/-- Behind a step that was refused: outside of lo..hi every sector has what it had. -/
structure Fatal (pl : List (Int × Int)) (D D' : Dk) (lo hi : Nat) (top : Int) : Prop where
  le : D'.steps ≤ top
  len : D'.sec.length = D.sec.length
  wf : D'.wf
  ge : D.steps < D'.steps
  hit : kindOf pl D'.steps ≠ 0
  calm : Calm pl D.steps (D'.steps - 1)
  has : ∀ j, j < D.sec.length → (j < lo ∨ hi ≤ j) → D'.has j = D.has j

theorem kindOf_range (pl : List (Int × Int)) (s : Int) : 0 ≤ kindOf pl s ∧ kindOf pl s ≤ 3 := kindG_range s _
theorem fateE_ne {k : Int} (h : k ≠ 0) (hr : 0 ≤ k ∧ k ≤ 3) : (fateE k == 0) = false := by
  have : k = 1 ∨ k = 2 ∨ k = 3 := by omega
  rcases this with rfl | rfl | rfl <;> rfl
theorem fateE_pos {k : Int} (h : k ≠ 0) (hr : 0 ≤ k ∧ k ≤ 3) : 0 < fateE k := by
  have : k = 1 ∨ k = 2 ∨ k = 3 := by omega
  rcases this with rfl | rfl | rfl <;> decide
theorem has_plan {D : Dk} {pl : List (Int × Int)} {s : Int} {o : Bool} (j : Nat) : ({ D with plan := pl, steps := s, off := o } : Dk).has j = D.has j := rfl
theorem wf_plan {D : Dk} (hw : D.wf) (pl : List (Int × Int)) (o : Bool) (hs : D.steps + 1 ≤ 1152921504606846976) : ({ D with plan := pl, steps := D.steps + 1, off := o } : Dk).wf :=
  ⟨hw.n, hw.len, hw.plen, hw.pin, by have := hw.s0; show 0 ≤ D.steps + 1; omega, hs⟩

/-- A step of the calm disk D to D1 (one step further, alike outside lo..hi), refused. -/
theorem fatal_step {D D1 : Dk} {pl : List (Int × Int)} {lo hi : Nat} (hw : D.wf) (hs : D.steps + 1 ≤ 1152921504606846976) (h1 : D1.wf) (hl : D1.sec.length = D.sec.length) (hst : D1.steps = D.steps + 1) (hhas : ∀ j, j < D.sec.length → (j < lo ∨ hi ≤ j) → D1.has j = D.has j)
    (hk : kindOf pl (D.steps + 1) ≠ 0) : Fatal pl D ((D.under pl).fated (D1.under pl) (kindOf pl (D.steps + 1))) lo hi (D.steps + 1) := by
  obtain ⟨k, hkk⟩ : ∃ k, kindOf pl (D.steps + 1) = k := ⟨_, rfl⟩
  have hr := kindOf_range pl (D.steps + 1)
  have hc : Calm pl D.steps (D.steps + 1 - 1) := fun u h1 h2 => by omega
  have hh : kindOf pl (D.steps + 1) ≠ 0 := hk
  rw [hkk] at hr hk ⊢
  have : k = 1 ∨ k = 2 ∨ k = 3 := by omega
  rcases this with rfl | rfl | rfl
  · refine ⟨Int.le_refl _, rfl, ⟨hw.n, hw.len, hw.plen, hw.pin, by have := hw.s0; show 0 ≤ D.steps + 1; omega, hs⟩, by show D.steps < D.steps + 1; omega, hh, hc, fun _ _ _ => rfl⟩
  · refine ⟨Int.le_refl _, rfl, ⟨hw.n, hw.len, hw.plen, hw.pin, by have := hw.s0; show 0 ≤ D.steps + 1; omega, hs⟩, by show D.steps < D.steps + 1; omega, hh, hc, fun _ _ _ => rfl⟩
  · refine ⟨by show D1.steps ≤ _; omega, hl, ⟨h1.n, h1.len, h1.plen, h1.pin, h1.s0, h1.s1⟩, by show D.steps < D1.steps; omega, by show kindOf pl D1.steps ≠ 0; rw [hst]; exact hh, by show Calm pl D.steps (D1.steps - 1); rw [hst]; exact hc, hhas⟩

/-- disk.Write of the disk D under a plan: done, or refused. -/
theorem write_two (gd gs gm : Nat) (D : Dk) (pl : List (Int × Int)) (i n c : Nat) (A : Option Addr) (bs : List UInt8) (w : World) (hD : DiskAt w gd gs gm (D.under pl)) (hw : D.wf) (hpl : pl.length ≤ 70368744175616) (hoff : D.off = false) (hi : i < D.sec.length)
    (hR : RdB w A n bs) (hn : n ≤ 512) (hst : D.steps + 1 ≤ 1152921504606846976) :
    Calls Tryz.prog 81 #[.pointer (some ⟨gd, 0, none⟩), .int .i64 (i : Int), .slice A n c] w fun e w' => ∃ er D', e = .returned (.int .i64 er) ∧ DiskAt w' gd gs gm D' ∧ Fr (fun b => b = gd ∨ b = gm) w w' ∧
      ((er = 0 ∧ D' = (D.write i bs).under pl ∧ kindOf pl (D.steps + 1) = 0) ∨ ((er == 0) = false ∧ Fatal pl D D' i (i + 1) (D.steps + 1) ∧ (D'.has i = D.has i ∨ D'.has i = fullS bs) ∧ 0 < er)) := by
  have hwu : (D.under pl).wf := ⟨hw.n, hw.len, hw.plen, hw.pin, hw.s0, hw.s1⟩
  refine (write_plan gd gs gm (D.under pl) i n c A bs w hD hwu hpl hoff hi hR hn).mono ?_
  rintro e w' ⟨rfl, hD', hF⟩
  refine ⟨_, _, rfl, hD', hF, ?_⟩
  by_cases hk : kindOf pl (D.steps + 1) = 0
  · refine .inl ⟨?_, ?_, hk⟩
    · show fateE (kindOf pl (D.steps + 1)) = 0
      rw [hk]; rfl
    · show (D.under pl).fated ((D.write i bs).under pl) (kindOf pl (D.steps + 1)) = _
      rw [hk]; rfl
  · have hb : bs.length ≤ 512 := by rw [hR.1]; exact hn
    refine .inr ⟨fateE_ne hk (kindOf_range _ _), ?_, ?_, fateE_pos hk (kindOf_range _ _)⟩
    · exact fatal_step (D1 := D.write i bs) hw hst (Dk.write_wf hw hi hb hst) rfl rfl (fun j _ hj => by rw [Dk.write_has, if_neg (by omega)]) hk
    · have key : ∀ k, 0 ≤ k ∧ k ≤ 3 → k ≠ 0 → ((D.under pl).fated ((D.write i bs).under pl) k).has i = D.has i ∨ ((D.under pl).fated ((D.write i bs).under pl) k).has i = fullS bs := by
        intro k hr h0
        have : k = 1 ∨ k = 2 ∨ k = 3 := by omega
        rcases this with rfl | rfl | rfl
        · exact .inl rfl
        · exact .inl rfl
        · refine .inr ?_
          show (D.write i bs).has i = _
          rw [Dk.write_has, if_pos rfl]
      exact key (kindOf pl (D.steps + 1)) (kindOf_range _ _) hk

/-- disk.Sync of the disk D under a plan: done, or refused. -/
theorem sync_two (gd gs gm : Nat) (D : Dk) (pl : List (Int × Int)) (w : World) (hD : DiskAt w gd gs gm (D.under pl)) (hw : D.wf) (hpl : pl.length ≤ 70368744175616) (hoff : D.off = false) (hst : D.steps + 1 ≤ 1152921504606846976) :
    Calls Tryz.prog 54 #[.pointer (some ⟨gd, 0, none⟩)] w fun e w' => ∃ er D', e = .returned (.int .i64 er) ∧ DiskAt w' gd gs gm D' ∧ Fr (fun b => b = gd ∨ (b = gs ∨ b = gm)) w w' ∧
      ((er = 0 ∧ D' = D.sync.under pl ∧ kindOf pl (D.steps + 1) = 0) ∨ ((er == 0) = false ∧ Fatal pl D D' 0 0 (D.steps + 1) ∧ 0 < er)) := by
  have hwu : (D.under pl).wf := ⟨hw.n, hw.len, hw.plen, hw.pin, hw.s0, hw.s1⟩
  refine (sync_plan gd gs gm (D.under pl) w hD hwu hpl hoff hst).mono ?_
  rintro e w' ⟨rfl, hD', hF⟩
  refine ⟨_, _, rfl, hD', hF, ?_⟩
  by_cases hk : kindOf pl (D.steps + 1) = 0
  · refine .inl ⟨?_, ?_, hk⟩
    · show fateE (kindOf pl (D.steps + 1)) = 0
      rw [hk]; rfl
    · show (D.under pl).fated (D.sync.under pl) (kindOf pl (D.steps + 1)) = _
      rw [hk]; rfl
  · refine .inr ⟨fateE_ne hk (kindOf_range _ _), ?_, fateE_pos hk (kindOf_range _ _)⟩
    exact fatal_step (D1 := D.sync) hw hst (Dk.sync_wf hw hst) (by simp [Dk.sync]) rfl (fun j hj _ => Dk.sync_has hj) hk
theorem Fatal.wide {pl : List (Int × Int)} {D D' : Dk} {lo hi lo' hi' : Nat} {top top' : Int} (h : Fatal pl D D' lo hi top) (h1 : lo' ≤ lo) (h2 : hi ≤ hi') (h3 : top ≤ top') : Fatal pl D D' lo' hi' top' := ⟨Int.le_trans h.le h3, h.len, h.wf, h.ge, h.hit, h.calm, fun j hj ho => h.has j hj (by omega)⟩
/-- A refused step behind steps that went well. -/
theorem Fatal.after {pl : List (Int × Int)} {D D1 D' : Dk} {lo hi : Nat} {top : Int} (h : Fatal pl D1 D' lo hi top) (hl : D1.sec.length = D.sec.length) (hs : D.steps ≤ D1.steps) (hc : Calm pl D.steps D1.steps) (hh : ∀ j, j < D.sec.length → (j < lo ∨ hi ≤ j) → D1.has j = D.has j) : Fatal pl D D' lo hi top :=
  ⟨h.le, h.len.trans hl, h.wf, by have := h.ge; omega, h.hit, hc.trans h.calm, fun j hj ho => (h.has j (by omega) ho).trans (hh j hj ho)⟩
/-- Refused: not calm up to there. -/
theorem Fatal.not_calm {pl : List (Int × Int)} {D D' : Dk} {lo hi : Nat} {top : Int} (h : Fatal pl D D' lo hi top) : ¬ Calm pl D.steps top := fun hc => h.hit (hc _ h.ge h.le)
end Go.Proofs.YthfidlhefkjpdaaGreatDoor
