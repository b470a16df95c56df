/- append of bytes, nil or not, onto bytes of one's own.
   wal.Log.load.
   wal.take at the end, wal.clone of nothing, wal.Open of an empty log.
   wal: lsn, End, Safe, Room, step.
   A log over a disk; wal.Reset. -/
import Derived.Test.YthfidlhefkjpdaaGreatDoorRaa
import Derived.Test.YthfidlhefkjpdaaGreatDoorRab
import Derived.Deep.RegionLaw
import Derived.RegionTactic
import Derived.Test.YthfidlhefkjpdaaGreatDoorRag
namespace Go.Proofs.YthfidlhefkjpdaaGreatDoor
open Go.RowKit

theorem run_append_of_nil (w : World) (base t ty e : TypeId) (i : TypeInfo) (size : Nat) (ht : Tryz.prog.underlying t = some (.slice e)) (hi : Tryz.prog.info? e = some i)
    (v : Value) (n : Nat) (xs : List Value) (hown : w.ownsRow base e size v n xs) (c : Nat) : (Builtin.append_ #[t, t] ty #[v, .slice none 0 c]).run Tryz.prog w = .ok v w := by
  rcases hown.2 with ⟨rfl, rfl⟩ | ⟨g, cap, cur, rfl, _, _, hnc, _⟩
  · simp [Builtin.append_, run_underlying ht, sizeOf, typeInfo, hi, Builtin.lenOf, Builtin.firstCells]
  · simp [Builtin.append_, run_underlying ht, sizeOf, typeInfo, hi, Builtin.lenOf, Builtin.firstCells, hnc, storeCells]

theorem run_app_bytes (w : World) (base ty : Nat) (v : Value) (n : Nat) (xs : List UInt8) (hown : w.ownsRow base 5 1 v n (xs.map u8))
    (A : Option Addr) (m c : Nat) (bs : List UInt8) (hr : RdB w A m bs) (hnm : n + m ≤ 140737488355328) (hbase : base ≤ w.heap.size) :
    ∃ A' cap w', (Builtin.append_ #[43, 43] ty #[v, .slice A m c]).run Tryz.prog w = .ok (.slice A' (n + m) cap) w' ∧ w'.ownsRow base 5 1 (.slice A' (n + m) cap) (n + m) ((xs ++ bs).map u8) ∧ w.grownBy w' v.ownBlock ∧
      ((Value.slice A' (n + m) cap).ownBlock = v.ownBlock ∨ (Value.slice A' (n + m) cap).ownBlock = some w.heap.size) := by
  obtain ⟨i0, hi0, hz0, hz1, hz2⟩ := info_parts info5
  cases A with
  | none =>
    have hm : m = 0 := by
      rcases Nat.eq_zero_or_pos m with h | h
      · exact h
      · obtain ⟨b, o, e, _⟩ := hr.2 h; cases e
    subst hm
    obtain rfl := List.eq_nil_of_length_eq_zero hr.1
    have h := run_append_of_nil w base 43 ty 5 i0 1 Tryz.underlying43 hi0 v n _ hown c
    have hown' := hown
    obtain ⟨A', cap, rfl, _⟩ := own_form hown
    exact ⟨A', cap, w, h, by rw [List.append_nil]; exact hown', World.grownBy.refl _ _, .inl rfl⟩
  | some ad =>
    have hcells : ∀ (j : Nat) (u : Value), (bs.map u8)[j]? = some u → w.cell? (ad.add j) = some u := by
      rcases Nat.eq_zero_or_pos m with h | h
      · subst h
        obtain rfl := List.eq_nil_of_length_eq_zero hr.1
        intro j u hu
        simp at hu
      · obtain ⟨ad', e, h1⟩ := hr.news h
        injection e with e
        subst e
        exact h1 w (Below.refl _ _)
    obtain ⟨v', w', hrun, h2, h3, _, h5⟩ := run_append_own_at (P := Tryz.prog) w base 43 ty 5 i0 _ 1 1 Tryz.underlying43 hi0 hz0 hz1 hz2 rfl (by omega) v n _ hown ad m c (bs.map u8) (by rw [List.length_map, hr.1, Nat.mul_one]) hcells (u8_one bs) (by unfold maxLen; omega) (by omega) hbase
    obtain ⟨A', cap, rfl, _⟩ := own_form h2
    exact ⟨A', cap, w', hrun, by rw [List.map_append]; exact h2, h3, h5⟩

section
variable {ops : Array Oper} {rest : List Oper} {o : Oper} {a : Act} {w : World} {K : Act → World → Prop} {Q : Exit → Act → World → Prop} {E : Prop}
theorem wpList_app_bytes (hgd : o.guard = none) (s x : Operand) (ho : o.op = .call { callee := .builtin .append, args := #[s, x], argTypes := #[43, 43] })
    (base : Nat) (v : Value) (n : Nat) (xs : List UInt8) (hs : a.eval s = v) (hown : w.ownsRow base 5 1 v n (xs.map u8))
    (A : Option Addr) (m c : Nat) (bs : List UInt8) (hx : a.eval x = .slice A m c) (hr : RdB w A m bs) (hnm : n + m ≤ 140737488355328) (hbase : base ≤ w.heap.size)
    (h : ∀ A' cap w', w'.ownsRow base 5 1 (.slice A' (n + m) cap) (n + m) ((xs ++ bs).map u8) → w.grownBy w' v.ownBlock → ((Value.slice A' (n + m) cap).ownBlock = v.ownBlock ∨ (Value.slice A' (n + m) cap).ownBlock = some w.heap.size) →
      wpList Tryz.prog ops Q rest (a.put o.dst (.slice A' (n + m) cap)) w') : wpList Tryz.prog ops Q (o :: rest) a w := by
  refine wpList_plain hgd fun K' hK' => ?_
  obtain ⟨A', cap, w', hrun, h1, h2, h3⟩ := run_app_bytes w base o.type v n xs hown A m c bs hr hnm hbase
  unfold Oper.wp
  simp [execOp, ho, resolve, invoke, builtin, hs, hx, hrun, Result.andThen]
  exact hK' _ _ (h A' cap w' h1 h2 h3)
theorem step_app_bytes (hgd : o.guard = none) (s x : Operand) (ho : o.op = .call { callee := .builtin .append, args := #[s, x], argTypes := #[43, 43] })
    (base : Nat) (v : Value) (n : Nat) (xs : List UInt8) (hs : a.eval s = v) (hown : w.ownsRow base 5 1 v n (xs.map u8))
    (A : Option Addr) (m c : Nat) (bs : List UInt8) (hx : a.eval x = .slice A m c) (hr : RdB w A m bs) (hnm : n + m ≤ 140737488355328) (hbase : base ≤ w.heap.size)
    (h : ∀ A' cap w', w'.ownsRow base 5 1 (.slice A' (n + m) cap) (n + m) ((xs ++ bs).map u8) → w.grownBy w' v.ownBlock → ((Value.slice A' (n + m) cap).ownBlock = v.ownBlock ∨ (Value.slice A' (n + m) cap).ownBlock = some w.heap.size) →
      K (a.put o.dst (.slice A' (n + m) cap)) w') : if Region.wanted o (yielded ops a.tmps) = true then Oper.wp Tryz.prog o a w K Q else E := by
  have hw : Region.wanted o (yielded ops a.tmps) = true := by simp [Region.wanted, hgd]
  rw [if_pos hw]
  obtain ⟨A', cap, w', hrun, h1, h2, h3⟩ := run_app_bytes w base o.type v n xs hown A m c bs hr hnm hbase
  unfold Oper.wp
  simp [execOp, ho, resolve, invoke, builtin, hs, hx, hrun, Result.andThen]
  exact h A' cap w' h1 h2 h3
end

theorem grown_below {w w' : World} {v : Value} {base : Nat} {e : TypeId} {size n : Nat} {xs : List Value} (hg : w.grownBy w' v.ownBlock) (hown : w.ownsRow base e size v n xs) (hb : base ≤ w.heap.size) : Below base w w' :=
  ⟨hg.os, hg.tape, hg.output, hg.size, fun b hlt => hg.block b (by omega) (fun e => by have := (hown.lt b e.symm).1; omega)⟩
end Go.Proofs.YthfidlhefkjpdaaGreatDoor

namespace Go.Proofs.YthfidlhefkjpdaaGreatDoor
open Go.RowKit

structure LdS where
  opn : Bool
  run : Nat
  most : Nat
  stream : List UInt8
def usedOf (p : Option (Nat × List UInt8)) : List UInt8 := match p with | some (_, u) => u | none => []
def runOf (p : Option (Nat × List UInt8)) : Nat := match p with | some (u, _) => u | none => 0
def ldStep (s : LdS) (k : Nat) (sec : List UInt8) : LdS :=
  let lr := if k = 0 then runOf (parseL sec) else s.run
  let o := s.opn && (parseL sec).isSome && decide (runOf (parseL sec) = lr)
  { opn := o && decide ((usedOf (parseL sec)).length = 498), run := lr, most := max s.most (runOf (parseL sec)), stream := if o then s.stream ++ usedOf (parseL sec) else s.stream }
def ldAll (sec : Nat → List UInt8) : Nat → LdS
  | 0 => ⟨true, 0, 0, []⟩
  | k + 1 => ldStep (ldAll sec k) k (sec k)

theorem parseL_bound {bs : List UInt8} {u : Nat} {used : List UInt8} (h : parseL bs = some (u, used)) : 1 ≤ u ∧ u ≤ 274877906944 ∧ used.length ≤ 498 := by
  unfold parseL at h
  split at h
  · rename_i hh
    simp only [Option.some.injEq, Prod.mk.injEq] at h
    obtain ⟨rfl, rfl⟩ := h
    refine ⟨hh.2.1, hh.2.2.1, ?_⟩
    rw [List.length_take]
    have := hh.2.2.2.1
    omega
  · cases h
theorem ld_bound (sec : Nat → List UInt8) : ∀ k, (ldAll sec k).run ≤ 274877906944 ∧ (ldAll sec k).most ≤ 274877906944 ∧ (ldAll sec k).stream.length ≤ 498 * k
  | 0 => by simp [ldAll]
  | k + 1 => by
    obtain ⟨h1, h2, h3⟩ := ld_bound sec k
    have hr : runOf (parseL (sec k)) ≤ 274877906944 := by
      cases h : parseL (sec k) with
      | none => simp [runOf]
      | some p => exact (parseL_bound h).2.1
    have hu : (usedOf (parseL (sec k))).length ≤ 498 := by
      cases h : parseL (sec k) with
      | none => simp [usedOf]
      | some p => exact (parseL_bound h).2.2
    simp only [ldAll, ldStep]
    refine ⟨by split <;> assumption, by omega, ?_⟩
    generalize ((ldAll sec k).opn && (parseL (sec k)).isSome && decide (runOf (parseL (sec k)) = if k = 0 then runOf (parseL (sec k)) else (ldAll sec k).run)) = b
    cases b with
    | true => simp only [if_true, List.length_append]; omega
    | false => simp only [Bool.false_eq_true, if_false]; omega

theorem rd_of_cells {w : World} {g : Nat} {bs : List UInt8} {t : TypeId} (h : w.heap[g]? = some (.cells (cellsB bs) t (0, 0))) : RdB w (some ⟨g, 0, none⟩) bs.length bs := by
  refine ⟨rfl, fun _ => ⟨g, 0, rfl, (Array.getElem?_eq_some_iff.1 h).1, fun i hi => ?_⟩⟩
  unfold World.cell?
  rw [Nat.zero_add]
  simp only [h]
  simp [cellsB, u8, hi]

def lgCells (gd first count run most : Nat) (sv : Value) (safe : Nat) (rv : Value) (old dead : Bool) : Array Value :=
  #[.pointer (some ⟨gd, 0, none⟩), .int .i64 (first : Int), .int .i64 (count : Int), .int .i64 (run : Int), .int .i64 (most : Int), sv, .int .i64 (safe : Int), rv, .bool old, .bool dead]

theorem b498 (n : Nat) : ((n : Int) == 498) = decide (n = 498) := by rw [Bool.eq_iff_iff]; simp only [beq_iff_eq, decide_eq_true_eq]; omega
/-- The log's block, its stream, and what was left alone since w. -/
def LogW (w w' : World) (gl : Nat) (cs : Array Value) (sv : Value) (st : List UInt8) : Prop :=
  Blk w' gl 89 cs ∧ w'.ownsRow w.heap.size 5 1 sv st.length (st.map u8) ∧ Fr (· = gl) w w'
theorem LogW.set {w w' : World} {gl : Nat} {cs : Array Value} {sv : Value} {st : List UInt8} (h : LogW w w' gl cs sv st) (i : Nat) (u : Value) :
    LogW w (w'.setCell ⟨gl, i, none⟩ u) gl (cs.setIfInBounds i u) sv st := by
  have hF : Fr (· = gl) w' (w'.setCell ⟨gl, i, none⟩ u) := (Fr.refl (· = gl) w').set (p := ⟨gl, i, none⟩) (.inl rfl) u
  exact ⟨h.1.set_ i u, own_fr h.2.1 hF (fun b hb e => by subst e; exact (own_ty h.2.1 hb).ne h.1.ty (by decide)), h.2.2.trans hF (fun _ _ h => h)⟩
theorem LogW.app {w w' w2 : World} {gl : Nat} {cs : Array Value} {sv sv' : Value} {st st' : List UInt8} (h : LogW w w' gl cs sv st) (hlt : gl < w.heap.size)
    (ho : w2.ownsRow w.heap.size 5 1 sv' st'.length (st'.map u8)) (hg : w'.grownBy w2 sv.ownBlock) : LogW w w2 gl cs sv' st' := by
  have hb : Below w.heap.size w' w2 := grown_below hg h.2.1 h.2.2.size
  exact ⟨h.1.below hb hlt, ho, ⟨hb.os.trans h.2.2.os, hb.tape.trans h.2.2.tape, hb.output.trans h.2.2.output, Nat.le_trans h.2.2.size hb.size, fun b hb' hn => (hb.block b hb').trans (h.2.2.block b hb' hn)⟩⟩

set_option maxRecDepth 100000 in
set_option maxHeartbeats 1000000 in
theorem lload_any (gl gd gs gm : Nat) (D : Dk) (first count : Nat) (w : World) (hB : Blk w gl 89 (lgCells gd first count 0 0 (.slice none 0 0) 0 (.slice none 0 0) true false))
    (hD : DiskAt w gd gs gm D) (hw : D.wf) (hoff : D.off = false) (hf : first + count ≤ D.sec.length) :
    Calls Tryz.prog 83 #[.pointer (some ⟨gl, 0, none⟩)] w fun e w' => e = .returned (.int .i64 (if (ldAll (fun k => D.has (first + k)) count).run = 0 then 6 else 0)) ∧
      ∃ sv, Blk w' gl 89 (lgCells gd first count (ldAll (fun k => D.has (first + k)) count).run (ldAll (fun k => D.has (first + k)) count).most sv 0 (.slice none 0 0) true false) ∧
        w'.ownsRow w.heap.size 5 1 sv (ldAll (fun k => D.has (first + k)) count).stream.length ((ldAll (fun k => D.has (first + k)) count).stream.map u8) ∧ Fr (· = gl) w w' := by
  have hnn := hw.n
  have c2 := hB.cell 2
  simp [lgCells] at c2
  have hgl := hB.lt
  have H : Aside (DiskAt w gd gs gm D ∧ D.wf ∧ D.off = false ∧ first + count ≤ D.sec.length ∧ gl ≠ gd ∧ gl ≠ gs ∧ gl ≠ gm) := ⟨hD, hw, hoff, hf, hD.ne hB.ty (by decide) (by decide)⟩
  have hc1 : first + count ≤ 4096 := by omega
  obtain ⟨S, hS⟩ : ∃ S, (fun k => D.has (first + k)) = S := ⟨_, rfl⟩
  rw [hS]
  have hS := hid hS
  obtain ⟨z, hz⟩ : ∃ z : Int, (if (ldAll S count).run = 0 then 6 else 0) = z := ⟨_, rfl⟩
  rw [hz]
  have HZ := hid hz
  clear hz
  have HB : Aside (Blk w gl 89 (lgCells gd first count 0 0 (.slice none 0 0) 0 (.slice none 0 0) true false)) := ⟨hB⟩
  clear hD hw hoff hf hnn hB
  go_enter Tryz.func83, Tryz.ntmps83
  go_wp2_with fail
  go_loopg [3, 14] count (fun q o i wr => ∃ k : Nat, k + q = count ∧ o = .bool (ldAll S k).opn ∧ i = .int .i64 (k : Nat) ∧ Hid (∃ sv, LogW w wr gl (lgCells gd first count (ldAll S k).run (ldAll S k).most sv 0 (.slice none 0 0) true false) sv (ldAll S k).stream))
  case atStart => exact ⟨0, by omega, rfl, rfl, _, HB.out, World.ownsRow_nil _ _ _ _, Fr.refl _ _⟩
  case round =>
    obtain ⟨k, hk, rfl, rfl, hI⟩ := hrel
    by_cases hlt : k < count
    · obtain ⟨sv, hB, hO, hF⟩ := hI.out
      clear hI
      have hbd := ld_bound S k
      obtain ⟨s, hs⟩ : ∃ s, ldAll S k = s := ⟨_, rfl⟩
      rw [hs] at hB hO hbd ⊢
      obtain ⟨o, r0, m0, st⟩ := s
      simp only at hB hO hbd ⊢
      have hDr := H.out.1.fr hF (fun b hb => by subst hb; exact H.out.2.2.2.2) (fun b hb e => by subst e; exact hb.ne HB.out.ty (by decide))
      obtain ⟨j, hj⟩ : ∃ j, first + k = j := ⟨_, rfl⟩
      have hjw : IntKind.i64.wrap ((first : Int) + (k : Int)) = (j : Int) := by rw [wrap_nat (by omega) (by omega)]; omega
      have hSk : S k = D.has j := by rw [← hS.out, ← hj]
      have c0 := hB.cell 0
      have c1 := hB.cell 1
      simp [lgCells] at c0 c1
      have hglr : gl < wr.heap.size := hB.lt
      have hSj : j < D.sec.length := by have := H.out.2.2.2.1; omega
      have HR : Aside (Blk wr gl 89 (lgCells gd first count r0 m0 sv 0 (.slice none 0 0) true false) ∧ wr.ownsRow w.heap.size 5 1 sv st.length (st.map Go.Proofs.YthfidlhefkjpdaaGreatDoor.u8) ∧ Fr (· = gl) w wr ∧ DiskAt wr gd gs gm D ∧ first + k = j ∧ S k = D.has j ∧ j < D.sec.length ∧ ldAll S k = ⟨o, r0, m0, st⟩) := ⟨hB, hO, hF, hDr, hj, hSk, hSj, hs⟩
      clear hB hO hF hDr hj hSk hSj hs
      go_wp2_with fail
      go_region_held3 (fun w' => w'.cell? ⟨gl, 0, none⟩ = some (.pointer (some ⟨gd, 0, none⟩)) ∧ w'.cell? ⟨gl, 1, none⟩ = some (.int .i64 (first : Int)))
        (first | exact ⟨c0, c1⟩ | exact ⟨(R2.out.2.cell (p := ⟨gl, 0, none⟩) hglr).trans c0, (R2.out.2.cell (p := ⟨gl, 1, none⟩) hglr).trans c1⟩)
        ((go_at_call 30
          (with_reducible refine Calls.mono (read_any gd gs gm D j _ ?_ H.out.2.1 H.out.2.2.1 HR.out.2.2.2.2.2.2.1) ?_)
          · exact HR.out.2.2.2.1.below (by repeat (first | exact Below.refl _ _ | refine bl_drew ?_))
          rintro e w2 ⟨g, rfl, hg1, hg2, hb2⟩
          have R2 : Aside (w2.heap[g]? = some (.cells (cellsB (D.has j)) 113 (0, 0)) ∧ Below wr.heap.size wr w2) := ⟨hg1, bl_undrew hb2⟩
          clear hg1 hg2 hb2))
      obtain ⟨qB, qO, qF, qD, qj, qS, qjl, qs⟩ := HR.out
      have hlen : (D.has j).length = 512 := Dk.has_len H.out.2.1 qjl
      have hRd : RdB w2 (some ⟨g, 0, none⟩) 512 (D.has j) := by
        have := rd_of_cells R2.out.1
        rwa [hlen] at this
      have HD2 : Aside (RdB w2 (some ⟨g, 0, none⟩) 512 (D.has j)) := ⟨hRd⟩
      clear qB qO qF qD qS qs hlen hRd qj qjl c0 c1
      go_wp2_with fail
      refine (wparse_any _ 512 (D.has j) w2 HD2.out (by omega) (by omega)).mono ?_
      rintro e w3 ⟨r, v, rfl, hb3, hr0, hr1, hsome⟩
      obtain ⟨qB, qO, qF, qD, qj, qS, qjl, qs⟩ := HR.out
      have hz2 := R2.out.2.size
      have hb23 : Below wr.heap.size wr w3 := R2.out.2.trans (hb3.mono R2.out.2.size)
      have hB3 := qB.below hb23 qB.lt
      have c3 := hB3.cell 3
      have c4 := hB3.cell 4
      have c5 := hB3.cell 5
      have f3 := hB3.frozen 3
      have f4 := hB3.frozen 4
      have f5 := hB3.frozen 5
      simp [lgCells] at c3 c4 c5
      have hO3 := own_fr qO (Fr.of_below hb23 (fun _ => False)) (fun _ _ h => h)
      have hF3 := qF.trans (Fr.of_below hb23 (fun _ => False)) (fun _ _ h => h.elim)
      have H3 : Aside (Blk w3 gl 89 (lgCells gd first count r0 m0 sv 0 (.slice none 0 0) true false) ∧ w3.ownsRow w.heap.size 5 1 sv st.length (st.map Go.Proofs.YthfidlhefkjpdaaGreatDoor.u8) ∧ Fr (· = gl) w w3 ∧ S k = D.has j ∧ ldAll S k = ⟨o, r0, m0, st⟩) := ⟨hB3, hO3, hF3, qS, qs⟩
      obtain ⟨h1, h2, h3⟩ := hbd
      clear qB qO qF qD qS qs qj qjl hb23 hB3 hO3 hF3 HR R2 HD2 hb3
      have hL3 : Aside (LogW w w3 gl (lgCells gd first count r0 m0 sv 0 (.slice none 0 0) true false) sv st) := ⟨⟨H3.out.1, H3.out.2.1, H3.out.2.2.1⟩⟩
      have hst : ldAll S (k + 1) = ldStep ⟨o, r0, m0, st⟩ k (D.has j) := by rw [ldAll, H3.out.2.2.2.2, H3.out.2.2.2.1]
      cases hp : parseL (D.has j) with
      | none =>
        clear hsome
        rcases Nat.eq_zero_or_pos k with rfl | hk0
        · have hst2 : Aside (ldAll S 1 = ⟨false, 0, m0, st⟩) := ⟨by rw [hst]; simp [ldStep, hp, runOf]⟩
          clear hst
          cases o
          all_goals
            go_wp2_with fail
            go_roundg (count - 1)
            case rel =>
              refine ⟨1, by omega, by rw [hst2.out], rfl, ?_⟩
              rw [hst2.out]
              exact ⟨sv, by simpa [lgCells] using (hL3.out.set 3 (.int .i64 0)).set 4 (.int .i64 (m0 : Int))⟩
            case measure => omega
        · have hst2 : Aside (ldAll S (k + 1) = ⟨false, r0, m0, st⟩) := ⟨by rw [hst]; simp [ldStep, hp, runOf]; omega⟩
          have hk1 : ((k : Int) == 0) = false := by simp; omega
          clear hst
          cases o
          all_goals
            go_wp2_with fail
            go_roundg (count - 1 - k)
            case rel =>
              refine ⟨k + 1, by omega, by rw [hst2.out], by go_num, ?_⟩
              rw [hst2.out]
              exact ⟨sv, by simpa [lgCells] using hL3.out.set 4 (.int .i64 (m0 : Int))⟩
            case measure => omega
      | some p =>
        obtain ⟨u, used⟩ := p
        obtain ⟨rfl, gu, cu, rfl, hgu, hcu, hcm, hRu⟩ := hsome u used hp
        obtain ⟨hu1, hu2, hu3⟩ := parseL_bound hp
        clear hsome
        have hfin : ∀ (w' : World) (k : Nat) (b : Bool) (r m : Nat) (cs : Array Value) (sv : Value) (s : List UInt8), ldAll S k = ⟨b, r, m, s⟩ → LogW w w' gl cs sv s → cs = lgCells gd first count r m sv 0 (.slice none 0 0) true false →
            Hid (∃ sv, LogW w w' gl (lgCells gd first count (ldAll S k).run (ldAll S k).most sv 0 (.slice none 0 0) true false) sv (ldAll S k).stream) := by
          rintro w' k b r m cs sv s h1 h2 rfl
          rw [h1]
          exact ⟨sv, h2⟩
        rcases Nat.eq_zero_or_pos k with rfl | hk0
        · cases o
          · have hst2 : Aside (ldAll S 1 = ⟨false, u, max m0 u, st⟩) := ⟨by rw [hst]; simp [ldStep, hp, runOf]⟩
            clear hst
            go_wp2_with fail
            all_goals
              go_roundg (count - 1)
              case rel =>
                refine ⟨1, by omega, by rw [hst2.out], rfl, hfin _ 1 _ _ _ _ sv _ hst2.out ((hL3.out.set 3 _).set 4 _) ?_⟩
                first | rw [show max m0 u = m0 by omega] | rw [show max m0 u = u by omega]
                simp [lgCells]
              case measure => omega
          · -- the first sector
            have hst2 : Aside (ldAll S (1) = ⟨decide (used.length = 498), u, max m0 u, st ++ used⟩) := ⟨by rw [hst]; simp [ldStep, hp, runOf, usedOf]⟩
            obtain ⟨Wx, hWx⟩ : ∃ Wx, w3.setCell ⟨gl, 3, none⟩ (.int .i64 (u : Int)) = Wx := ⟨_, rfl⟩
            have HX : Aside (LogW w Wx gl ((lgCells gd first count r0 m0 sv 0 (.slice none 0 0) true false).setIfInBounds 3 (.int .i64 (u : Int))) sv st) := ⟨by rw [← hWx]; exact hL3.out.set 3 _⟩
            have HRX : Aside (RdB Wx (some ⟨gu, 10, none⟩) used.length used) := ⟨by
              rw [← hWx]
              refine hRu.fr ((Fr.refl (· = gl) w3).set (p := ⟨gl, 3, none⟩) (.inl rfl) _) ?_
              rintro b o h0 e rfl
              injection e with e
              injection e with e1 e2
              have := hgu
              omega⟩
            have c5x := HX.out.1.cell 5
            have c3x := HX.out.1.cell 3
            simp [lgCells] at c5x c3x
            have hkc : count ≤ 4096 := by omega
            clear hst
            go_wp2_with (
              (with_reducible refine wpList_app_bytes (o := ⟨some 67, _, _, _, _, _⟩) rfl (.tmp 65) (.tmp 66) rfl w.heap.size sv st.length st rfl ?_ (some ⟨gu, 10, none⟩) used.length cu used rfl ?_ ?_ ?_ ?_)
              · exact HX.out.2.1
              · exact HRX.out
              · omega
              · exact HX.out.2.2.size
              intro A' cap w6 ho hg _
              have HL6 : Aside (LogW w w6 gl ((lgCells gd first count r0 m0 sv 0 (.slice none 0 0) true false).setIfInBounds 3 (.int .i64 (u : Int))) (.slice A' (st.length + used.length) cap) (st ++ used)) := ⟨HX.out.app hgl (by rw [List.length_append]; exact ho) hg⟩
              have c46 := HL6.out.1.cell 4
              have f46 := HL6.out.1.frozen 4
              have f56 := HL6.out.1.frozen 5
              have c56 := HL6.out.1.cell 5
              simp [lgCells] at c46 c56
              clear ho hg)
            all_goals
              go_roundg (count - 1)
              case rel =>
                refine ⟨1, by omega, by rw [hst2.out]; first | done | exact congrArg Value.bool (b498 _), rfl, hfin _ (1) _ _ _ _ (.slice A' (st.length + used.length) cap) _ hst2.out ((HL6.out.set 5 _).set 4 _) ?_⟩
                first | rw [show max m0 u = m0 by omega] | rw [show max m0 u = u by omega]
                simp [lgCells]
              case measure => omega
        · have hk1 : ((k : Int) == 0) = false := by simp; omega
          have hk0n : ¬ k = 0 := by omega
          cases o
          · have hst2 : Aside (ldAll S (k + 1) = ⟨false, r0, max m0 u, st⟩) := ⟨by rw [hst]; simp [ldStep, hp, runOf, hk0n]⟩
            clear hst
            go_wp2_with fail
            all_goals
              go_roundg (count - 1 - k)
              case rel =>
                refine ⟨k + 1, by omega, by rw [hst2.out], by go_num, hfin _ (k + 1) _ _ _ _ sv _ hst2.out (hL3.out.set 4 _) ?_⟩
                first | rw [show max m0 u = m0 by omega] | rw [show max m0 u = u by omega]
                simp [lgCells]
              case measure => omega
          by_cases hur : u = r0
          · subst hur
            have hst2 : Aside (ldAll S (k + 1) = ⟨decide (used.length = 498), u, max m0 u, st ++ used⟩) := ⟨by rw [hst]; simp [ldStep, hp, runOf, usedOf, hk0n]⟩
            have HX : Aside (LogW w w3 gl (lgCells gd first count u m0 sv 0 (.slice none 0 0) true false) sv st) := ⟨hL3.out⟩
            have HRX : Aside (RdB w3 (some ⟨gu, 10, none⟩) used.length used) := ⟨hRu⟩
            clear hRu
            have c5x := HX.out.1.cell 5
            have c3x := HX.out.1.cell 3
            simp [lgCells] at c5x c3x
            have hkc : k ≤ 4096 := by omega
            clear hst
            go_wp2_with (
              (with_reducible refine wpList_app_bytes (o := ⟨some 67, _, _, _, _, _⟩) rfl (.tmp 65) (.tmp 66) rfl w.heap.size sv st.length st rfl ?_ (some ⟨gu, 10, none⟩) used.length cu used rfl ?_ ?_ ?_ ?_)
              · exact HX.out.2.1
              · exact HRX.out
              · omega
              · exact HX.out.2.2.size
              intro A' cap w6 ho hg _
              have HL6 : Aside (LogW w w6 gl (lgCells gd first count u m0 sv 0 (.slice none 0 0) true false) (.slice A' (st.length + used.length) cap) (st ++ used)) := ⟨HX.out.app hgl (by rw [List.length_append]; exact ho) hg⟩
              have c46 := HL6.out.1.cell 4
              have f46 := HL6.out.1.frozen 4
              have f56 := HL6.out.1.frozen 5
              have c56 := HL6.out.1.cell 5
              simp [lgCells] at c46 c56
              clear ho hg)
            all_goals
              go_roundg (count - 1 - k)
              case rel =>
                refine ⟨k + 1, by omega, by rw [hst2.out]; first | done | exact congrArg Value.bool (b498 _), by go_num, hfin _ (k + 1) _ _ _ _ (.slice A' (st.length + used.length) cap) _ hst2.out ((HL6.out.set 5 _).set 4 _) ?_⟩
                first | rw [show max m0 u = m0 by omega] | rw [show max m0 u = u by omega]
                simp [lgCells]
              case measure => omega
          · have hst2 : Aside (ldAll S (k + 1) = ⟨false, r0, max m0 u, st⟩) := ⟨by rw [hst]; simp [ldStep, hp, runOf, hk0n, hur]⟩
            have hur1 : ((u : Int) == (r0 : Int)) = false := by simp; omega
            clear hst
            go_wp2_with fail
            all_goals
              go_roundg (count - 1 - k)
              case rel =>
                refine ⟨k + 1, by omega, by rw [hst2.out], by go_num, hfin _ (k + 1) _ _ _ _ sv _ hst2.out (hL3.out.set 4 _) ?_⟩
                first | rw [show max m0 u = m0 by omega] | rw [show max m0 u = u by omega]
                simp [lgCells]
              case measure => omega
    · obtain rfl : k = count := by omega
      obtain ⟨sv, hL⟩ := hI.out
      have c3 := hL.1.cell 3
      simp [lgCells] at c3
      have HL := hid hL
      clear hL hI
      have hz := HZ.out
      clear HZ
      rcases Nat.eq_zero_or_pos (ldAll S k).run with h0 | h0
      · rw [if_pos h0] at hz
        rw [h0] at c3
        have h0 := hid h0
        go_wp2_with fail
        go_ret
        subst hz
        exact ⟨rfl, sv, HL.out⟩
      · rw [if_neg (by omega)] at hz
        have hzz : (((ldAll S k).run : Int) == 0) = false := by simp; omega
        have h0 := hid h0
        go_wp2_with fail
        go_ret
        subst hz
        exact ⟨rfl, sv, HL.out⟩
end Go.Proofs.YthfidlhefkjpdaaGreatDoor

namespace Go.Proofs.YthfidlhefkjpdaaGreatDoor
open Go.RowKit

structure Lg where
  first : Nat
  count : Nat
  run : Nat
  most : Nat
  stream : List UInt8
  safe : Nat
  nrec : Nat
  old : Bool
  dead : Bool

/-- Block gl is a log; its blocks lie from base on. -/
def LogAt (w : World) (base gl gd : Nat) (sv rv : Value) (L : Lg) : Prop :=
  Blk w gl 89 (lgCells gd L.first L.count L.run L.most sv L.safe rv L.old L.dead) ∧ base ≤ gl ∧ w.ownsRow base 5 1 sv L.stream.length (L.stream.map u8) ∧ ∃ xs, w.ownsRow base 91 3 rv L.nrec xs

set_option maxRecDepth 100000 in
theorem take_end (gl gd first count run most at' : Nat) (A : Option Addr) (n cap : Nat) (rv : Value) (safe : Nat) (old dead : Bool) (w : World)
    (hB : Blk w gl 89 (lgCells gd first count run most (.slice A n cap) safe rv old dead)) (hn : n ≤ at') :
    Calls Tryz.prog 84 #[.pointer (some ⟨gl, 0, none⟩), .int .i64 (at' : Int)] w fun e w' => e = .returned (.tuple #[.int .i64 0, .bool false]) ∧ w = w' := by
  have c5 := hB.cell 5
  simp [lgCells] at c5
  have d1 : decide ((n : Int) ≤ (at' : Int)) = true := by simp; omega
  clear hB
  go_enter Tryz.func84, Tryz.ntmps84
  go_wp2_with fail
  go_ret2
  exact ⟨rfl, rfl⟩

set_option maxRecDepth 100000 in
theorem rclone_nil (w : World) : Calls Tryz.prog 123 #[.slice none 0 0] w fun e w' => e = .returned (.slice none 0 0) ∧ w = w' := by
  have q22 : ∀ (w : World) (a : Option Addr) (n c n' c' : Nat), (binOp .eql 83 (.slice a n c) (.slice none n' c')).run Tryz.prog w = .ok (.bool a.isNone) w := fun w a n c n' c' => Lib.run_eql_slice_nil w _ _ a n c n' c' Tryz.underlying83
  have hi : (none : Option Addr).isNone = true := rfl
  go_enter Tryz.func123, Tryz.ntmps123
  go_wp2_with fail
  go_ret
  exact ⟨rfl, rfl⟩

set_option maxRecDepth 100000 in
theorem wclone_nil (w : World) : Calls Tryz.prog 85 #[.slice none 0 0] w fun e w' => e = .returned (.slice none 0 0) ∧ w = w' := by
  go_enter Tryz.func85, Tryz.ntmps85
  go_wp2_with fail
  refine (rclone_nil w).mono ?_
  rintro e w' ⟨rfl, rfl⟩
  go_wp2_with fail
  go_loopg [10] 0 (fun q i wr => wr = w ∧ i = .int .i64 0)
  case atStart => exact ⟨rfl, rfl⟩
  case round =>
    obtain ⟨rfl, rfl⟩ := hrel
    go_wp2_with fail
    go_ret
    exact ⟨rfl, rfl⟩

set_option maxRecDepth 100000 in
set_option maxHeartbeats 1000000 in
theorem wopen_any (gd gs gm : Nat) (D : Dk) (first count : Nat) (w : World) (hD : DiskAt w gd gs gm D) (hw : D.wf) (hoff : D.off = false) (hc : 1 ≤ count) (hf : first + count ≤ D.sec.length)
    (hrun : (ldAll (fun k => D.has (first + k)) count).run ≠ 0) (hstr : (ldAll (fun k => D.has (first + k)) count).stream = []) :
    Calls Tryz.prog 41 #[.pointer (some ⟨gd, 0, none⟩), .int .i64 (first : Int), .int .i64 (count : Int)] w fun e w' => ∃ gl sv v, e = .returned (.tuple #[.pointer (some ⟨gl, 0, none⟩), v, .int .i64 0]) ∧
      LogAt w' w.heap.size gl gd sv (.slice none 0 0) ⟨first, count, (ldAll (fun k => D.has (first + k)) count).run, (ldAll (fun k => D.has (first + k)) count).most, [], 0, 0, true, false⟩ ∧ Below w.heap.size w w' := by
  have H : Aside (DiskAt w gd gs gm D ∧ D.wf ∧ D.off = false ∧ 1 ≤ count ∧ first + count ≤ D.sec.length) := ⟨hD, hw, hoff, hc, hf⟩
  clear hD hw hoff hc hf
  obtain ⟨S, hS⟩ : ∃ S, ldAll (fun k => D.has (first + k)) count = S := ⟨_, rfl⟩
  rw [hS] at hrun hstr ⊢
  have hS := hid hS
  have hR := hid hrun
  have hT := hid hstr
  clear hrun hstr
  go_enter Tryz.func41, Tryz.ntmps41
  go_wp2_with fail
  refine (outside_ok gd gs gm D first count w H.out.1 H.out.2.1.n H.out.2.2.2.1 H.out.2.2.2.2).mono ?_
  rintro e w' ⟨rfl, rfl⟩
  go_wp2_with fail
  obtain ⟨W0, hW0⟩ : ∃ W0, w.alloc (.cells (lgCells gd first count 0 0 (.slice none 0 0) 0 (.slice none 0 0) true false) 89) = W0 := ⟨_, rfl⟩
  have hB0 : Blk W0 w.heap.size 89 (lgCells gd first count 0 0 (.slice none 0 0) 0 (.slice none 0 0) true false) := by rw [← hW0]; exact Blk.new _ _ _
  have hb0 : Below w.heap.size w W0 := by rw [← hW0]; exact bl_alloc (Below.refl _ _) _
  have hl := lload_any w.heap.size gd gs gm D first count W0 hB0 (H.out.1.below hb0) H.out.2.1 H.out.2.2.1 H.out.2.2.2.2
  rw [hS.out, if_neg hR.out] at hl
  have hc0 : W0 = w.alloc (.cells #[.pointer (some ⟨gd, 0, none⟩), .int .i64 (first : Int), .int .i64 (count : Int), .int .i64 0, .int .i64 0, .slice none 0 0, .int .i64 0, .slice none 0 0, .bool true, .bool false] 89) := hW0.symm
  rw [← hc0]
  have HB0 : Aside (Below w.heap.size w W0 ∧ W0.heap.size = w.heap.size + 1) := ⟨hb0, by rw [← hW0]; simp⟩
  clear hW0 hc0 hB0 hb0
  refine hl.mono ?_
  clear hl
  rintro e w1 ⟨rfl, sv, hB1, hO1, hF1⟩
  rw [hT.out] at hO1
  obtain ⟨A1, cap, rfl, hcap, hcm, -⟩ := own_form hO1
  have hb1 : Below w.heap.size w w1 := HB0.out.1.trans (hF1.below HB0.out.1.size (by rintro x rfl; exact Nat.le_refl _))
  have hO : w1.ownsRow w.heap.size 5 1 (.slice A1 0 cap) 0 [] := own_mono hO1 HB0.out.1.size
  have H1 : Aside (Blk w1 w.heap.size 89 (lgCells gd first count S.run S.most (.slice A1 0 cap) 0 (.slice none 0 0) true false) ∧ w1.ownsRow w.heap.size 5 1 (.slice A1 0 cap) 0 [] ∧ Below w.heap.size w w1) := ⟨hB1, hO, hb1⟩
  clear hB1 hO1 hF1 hb1 hO
  go_wp2_with fail
  refine (take_end w.heap.size gd first count S.run S.most 0 A1 0 cap (.slice none 0 0) 0 true false w1 H1.out.1 (Nat.le_refl _)).mono ?_
  rintro e w' ⟨rfl, rfl⟩
  have c5 := H1.out.1.cell 5
  have c6 := H1.out.1.cell 6
  have c7 := H1.out.1.cell 7
  have f5 := H1.out.1.frozen 5
  have f6 := H1.out.1.frozen 6
  simp [lgCells] at c5 c6 c7
  go_wp2_with fail
  go_loopg [11, 13] 0 (fun q a b wr => a = .int .i64 0 ∧ b = .bool false ∧ wr = w1)
  case atStart => exact ⟨rfl, rfl, rfl⟩
  case round =>
    obtain ⟨rfl, rfl, rfl⟩ := hrel
    go_wp2_with (refine (wclone_nil _).mono ?_; rintro e w' ⟨rfl, rfl⟩)
    go_ret3
    have hB2 : Blk ((wr.setCell ⟨w.heap.size, 5, none⟩ (.slice A1 0 cap)).setCell ⟨w.heap.size, 6, none⟩ (.int .i64 0)) w.heap.size 89 (lgCells gd first count S.run S.most (.slice A1 0 cap) 0 (.slice none 0 0) true false) := by
      have := (H1.out.1.set_ 5 (.slice A1 0 cap)).set_ 6 (.int .i64 0)
      simpa [lgCells] using this
    have hF : Fr (· = w.heap.size) wr ((wr.setCell ⟨w.heap.size, 5, none⟩ (.slice A1 0 cap)).setCell ⟨w.heap.size, 6, none⟩ (.int .i64 0)) :=
      ((Fr.refl (· = w.heap.size) wr).set (p := ⟨w.heap.size, 5, none⟩) (.inl rfl) _).set (p := ⟨w.heap.size, 6, none⟩) (.inl rfl) _
    refine ⟨w.heap.size, .slice A1 0 cap, _, rfl, ⟨hB2, Nat.le_refl _, ?_, [], World.ownsRow_nil _ _ _ _⟩, H1.out.2.2.trans (hF.below H1.out.2.2.size (by rintro x rfl; exact Nat.le_refl _))⟩
    exact own_fr H1.out.2.1 hF (fun b hb e => by subst e; exact (own_ty H1.out.2.1 hb).ne H1.out.1.ty (by decide))
end Go.Proofs.YthfidlhefkjpdaaGreatDoor

namespace Go.Proofs.YthfidlhefkjpdaaGreatDoor
open Go.RowKit

def Lg.lsn (L : Lg) (a : Nat) : Int := (L.run * 16777216 + a : Nat)
structure Lg.wf (L : Lg) : Prop where
  run : L.run ≤ 274877906944
  most : L.most ≤ 274877906944
  count : L.count ≤ 4096
  len : L.stream.length ≤ L.count * 498
  safe : L.safe ≤ L.stream.length

theorem LogAt.lt {w : World} {base gl gd : Nat} {sv rv : Value} {L : Lg} (h : LogAt w base gl gd sv rv L) : gl < w.heap.size := h.1.lt
theorem LogAt.cells {w : World} {base gl gd : Nat} {sv rv : Value} {L : Lg} (h : LogAt w base gl gd sv rv L) :
    w.cell? ⟨gl, 0, none⟩ = some (.pointer (some ⟨gd, 0, none⟩)) ∧ w.cell? ⟨gl, 1, none⟩ = some (.int .i64 (L.first : Int)) ∧ w.cell? ⟨gl, 2, none⟩ = some (.int .i64 (L.count : Int)) ∧ w.cell? ⟨gl, 3, none⟩ = some (.int .i64 (L.run : Int)) ∧
    w.cell? ⟨gl, 4, none⟩ = some (.int .i64 (L.most : Int)) ∧ w.cell? ⟨gl, 5, none⟩ = some sv ∧ w.cell? ⟨gl, 6, none⟩ = some (.int .i64 (L.safe : Int)) ∧ w.cell? ⟨gl, 7, none⟩ = some rv ∧ w.cell? ⟨gl, 8, none⟩ = some (.bool L.old) ∧ w.cell? ⟨gl, 9, none⟩ = some (.bool L.dead) := by
  have c := fun i => h.1.cell i
  exact ⟨c 0, c 1, c 2, c 3, c 4, c 5, c 6, c 7, c 8, c 9⟩
/-- The blocks of a log. -/
def lT (gl : Nat) (sv rv : Value) : Nat → Prop := fun b => b = gl ∨ (sv.ownBlock = some b ∨ rv.ownBlock = some b)
theorem LogAt.fr {w w' : World} {T : Nat → Prop} {base gl gd : Nat} {sv rv : Value} {L : Lg} (h : LogAt w base gl gd sv rv L) (hf : Fr T w w') (hT : ∀ b, lT gl sv rv b → ¬ T b) : LogAt w' base gl gd sv rv L := by
  obtain ⟨h1, h2, h3, xs, h4⟩ := h
  exact ⟨h1.fr hf (hT _ (.inl rfl)), h2, own_fr h3 hf (fun b hb => hT b (.inr (.inl hb))), xs, own_fr h4 hf (fun b hb => hT b (.inr (.inr hb)))⟩
theorem LogAt.below {w w' : World} {base gl gd : Nat} {sv rv : Value} {L : Lg} (h : LogAt w base gl gd sv rv L) (hb : Below w.heap.size w w') : LogAt w' base gl gd sv rv L :=
  h.fr (Fr.of_below hb (fun _ => False)) (fun _ _ h => h)
theorem LogAt.form {w : World} {base gl gd : Nat} {sv rv : Value} {L : Lg} (h : LogAt w base gl gd sv rv L) : ∃ A cap, sv = .slice A L.stream.length cap ∧ L.stream.length ≤ cap ∧ cap ≤ maxLen := by
  obtain ⟨A, cap, e, h1, h2, -⟩ := own_form h.2.2.1
  exact ⟨A, cap, e, h1, h2⟩
/-- The log's blocks by their kinds. -/
theorem LogAt.kinds {w : World} {base gl gd b : Nat} {sv rv : Value} {L : Lg} (h : LogAt w base gl gd sv rv L) (hb : lT gl sv rv b) : base ≤ b ∧ (Ty w b 89 ∨ Ty w b 5 ∨ Ty w b 91) := by
  obtain ⟨h1, h2, h3, xs, h4⟩ := h
  rcases hb with rfl | hb | hb
  · exact ⟨h2, .inl h1.ty⟩
  · exact ⟨(h3.lt b hb).1, .inr (.inl (own_ty h3 hb))⟩
  · exact ⟨(h4.lt b hb).1, .inr (.inr (own_ty h4 hb))⟩

theorem lsn_eq (run a : Nat) (hr : run ≤ 274877906944) (ha : a ≤ 4096 * 498) : IntKind.i64.wrap ((run : Int) * 16777216) = ((run * 16777216 : Nat) : Int) ∧ IntKind.i64.wrap (((run * 16777216 : Nat) : Int) + (a : Int)) = ((run * 16777216 + a : Nat) : Int) := by
  refine ⟨?_, ?_⟩
  · rw [wrap_nat (by omega) (by omega)]; omega
  · rw [wrap_nat (by omega) (by omega)]; omega

set_option maxRecDepth 100000 in
theorem llsn_any (base gl gd : Nat) (sv rv : Value) (L : Lg) (a : Nat) (w : World) (h : LogAt w base gl gd sv rv L) (hr : L.run ≤ 274877906944) (ha : a ≤ 4096 * 498) :
    Calls Tryz.prog 78 #[.pointer (some ⟨gl, 0, none⟩), .int .i64 (a : Int)] w fun e w' => e = .returned (.int .i64 (L.lsn a)) ∧ w = w' := by
  have c3 := h.cells.2.2.2.1
  obtain ⟨e1, e2⟩ := lsn_eq L.run a hr ha
  have hl : L.lsn a = ((L.run * 16777216 + a : Nat) : Int) := rfl
  rw [hl]
  obtain ⟨x, hx⟩ : ∃ x : Nat, L.run * 16777216 = x := ⟨_, rfl⟩
  obtain ⟨y, hy⟩ : ∃ y : Nat, L.run * 16777216 + a = y := ⟨_, rfl⟩
  rw [hy] at e2 ⊢
  rw [hx] at e1 e2
  clear hl hx hy h
  go_enter Tryz.func78, Tryz.ntmps78
  go_wp2_with fail
  go_ret
  exact ⟨rfl, rfl⟩

set_option maxRecDepth 100000 in
theorem lend_any (base gl gd : Nat) (sv rv : Value) (L : Lg) (w : World) (h : LogAt w base gl gd sv rv L) (hw : L.wf) :
    Calls Tryz.prog 46 #[.pointer (some ⟨gl, 0, none⟩)] w fun e w' => e = .returned (.int .i64 (L.lsn L.stream.length)) ∧ w = w' := by
  obtain ⟨A, cap, rfl, -⟩ := h.form
  have c5 := h.cells.2.2.2.2.2.1
  have hc := llsn_any base gl gd _ rv L L.stream.length w h hw.run (by have := hw.count; have := hw.len; omega)
  clear h hw
  go_enter Tryz.func46, Tryz.ntmps46
  go_wp2_with fail
  refine hc.mono ?_
  rintro e w' ⟨rfl, rfl⟩
  go_wp2_with fail
  go_ret
  exact ⟨rfl, rfl⟩

set_option maxRecDepth 100000 in
theorem lsafe_any (base gl gd : Nat) (sv rv : Value) (L : Lg) (w : World) (h : LogAt w base gl gd sv rv L) (hw : L.wf) :
    Calls Tryz.prog 38 #[.pointer (some ⟨gl, 0, none⟩)] w fun e w' => e = .returned (.int .i64 (L.lsn L.safe)) ∧ w = w' := by
  have c6 := h.cells.2.2.2.2.2.2.1
  have hc := llsn_any base gl gd _ rv L L.safe w h hw.run (by have := hw.count; have := hw.len; have := hw.safe; omega)
  clear h hw
  go_enter Tryz.func38, Tryz.ntmps38
  go_wp2_with fail
  refine hc.mono ?_
  rintro e w' ⟨rfl, rfl⟩
  go_wp2_with fail
  go_ret
  exact ⟨rfl, rfl⟩

set_option maxRecDepth 100000 in
theorem lroom_any (base gl gd : Nat) (sv rv : Value) (L : Lg) (w : World) (h : LogAt w base gl gd sv rv L) (hw : L.wf) :
    Calls Tryz.prog 45 #[.pointer (some ⟨gl, 0, none⟩)] w fun e w' => e = .returned (.int .i64 ((L.count * 498 - L.stream.length : Nat) : Int)) ∧ Below w.heap.size w w' := by
  obtain ⟨A, cap, rfl, -⟩ := h.form
  have c2 := h.cells.2.2.1
  have c5 := h.cells.2.2.2.2.2.1
  have hc := hw.count
  have hl := hw.len
  obtain ⟨n, hn⟩ : ∃ n, L.stream.length = n := ⟨_, rfl⟩
  obtain ⟨c, hcc⟩ : ∃ c, L.count = c := ⟨_, rfl⟩
  rw [hn, hcc] at hl ⊢
  rw [hcc] at c2 hc
  rw [hn] at c5
  have e : ((c * 498 - n : Nat) : Int) = (c : Int) * 498 - (n : Int) := by omega
  rw [e]
  clear h hw hn hcc e
  go_enter Tryz.func45, Tryz.ntmps45
  go_wp2_with fail
  go_region_held3 (fun w' => w'.cell? ⟨gl, 2, none⟩ = some (.int .i64 (c : Int)) ∧ w'.cell? ⟨gl, 5, none⟩ = some (.slice A n cap)) (exact ⟨c2, c5⟩) (fail)
  go_wp2_with fail
  go_ret
  refine ⟨?_, bl_drew (Below.refl _ _)⟩
  show Ending.returned (.int .i64 (IntKind.i64.wrap (IntKind.i64.wrap ((c : Int) * 498) - (n : Int)))) = _
  rw [wrap_nat (a := (c : Int) * 498) (by omega) (by omega), wrap_nat (by omega) (by omega)]

set_option maxRecDepth 100000 in
theorem lstep_any (base gl gd : Nat) (sv rv : Value) (L : Lg) (x : Int) (w : World) (h : LogAt w base gl gd sv rv L) :
    Calls Tryz.prog 86 #[.pointer (some ⟨gl, 0, none⟩), .int .i64 x] w fun e w' => e = .returned (.bool (decide (x = 0))) ∧ LogAt w' base gl gd sv rv { L with dead := L.dead || !decide (x = 0) } ∧ Fr (· = gl) w w' := by
  have c9 := h.cells.2.2.2.2.2.2.2.2.2
  have f9 := h.1.frozen 9
  have HL := hid h
  clear h
  have key : ∀ b : Bool, LogAt (w.setCell ⟨gl, 9, none⟩ (.bool b)) base gl gd sv rv { L with dead := b } ∧ Fr (· = gl) w (w.setCell ⟨gl, 9, none⟩ (.bool b)) := by
    intro b
    obtain ⟨h1, h2, h3, xs, h4⟩ := HL.out
    have hF : Fr (· = gl) w (w.setCell ⟨gl, 9, none⟩ (.bool b)) := (Fr.refl (· = gl) w).set (p := ⟨gl, 9, none⟩) (.inl rfl) _
    refine ⟨⟨?_, h2, own_fr h3 hF (fun k hb e => by subst e; exact (own_ty h3 hb).ne h1.ty (by decide)), xs, own_fr h4 hF (fun k hb e => by subst e; exact (own_ty h4 hb).ne h1.ty (by decide))⟩, hF⟩
    have := h1.set_ 9 (.bool b)
    simpa [lgCells] using this
  have K := hid key
  clear key
  obtain ⟨d, hd⟩ : ∃ d, L.dead = d := ⟨_, rfl⟩
  rw [hd] at c9 ⊢
  have hd := hid hd
  have hb : (x == 0) = decide (x = 0) := by rw [Bool.eq_iff_iff]; simp
  cases hx : decide (x = 0) with
  | true =>
    rw [hx] at hb
    have hbn : (x != 0) = false := by simp [bne, hb]
    cases d
    all_goals
      clear hx
      go_enter Tryz.func86, Tryz.ntmps86
      go_wp2_with fail
      go_ret
      first | exact ⟨rfl, K.out _⟩ | (rw [hbn]; exact ⟨rfl, K.out _⟩)
  | false =>
    rw [hx] at hb
    have hbn : (x != 0) = true := by simp [bne, hb]
    cases d
    all_goals
      clear hx
      go_enter Tryz.func86, Tryz.ntmps86
      go_wp2_with fail
      go_ret
      first | exact ⟨rfl, K.out _⟩ | (rw [hbn]; exact ⟨rfl, K.out _⟩)
end Go.Proofs.YthfidlhefkjpdaaGreatDoor

namespace Go.Proofs.YthfidlhefkjpdaaGreatDoor
open Go.RowKit

/-- A disk, and a log over it that was made later. -/
structure LD (w : World) (base gl gd gs gm : Nat) (sv rv : Value) (L : Lg) (D : Dk) : Prop where
  disk : DiskAt w gd gs gm D
  log : LogAt w base gl gd sv rv L
  bd : gd < base
  bs : gs < base
  bm : gm < base

/-- v' lies where v lay, or in a new block. -/
def Nx (w : World) (v v' : Value) : Prop := ∀ b, v'.ownBlock = some b → v.ownBlock = some b ∨ w.heap.size ≤ b
theorem Nx.refl (w : World) (v : Value) : Nx w v v := fun _ h => .inl h
theorem Nx.nil (w : World) (v : Value) : Nx w v (.slice none 0 0) := fun _ h => by cases h
theorem Nx.trans {a b : World} {v v' v2 : Value} (h : Nx a v v') (k : Nx b v' v2) (hz : a.heap.size ≤ b.heap.size) : Nx a v v2 := fun x hx => by
  rcases k x hx with h1 | h1
  · exact h x h1
  · exact .inr (by omega)

/-- The blocks of both. -/
def ldT (gl gd gs gm : Nat) (sv rv : Value) : Nat → Prop := fun b => dT gd gs gm b ∨ lT gl sv rv b

section
variable {w w' : World} {base gl gd gs gm : Nat} {sv rv sv' rv' : Value} {L L' : Lg} {D D' : Dk} {T : Nat → Prop}
theorem LD.apart (h : LD w base gl gd gs gm sv rv L D) {b : Nat} (hd : dT gd gs gm b) : ¬ lT gl sv rv b := by
  intro hl
  have := (h.log.kinds hl).1
  have := h.bd; have := h.bs; have := h.bm
  rcases hd with rfl | rfl | rfl <;> omega
theorem LD.fr (h : LD w base gl gd gs gm sv rv L D) (hf : Fr T w w') (hT : ∀ b, ldT gl gd gs gm sv rv b → ¬ T b) (hF : ∀ b, Ty w b 76 → ¬ T b) : LD w' base gl gd gs gm sv rv L D :=
  ⟨h.disk.fr hf (fun b hb => ⟨fun e => by subst e; exact hT _ (.inl (.inl rfl)) hb, fun e => by subst e; exact hT _ (.inl (.inr (.inl rfl))) hb, fun e => by subst e; exact hT _ (.inl (.inr (.inr rfl))) hb⟩) hF,
    h.log.fr hf (fun b hb => hT b (.inr hb)), h.bd, h.bs, h.bm⟩
theorem LD.below (h : LD w base gl gd gs gm sv rv L D) (hb : Below w.heap.size w w') : LD w' base gl gd gs gm sv rv L D :=
  h.fr (Fr.of_below hb (fun _ => False)) (fun _ _ h => h) (fun _ _ h => h)
/-- Behind a call that turned the disk alone. -/
theorem LD.onDisk (h : LD w base gl gd gs gm sv rv L D) (hf : Fr (dT gd gs gm) w w') (hD : DiskAt w' gd gs gm D') : LD w' base gl gd gs gm sv rv L D' :=
  ⟨hD, h.log.fr hf (fun _ hb hd => h.apart hd hb), h.bd, h.bs, h.bm⟩
/-- Behind a call that turned the log alone. -/
theorem LD.onLog (h : LD w base gl gd gs gm sv rv L D) (hf : Fr (lT gl sv rv) w w') (hL : LogAt w' base gl gd sv' rv' L') : LD w' base gl gd gs gm sv' rv' L' D :=
  ⟨h.disk.fr hf (fun b hb => ⟨fun e => by subst e; exact h.apart (.inl rfl) hb, fun e => by subst e; exact h.apart (.inr (.inl rfl)) hb, fun e => by subst e; exact h.apart (.inr (.inr rfl)) hb⟩)
    (fun b hb hl => by
      rcases (h.log.kinds hl).2 with k | k | k
      · exact hb.ne k (by decide)
      · exact hb.ne k (by decide)
      · exact hb.ne k (by decide)), hL, h.bd, h.bs, h.bm⟩
theorem LD.glt (h : LD w base gl gd gs gm sv rv L D) : gl < w.heap.size := h.log.lt
/-- Frames one behind the other. -/
theorem ldT_next (hs : Nx w sv sv') (hr : Nx w rv rv') : ∀ b, b < w.heap.size → ldT gl gd gs gm sv' rv' b → ldT gl gd gs gm sv rv b := by
  rintro b hb (h | h | h | h)
  · exact .inl h
  · exact .inr (.inl h)
  · rcases hs b h with k | k
    · exact .inr (.inr (.inl k))
    · omega
  · rcases hr b h with k | k
    · exact .inr (.inr (.inr k))
    · omega
end

theorem fr_gl {w w' : World} {gl : Nat} {sv rv : Value} (h : Fr (· = gl) w w') : Fr (lT gl sv rv) w w' := h.mono fun _ _ e => .inl e
theorem fr_dT {w w' : World} {gd gs gm : Nat} (h : Fr (fun b => b = gd ∨ b = gm) w w') : Fr (dT gd gs gm) w w' := h.mono fun _ _ e => by
  rcases e with e | e
  · exact .inl e
  · exact .inr (.inr e)

theorem lstep_ok (base gl gd gs gm : Nat) (sv rv : Value) (L : Lg) (D : Dk) (w : World) (h : LD w base gl gd gs gm sv rv L D) (hd : L.dead = false) :
    Calls Tryz.prog 86 #[.pointer (some ⟨gl, 0, none⟩), .int .i64 0] w fun e w' => e = .returned (.bool true) ∧ LD w' base gl gd gs gm sv rv L D ∧ Fr (· = gl) w w' := by
  refine (lstep_any base gl gd sv rv L 0 w h.log).mono ?_
  rintro e w' ⟨rfl, hL, hF⟩
  have e : ({ L with dead := L.dead || !decide ((0 : Int) = 0) } : Lg) = L := by
    have : (L.dead || !decide ((0 : Int) = 0)) = L.dead := by simp
    rw [this]
  rw [e] at hL
  exact ⟨rfl, h.onLog (fr_gl hF) hL, hF⟩

theorem ld_frames {w w1 w2 : World} {gl gd gs gm : Nat} (h : Fr (fun b => b = gl ∨ dT gd gs gm b) w w1) (k : Fr (· = gl) w1 w2 ∨ Fr (dT gd gs gm) w1 w2) : Fr (fun b => b = gl ∨ dT gd gs gm b) w w2 := by
  rcases k with k | k
  · exact h.trans k (fun _ _ e => .inl e)
  · exact h.trans k (fun _ _ e => .inr e)

set_option maxRecDepth 100000 in
set_option maxHeartbeats 1000000 in
theorem lreset_any (base gl gd gs gm : Nat) (sv rv : Value) (L : Lg) (D : Dk) (w : World) (h : LD w base gl gd gs gm sv rv L D) (hw : D.wf) (hp : D.plan = []) (hoff : D.off = false)
    (hf : L.first < D.sec.length) (hm : L.most < 274877906944) (hd : L.dead = false) (hst : D.steps + 2 ≤ 1152921504606846976) :
    Calls Tryz.prog 42 #[.pointer (some ⟨gl, 0, none⟩)] w fun e w' => e = .returned (.int .i64 0) ∧
      LD w' base gl gd gs gm (.slice none 0 0) (.slice none 0 0) ⟨L.first, L.count, L.most + 1, L.most + 1, [], 0, 0, false, false⟩ (D.write L.first (sectorL (L.most + 1) [])).sync ∧ Fr (fun b => b = gl ∨ dT gd gs gm b) w w' := by
  have H : Aside (LD w base gl gd gs gm sv rv L D ∧ D.wf ∧ D.plan = [] ∧ D.off = false ∧ L.first < D.sec.length ∧ L.dead = false ∧ D.steps + 2 ≤ 1152921504606846976) := ⟨h, hw, hp, hoff, hf, hd, hst⟩
  obtain ⟨c0, c1, c2, c3, c4, c5, c6, c7, c8, c9⟩ := h.log.cells
  have hgl := h.glt
  rw [hd] at c9
  obtain ⟨M, hM⟩ : ∃ M, L.most = M := ⟨_, rfl⟩
  obtain ⟨F, hF⟩ : ∃ F, L.first = F := ⟨_, rfl⟩
  rw [hM] at c4 hm ⊢
  rw [hF] at c1 ⊢
  have d1 : decide ((274877906944 : Int) ≤ (M : Int)) = false := by simp; omega
  have hMw : IntKind.i64.wrap ((M : Int) + 1) = ((M + 1 : Nat) : Int) := by rw [wrap_nat (by omega) (by omega)]; omega
  obtain ⟨N, hN⟩ : ∃ N, M + 1 = N := ⟨_, rfl⟩
  rw [hN] at hMw ⊢
  have HN : Aside (M + 1 = N ∧ L.most = M ∧ L.first = F ∧ N < 9223372036854775808) := ⟨hN, hM, hF, by omega⟩
  clear h hw hp hoff hf hd hst hN hM hF c2 c3 c5 c6 c7 c8
  go_enter Tryz.func42, Tryz.ntmps42
  go_wp2_with fail
  have k0 : ∀ W, Below w.heap.size w W → W.cell? ⟨gl, 0, none⟩ = some (.pointer (some ⟨gd, 0, none⟩)) ∧ W.cell? ⟨gl, 1, none⟩ = some (.int .i64 (F : Int)) ∧ W.cell? ⟨gl, 4, none⟩ = some (.int .i64 (M : Int)) := fun W hW => ⟨(hW.cell (p := ⟨gl, 0, none⟩) hgl).trans c0, (hW.cell (p := ⟨gl, 1, none⟩) hgl).trans c1, (hW.cell (p := ⟨gl, 4, none⟩) hgl).trans c4⟩
  have k1 : ∀ W, LD W base gl gd gs gm sv rv L (D.write F (sectorL N [])) → W.cell? ⟨gl, 0, none⟩ = some (.pointer (some ⟨gd, 0, none⟩)) ∧ W.cell? ⟨gl, 1, none⟩ = some (.int .i64 (F : Int)) ∧ W.cell? ⟨gl, 4, none⟩ = some (.int .i64 (M : Int)) := fun W hW => by
    obtain ⟨c0, c1, c2, c3, c4, c5, c6, c7, c8, c9⟩ := hW.log.cells
    rw [HN.out.2.2.1] at c1
    rw [HN.out.2.1] at c4
    exact ⟨c0, c1, c4⟩
  have K := hid k0
  have K1 := hid k1
  clear k0 k1
  go_region_held3 (fun w' => w'.cell? ⟨gl, 0, none⟩ = some (.pointer (some ⟨gd, 0, none⟩)) ∧ w'.cell? ⟨gl, 1, none⟩ = some (.int .i64 (F : Int)) ∧ w'.cell? ⟨gl, 4, none⟩ = some (.int .i64 (M : Int)))
    (first | exact ⟨c0, c1, c4⟩ | exact K1.out _ R2.out.1 | exact K.out _ (by repeat (first | exact R1.out.2 | exact Below.refl _ _ | refine bl_drew ?_)))
    (first
     | (go_at_call 82
        (with_reducible refine Calls.mono (build_any N none 0 0 [] _ HN.out.2.2.2 (RdB.nil _ _) (by omega)) ?_)
        rintro e w1 ⟨g, cap, rfl, hown, hb1⟩
        have R1 : Aside (RdB w1 (some ⟨g, 0, none⟩) 512 (sectorL N []) ∧ Below w.heap.size w w1) := ⟨RdB.of_own hown, bl_undrew hb1⟩
        clear hown hb1)
     | (go_at_call 81
        (with_reducible refine Calls.mono (write_any gd gs gm D F 512 cap _ (sectorL N []) _ (H.out.1.disk.below R1.out.2) H.out.2.1 H.out.2.2.1 H.out.2.2.2.1 (by rw [← HN.out.2.2.1]; exact H.out.2.2.2.2.1) R1.out.1 (by omega)) ?_)
        rintro e w2 ⟨rfl, hD2, hF2⟩
        have R2 : Aside (LD w2 base gl gd gs gm sv rv L (D.write F (sectorL N [])) ∧ Fr (dT gd gs gm) w w2) := ⟨(H.out.1.below R1.out.2).onDisk (fr_dT hF2) hD2, (Fr.of_below R1.out.2 _).trans (fr_dT hF2) (fun _ _ h => h)⟩
        clear hD2 hF2))
  go_wp2_with fail
  have H2 : Aside (Fr (fun b => b = gl ∨ dT gd gs gm b) w w2) := ⟨R2.out.2.mono fun _ _ e => .inr e⟩
  refine (lstep_ok base gl gd gs gm sv rv L _ w2 R2.out.1 H.out.2.2.2.2.2.1).mono ?_
  rintro e w3 ⟨rfl, h3, hF3⟩
  have c03 := h3.log.cells.1
  have H3 : Aside (LD w3 base gl gd gs gm sv rv L (D.write F (sectorL N [])) ∧ Fr (fun b => b = gl ∨ dT gd gs gm b) w w3) := ⟨h3, ld_frames H2.out (.inl hF3)⟩
  clear h3 hF3
  go_wp2_with fail
  have hst := H.out.2.2.2.2.2.2
  refine (sync_any gd gs gm (D.write F (sectorL N [])) w3 H3.out.1.disk (Dk.write_wf H.out.2.1 (by rw [← HN.out.2.2.1]; exact H.out.2.2.2.2.1) (by rw [sectorL_length _ _ (by simp)]; omega) (by omega)) H.out.2.2.1 H.out.2.2.2.1 (by show D.steps + 1 + 1 ≤ _; omega)).mono ?_
  rintro e w4 ⟨rfl, hD4, hF4⟩
  have H4 : Aside (LD w4 base gl gd gs gm sv rv L (D.write F (sectorL N [])).sync ∧ Fr (fun b => b = gl ∨ dT gd gs gm b) w w4) := ⟨H3.out.1.onDisk hF4 hD4, ld_frames H3.out.2 (.inr hF4)⟩
  clear hD4 hF4 hst c03
  go_wp2_with fail
  refine (lstep_ok base gl gd gs gm sv rv L _ w4 H4.out.1 H.out.2.2.2.2.2.1).mono ?_
  rintro e w5 ⟨rfl, h5, hF5⟩
  have H5 : Aside (LD w5 base gl gd gs gm sv rv L (D.write F (sectorL N [])).sync ∧ Fr (fun b => b = gl ∨ dT gd gs gm b) w w5) := ⟨h5, ld_frames H4.out.2 (.inl hF5)⟩
  have cc := h5.log.cells
  have ff := fun i => h5.log.1.frozen i
  have c4 := cc.2.2.2.2.1
  have c3 := cc.2.2.2.1
  have c5 := cc.2.2.2.2.2.1
  have c6 := cc.2.2.2.2.2.2.1
  have c7 := cc.2.2.2.2.2.2.2.1
  have c8 := cc.2.2.2.2.2.2.2.2.1
  rw [HN.out.2.1] at c4
  clear cc h5 hF5
  go_wp2_with fail
  go_ret
  have hb := H5.out.1.log.1
  have hfr : Fr (· = gl) w5 (((((w5.setCell ⟨gl, 4, none⟩ (.int .i64 (N : Int))).setCell ⟨gl, 3, none⟩ (.int .i64 (N : Int))).setCell ⟨gl, 5, none⟩ (.slice none 0 0)).setCell ⟨gl, 6, none⟩ (.int .i64 0)).setCell ⟨gl, 7, none⟩ (.slice none 0 0)) := (((((Fr.refl (· = gl) w5).set (p := ⟨gl, 4, none⟩) (.inl rfl) _).set (p := ⟨gl, 3, none⟩) (.inl rfl) _).set (p := ⟨gl, 5, none⟩) (.inl rfl) _).set (p := ⟨gl, 6, none⟩) (.inl rfl) _).set (p := ⟨gl, 7, none⟩) (.inl rfl) _
  have hfr2 := hfr.set (p := ⟨gl, 8, none⟩) (.inl rfl) (.bool false)
  refine ⟨rfl, H5.out.1.onLog (fr_gl hfr2) ⟨?_, H5.out.1.log.2.1, World.ownsRow_nil _ _ _ _, [], World.ownsRow_nil _ _ _ _⟩, ld_frames H5.out.2 (.inl hfr2)⟩
  have hd := H.out.2.2.2.2.2.1
  have := (((((hb.set_ 4 (.int .i64 (N : Int))).set_ 3 (.int .i64 (N : Int))).set_ 5 (.slice none 0 0)).set_ 6 (.int .i64 0)).set_ 7 (.slice none 0 0)).set_ 8 (.bool false)
  rw [hd, HN.out.2.2.1] at this
  simpa [lgCells] using this
end Go.Proofs.YthfidlhefkjpdaaGreatDoor
