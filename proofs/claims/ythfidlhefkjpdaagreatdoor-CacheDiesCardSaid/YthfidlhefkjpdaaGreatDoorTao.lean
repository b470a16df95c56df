/- wal.Log.load. -/
import Derived.Test.YthfidlhefkjpdaaGreatDoorTan
namespace Go.Proofs.YthfidlhefkjpdaaGreatDoor
open Go.RowKit

structure LdS where
  opn : Bool
  run : Nat
  most : Nat
  stream : List UInt8
def usedOf (p : Option (Nat × List UInt8)) : List UInt8 := match p with | some (_, u) => u | none => []
def runOf (p : Option (Nat × List UInt8)) : Nat := match p with | some (u, _) => u | none => 0
def ldStep (s : LdS) (k : Nat) (sec : List UInt8) : LdS :=
  let lr := if k = 0 then runOf (parseL sec) else s.run
  let o := s.opn && (parseL sec).isSome && decide (runOf (parseL sec) = lr)
  { opn := o && decide ((usedOf (parseL sec)).length = 498), run := lr, most := max s.most (runOf (parseL sec)), stream := if o then s.stream ++ usedOf (parseL sec) else s.stream }
def ldAll (sec : Nat → List UInt8) : Nat → LdS
  | 0 => ⟨true, 0, 0, []⟩
  | k + 1 => ldStep (ldAll sec k) k (sec k)

theorem parseL_bound {bs : List UInt8} {u : Nat} {used : List UInt8} (h : parseL bs = some (u, used)) : 1 ≤ u ∧ u ≤ 274877906944 ∧ used.length ≤ 498 := by
  unfold parseL at h
  split at h
  · rename_i hh
    simp only [Option.some.injEq, Prod.mk.injEq] at h
    obtain ⟨rfl, rfl⟩ := h
    refine ⟨hh.2.1, hh.2.2.1, ?_⟩
    rw [List.length_take]
    have := hh.2.2.2.1
    omega
  · cases h
theorem ld_bound (sec : Nat → List UInt8) : ∀ k, (ldAll sec k).run ≤ 274877906944 ∧ (ldAll sec k).most ≤ 274877906944 ∧ (ldAll sec k).stream.length ≤ 498 * k
  | 0 => by simp [ldAll]
  | k + 1 => by
    obtain ⟨h1, h2, h3⟩ := ld_bound sec k
    have hr : runOf (parseL (sec k)) ≤ 274877906944 := by
      cases h : parseL (sec k) with
      | none => simp [runOf]
      | some p => exact (parseL_bound h).2.1
    have hu : (usedOf (parseL (sec k))).length ≤ 498 := by
      cases h : parseL (sec k) with
      | none => simp [usedOf]
      | some p => exact (parseL_bound h).2.2
    simp only [ldAll, ldStep]
    refine ⟨by split <;> assumption, by omega, ?_⟩
    generalize ((ldAll sec k).opn && (parseL (sec k)).isSome && decide (runOf (parseL (sec k)) = if k = 0 then runOf (parseL (sec k)) else (ldAll sec k).run)) = b
    cases b with
    | true => simp only [if_true, List.length_append]; omega
    | false => simp only [Bool.false_eq_true, if_false]; omega

theorem rd_of_cells {w : World} {g : Nat} {bs : List UInt8} {t : TypeId} (h : w.heap[g]? = some (.cells (cellsB bs) t (0, 0))) : RdB w (some ⟨g, 0, none⟩) bs.length bs := by
  refine ⟨rfl, fun _ => ⟨g, 0, rfl, (Array.getElem?_eq_some_iff.1 h).1, fun i hi => ?_⟩⟩
  unfold World.cell?
  rw [Nat.zero_add]
  simp only [h]
  simp [cellsB, u8, hi]

def lgCells (gd first count run most : Nat) (sv : Value) (safe : Nat) (rv : Value) (old dead : Bool) : Array Value :=
  #[.pointer (some ⟨gd, 0, none⟩), .int .i64 (first : Int), .int .i64 (count : Int), .int .i64 (run : Int), .int .i64 (most : Int), sv, .int .i64 (safe : Int), rv, .bool old, .bool dead]

theorem b498 (n : Nat) : ((n : Int) == 498) = decide (n = 498) := by rw [Bool.eq_iff_iff]; simp only [beq_iff_eq, decide_eq_true_eq]; omega
/-- The log's block, its stream, and what was left alone since w. -/
def LogW (w w' : World) (gl : Nat) (cs : Array Value) (sv : Value) (st : List UInt8) : Prop :=
  Blk w' gl 89 cs ∧ w'.ownsRow w.heap.size 5 1 sv st.length (st.map u8) ∧ Fr (· = gl) w w'
theorem LogW.set {w w' : World} {gl : Nat} {cs : Array Value} {sv : Value} {st : List UInt8} (h : LogW w w' gl cs sv st) (i : Nat) (u : Value) :
    LogW w (w'.setCell ⟨gl, i, none⟩ u) gl (cs.setIfInBounds i u) sv st := by
  have hF : Fr (· = gl) w' (w'.setCell ⟨gl, i, none⟩ u) := (Fr.refl (· = gl) w').set (p := ⟨gl, i, none⟩) (.inl rfl) u
  exact ⟨h.1.set_ i u, own_fr h.2.1 hF (fun b hb e => by subst e; exact (own_ty h.2.1 hb).ne h.1.ty (by decide)), h.2.2.trans hF (fun _ _ h => h)⟩
theorem LogW.app {w w' w2 : World} {gl : Nat} {cs : Array Value} {sv sv' : Value} {st st' : List UInt8} (h : LogW w w' gl cs sv st) (hlt : gl < w.heap.size)
    (ho : w2.ownsRow w.heap.size 5 1 sv' st'.length (st'.map u8)) (hg : w'.grownBy w2 sv.ownBlock) : LogW w w2 gl cs sv' st' := by
  have hb : Below w.heap.size w' w2 := grown_below hg h.2.1 h.2.2.size
  exact ⟨h.1.below hb hlt, ho, ⟨hb.os.trans h.2.2.os, hb.tape.trans h.2.2.tape, hb.output.trans h.2.2.output, Nat.le_trans h.2.2.size hb.size, fun b hb' hn => (hb.block b hb').trans (h.2.2.block b hb' hn)⟩⟩

set_option maxRecDepth 100000 in
set_option maxHeartbeats 1000000 in
theorem lload_any (gl gd gs gm : Nat) (D : Dk) (first count : Nat) (w : World) (hB : Blk w gl 89 (lgCells gd first count 0 0 (.slice none 0 0) 0 (.slice none 0 0) true false))
    (hD : DiskAt w gd gs gm D) (hw : D.wf) (hoff : D.off = false) (hf : first + count ≤ D.sec.length) :
    Calls Tryz.prog 83 #[.pointer (some ⟨gl, 0, none⟩)] w fun e w' => e = .returned (.int .i64 (if (ldAll (fun k => D.has (first + k)) count).run = 0 then 6 else 0)) ∧
      ∃ sv, Blk w' gl 89 (lgCells gd first count (ldAll (fun k => D.has (first + k)) count).run (ldAll (fun k => D.has (first + k)) count).most sv 0 (.slice none 0 0) true false) ∧
        w'.ownsRow w.heap.size 5 1 sv (ldAll (fun k => D.has (first + k)) count).stream.length ((ldAll (fun k => D.has (first + k)) count).stream.map u8) ∧ Fr (· = gl) w w' := by
  have hnn := hw.n
  have c2 := hB.cell 2
  simp [lgCells] at c2
  have hgl := hB.lt
  have H : Aside (DiskAt w gd gs gm D ∧ D.wf ∧ D.off = false ∧ first + count ≤ D.sec.length ∧ gl ≠ gd ∧ gl ≠ gs ∧ gl ≠ gm) := ⟨hD, hw, hoff, hf, hD.ne hB.ty (by decide) (by decide)⟩
  have hc1 : first + count ≤ 4096 := by omega
  obtain ⟨S, hS⟩ : ∃ S, (fun k => D.has (first + k)) = S := ⟨_, rfl⟩
  rw [hS]
  have hS := hid hS
  obtain ⟨z, hz⟩ : ∃ z : Int, (if (ldAll S count).run = 0 then 6 else 0) = z := ⟨_, rfl⟩
  rw [hz]
  have HZ := hid hz
  clear hz
  have HB : Aside (Blk w gl 89 (lgCells gd first count 0 0 (.slice none 0 0) 0 (.slice none 0 0) true false)) := ⟨hB⟩
  clear hD hw hoff hf hnn hB
  go_enter Tryz.func83, Tryz.ntmps83
  go_wp2_with fail
  go_loopg [3, 14] count (fun q o i wr => ∃ k : Nat, k + q = count ∧ o = .bool (ldAll S k).opn ∧ i = .int .i64 (k : Nat) ∧ Hid (∃ sv, LogW w wr gl (lgCells gd first count (ldAll S k).run (ldAll S k).most sv 0 (.slice none 0 0) true false) sv (ldAll S k).stream))
  case atStart => exact ⟨0, by omega, rfl, rfl, _, HB.out, World.ownsRow_nil _ _ _ _, Fr.refl _ _⟩
  case round =>
    obtain ⟨k, hk, rfl, rfl, hI⟩ := hrel
    by_cases hlt : k < count
    · obtain ⟨sv, hB, hO, hF⟩ := hI.out
      clear hI
      have hbd := ld_bound S k
      obtain ⟨s, hs⟩ : ∃ s, ldAll S k = s := ⟨_, rfl⟩
      rw [hs] at hB hO hbd ⊢
      obtain ⟨o, r0, m0, st⟩ := s
      simp only at hB hO hbd ⊢
      have hDr := H.out.1.fr hF (fun b hb => by subst hb; exact H.out.2.2.2.2) (fun b hb e => by subst e; exact hb.ne HB.out.ty (by decide))
      obtain ⟨j, hj⟩ : ∃ j, first + k = j := ⟨_, rfl⟩
      have hjw : IntKind.i64.wrap ((first : Int) + (k : Int)) = (j : Int) := by rw [wrap_nat (by omega) (by omega)]; omega
      have hSk : S k = D.has j := by rw [← hS.out, ← hj]
      have c0 := hB.cell 0
      have c1 := hB.cell 1
      simp [lgCells] at c0 c1
      have hglr : gl < wr.heap.size := hB.lt
      have hSj : j < D.sec.length := by have := H.out.2.2.2.1; omega
      have HR : Aside (Blk wr gl 89 (lgCells gd first count r0 m0 sv 0 (.slice none 0 0) true false) ∧ wr.ownsRow w.heap.size 5 1 sv st.length (st.map Go.Proofs.YthfidlhefkjpdaaGreatDoor.u8) ∧ Fr (· = gl) w wr ∧ DiskAt wr gd gs gm D ∧ first + k = j ∧ S k = D.has j ∧ j < D.sec.length ∧ ldAll S k = ⟨o, r0, m0, st⟩) := ⟨hB, hO, hF, hDr, hj, hSk, hSj, hs⟩
      clear hB hO hF hDr hj hSk hSj hs
      go_wp2_with fail
      go_region_held3 (fun w' => w'.cell? ⟨gl, 0, none⟩ = some (.pointer (some ⟨gd, 0, none⟩)) ∧ w'.cell? ⟨gl, 1, none⟩ = some (.int .i64 (first : Int)))
        (first | exact ⟨c0, c1⟩ | exact ⟨(R2.out.2.cell (p := ⟨gl, 0, none⟩) hglr).trans c0, (R2.out.2.cell (p := ⟨gl, 1, none⟩) hglr).trans c1⟩)
        ((go_at_call 30
          (with_reducible refine Calls.mono (read_any gd gs gm D j _ ?_ H.out.2.1 H.out.2.2.1 HR.out.2.2.2.2.2.2.1) ?_)
          · exact HR.out.2.2.2.1.below (by repeat (first | exact Below.refl _ _ | refine bl_drew ?_))
          rintro e w2 ⟨g, rfl, hg1, hg2, hb2⟩
          have R2 : Aside (w2.heap[g]? = some (.cells (cellsB (D.has j)) 113 (0, 0)) ∧ Below wr.heap.size wr w2) := ⟨hg1, bl_undrew hb2⟩
          clear hg1 hg2 hb2))
      obtain ⟨qB, qO, qF, qD, qj, qS, qjl, qs⟩ := HR.out
      have hlen : (D.has j).length = 512 := Dk.has_len H.out.2.1 qjl
      have hRd : RdB w2 (some ⟨g, 0, none⟩) 512 (D.has j) := by
        have := rd_of_cells R2.out.1
        rwa [hlen] at this
      have HD2 : Aside (RdB w2 (some ⟨g, 0, none⟩) 512 (D.has j)) := ⟨hRd⟩
      clear qB qO qF qD qS qs hlen hRd qj qjl c0 c1
      go_wp2_with fail
      refine (wparse_any _ 512 (D.has j) w2 HD2.out (by omega) (by omega)).mono ?_
      rintro e w3 ⟨r, v, rfl, hb3, hr0, hr1, hsome⟩
      obtain ⟨qB, qO, qF, qD, qj, qS, qjl, qs⟩ := HR.out
      have hz2 := R2.out.2.size
      have hb23 : Below wr.heap.size wr w3 := R2.out.2.trans (hb3.mono R2.out.2.size)
      have hB3 := qB.below hb23 qB.lt
      have c3 := hB3.cell 3
      have c4 := hB3.cell 4
      have c5 := hB3.cell 5
      have f3 := hB3.frozen 3
      have f4 := hB3.frozen 4
      have f5 := hB3.frozen 5
      simp [lgCells] at c3 c4 c5
      have hO3 := own_fr qO (Fr.of_below hb23 (fun _ => False)) (fun _ _ h => h)
      have hF3 := qF.trans (Fr.of_below hb23 (fun _ => False)) (fun _ _ h => h.elim)
      have H3 : Aside (Blk w3 gl 89 (lgCells gd first count r0 m0 sv 0 (.slice none 0 0) true false) ∧ w3.ownsRow w.heap.size 5 1 sv st.length (st.map Go.Proofs.YthfidlhefkjpdaaGreatDoor.u8) ∧ Fr (· = gl) w w3 ∧ S k = D.has j ∧ ldAll S k = ⟨o, r0, m0, st⟩) := ⟨hB3, hO3, hF3, qS, qs⟩
      obtain ⟨h1, h2, h3⟩ := hbd
      clear qB qO qF qD qS qs qj qjl hb23 hB3 hO3 hF3 HR R2 HD2 hb3
      have hL3 : Aside (LogW w w3 gl (lgCells gd first count r0 m0 sv 0 (.slice none 0 0) true false) sv st) := ⟨⟨H3.out.1, H3.out.2.1, H3.out.2.2.1⟩⟩
      have hst : ldAll S (k + 1) = ldStep ⟨o, r0, m0, st⟩ k (D.has j) := by rw [ldAll, H3.out.2.2.2.2, H3.out.2.2.2.1]
      cases hp : parseL (D.has j) with
      | none =>
        clear hsome
        rcases Nat.eq_zero_or_pos k with rfl | hk0
        · have hst2 : Aside (ldAll S 1 = ⟨false, 0, m0, st⟩) := ⟨by rw [hst]; simp [ldStep, hp, runOf]⟩
          clear hst
          cases o
          all_goals
            go_wp2_with fail
            go_roundg (count - 1)
            case rel =>
              refine ⟨1, by omega, by rw [hst2.out], rfl, ?_⟩
              rw [hst2.out]
              exact ⟨sv, by simpa [lgCells] using (hL3.out.set 3 (.int .i64 0)).set 4 (.int .i64 (m0 : Int))⟩
            case measure => omega
        · have hst2 : Aside (ldAll S (k + 1) = ⟨false, r0, m0, st⟩) := ⟨by rw [hst]; simp [ldStep, hp, runOf]; omega⟩
          have hk1 : ((k : Int) == 0) = false := by simp; omega
          clear hst
          cases o
          all_goals
            go_wp2_with fail
            go_roundg (count - 1 - k)
            case rel =>
              refine ⟨k + 1, by omega, by rw [hst2.out], by go_num, ?_⟩
              rw [hst2.out]
              exact ⟨sv, by simpa [lgCells] using hL3.out.set 4 (.int .i64 (m0 : Int))⟩
            case measure => omega
      | some p =>
        obtain ⟨u, used⟩ := p
        obtain ⟨rfl, gu, cu, rfl, hgu, hcu, hcm, hRu⟩ := hsome u used hp
        obtain ⟨hu1, hu2, hu3⟩ := parseL_bound hp
        clear hsome
        have hfin : ∀ (w' : World) (k : Nat) (b : Bool) (r m : Nat) (cs : Array Value) (sv : Value) (s : List UInt8), ldAll S k = ⟨b, r, m, s⟩ → LogW w w' gl cs sv s → cs = lgCells gd first count r m sv 0 (.slice none 0 0) true false →
            Hid (∃ sv, LogW w w' gl (lgCells gd first count (ldAll S k).run (ldAll S k).most sv 0 (.slice none 0 0) true false) sv (ldAll S k).stream) := by
          rintro w' k b r m cs sv s h1 h2 rfl
          rw [h1]
          exact ⟨sv, h2⟩
        rcases Nat.eq_zero_or_pos k with rfl | hk0
        · cases o
          · have hst2 : Aside (ldAll S 1 = ⟨false, u, max m0 u, st⟩) := ⟨by rw [hst]; simp [ldStep, hp, runOf]⟩
            clear hst
            go_wp2_with fail
            all_goals
              go_roundg (count - 1)
              case rel =>
                refine ⟨1, by omega, by rw [hst2.out], rfl, hfin _ 1 _ _ _ _ sv _ hst2.out ((hL3.out.set 3 _).set 4 _) ?_⟩
                first | rw [show max m0 u = m0 by omega] | rw [show max m0 u = u by omega]
                simp [lgCells]
              case measure => omega
          · -- the first sector
            have hst2 : Aside (ldAll S (1) = ⟨decide (used.length = 498), u, max m0 u, st ++ used⟩) := ⟨by rw [hst]; simp [ldStep, hp, runOf, usedOf]⟩
            obtain ⟨Wx, hWx⟩ : ∃ Wx, w3.setCell ⟨gl, 3, none⟩ (.int .i64 (u : Int)) = Wx := ⟨_, rfl⟩
            have HX : Aside (LogW w Wx gl ((lgCells gd first count r0 m0 sv 0 (.slice none 0 0) true false).setIfInBounds 3 (.int .i64 (u : Int))) sv st) := ⟨by rw [← hWx]; exact hL3.out.set 3 _⟩
            have HRX : Aside (RdB Wx (some ⟨gu, 10, none⟩) used.length used) := ⟨by
              rw [← hWx]
              refine hRu.fr ((Fr.refl (· = gl) w3).set (p := ⟨gl, 3, none⟩) (.inl rfl) _) ?_
              rintro b o h0 e rfl
              injection e with e
              injection e with e1 e2
              have := hgu
              omega⟩
            have c5x := HX.out.1.cell 5
            have c3x := HX.out.1.cell 3
            simp [lgCells] at c5x c3x
            have hkc : count ≤ 4096 := by omega
            clear hst
            go_wp2_with (
              (with_reducible refine wpList_app_bytes (o := ⟨some 67, _, _, _, _, _⟩) rfl (.tmp 65) (.tmp 66) rfl w.heap.size sv st.length st rfl ?_ (some ⟨gu, 10, none⟩) used.length cu used rfl ?_ ?_ ?_ ?_)
              · exact HX.out.2.1
              · exact HRX.out
              · omega
              · exact HX.out.2.2.size
              intro A' cap w6 ho hg _
              have HL6 : Aside (LogW w w6 gl ((lgCells gd first count r0 m0 sv 0 (.slice none 0 0) true false).setIfInBounds 3 (.int .i64 (u : Int))) (.slice A' (st.length + used.length) cap) (st ++ used)) := ⟨HX.out.app hgl (by rw [List.length_append]; exact ho) hg⟩
              have c46 := HL6.out.1.cell 4
              have f46 := HL6.out.1.frozen 4
              have f56 := HL6.out.1.frozen 5
              have c56 := HL6.out.1.cell 5
              simp [lgCells] at c46 c56
              clear ho hg)
            all_goals
              go_roundg (count - 1)
              case rel =>
                refine ⟨1, by omega, by rw [hst2.out]; first | done | exact congrArg Value.bool (b498 _), rfl, hfin _ (1) _ _ _ _ (.slice A' (st.length + used.length) cap) _ hst2.out ((HL6.out.set 5 _).set 4 _) ?_⟩
                first | rw [show max m0 u = m0 by omega] | rw [show max m0 u = u by omega]
                simp [lgCells]
              case measure => omega
        · have hk1 : ((k : Int) == 0) = false := by simp; omega
          have hk0n : ¬ k = 0 := by omega
          cases o
          · have hst2 : Aside (ldAll S (k + 1) = ⟨false, r0, max m0 u, st⟩) := ⟨by rw [hst]; simp [ldStep, hp, runOf, hk0n]⟩
            clear hst
            go_wp2_with fail
            all_goals
              go_roundg (count - 1 - k)
              case rel =>
                refine ⟨k + 1, by omega, by rw [hst2.out], by go_num, hfin _ (k + 1) _ _ _ _ sv _ hst2.out (hL3.out.set 4 _) ?_⟩
                first | rw [show max m0 u = m0 by omega] | rw [show max m0 u = u by omega]
                simp [lgCells]
              case measure => omega
          by_cases hur : u = r0
          · subst hur
            have hst2 : Aside (ldAll S (k + 1) = ⟨decide (used.length = 498), u, max m0 u, st ++ used⟩) := ⟨by rw [hst]; simp [ldStep, hp, runOf, usedOf, hk0n]⟩
            have HX : Aside (LogW w w3 gl (lgCells gd first count u m0 sv 0 (.slice none 0 0) true false) sv st) := ⟨hL3.out⟩
            have HRX : Aside (RdB w3 (some ⟨gu, 10, none⟩) used.length used) := ⟨hRu⟩
            clear hRu
            have c5x := HX.out.1.cell 5
            have c3x := HX.out.1.cell 3
            simp [lgCells] at c5x c3x
            have hkc : k ≤ 4096 := by omega
            clear hst
            go_wp2_with (
              (with_reducible refine wpList_app_bytes (o := ⟨some 67, _, _, _, _, _⟩) rfl (.tmp 65) (.tmp 66) rfl w.heap.size sv st.length st rfl ?_ (some ⟨gu, 10, none⟩) used.length cu used rfl ?_ ?_ ?_ ?_)
              · exact HX.out.2.1
              · exact HRX.out
              · omega
              · exact HX.out.2.2.size
              intro A' cap w6 ho hg _
              have HL6 : Aside (LogW w w6 gl (lgCells gd first count u m0 sv 0 (.slice none 0 0) true false) (.slice A' (st.length + used.length) cap) (st ++ used)) := ⟨HX.out.app hgl (by rw [List.length_append]; exact ho) hg⟩
              have c46 := HL6.out.1.cell 4
              have f46 := HL6.out.1.frozen 4
              have f56 := HL6.out.1.frozen 5
              have c56 := HL6.out.1.cell 5
              simp [lgCells] at c46 c56
              clear ho hg)
            all_goals
              go_roundg (count - 1 - k)
              case rel =>
                refine ⟨k + 1, by omega, by rw [hst2.out]; first | done | exact congrArg Value.bool (b498 _), by go_num, hfin _ (k + 1) _ _ _ _ (.slice A' (st.length + used.length) cap) _ hst2.out ((HL6.out.set 5 _).set 4 _) ?_⟩
                first | rw [show max m0 u = m0 by omega] | rw [show max m0 u = u by omega]
                simp [lgCells]
              case measure => omega
          · have hst2 : Aside (ldAll S (k + 1) = ⟨false, r0, max m0 u, st⟩) := ⟨by rw [hst]; simp [ldStep, hp, runOf, hk0n, hur]⟩
            have hur1 : ((u : Int) == (r0 : Int)) = false := by simp; omega
            clear hst
            go_wp2_with fail
            all_goals
              go_roundg (count - 1 - k)
              case rel =>
                refine ⟨k + 1, by omega, by rw [hst2.out], by go_num, hfin _ (k + 1) _ _ _ _ sv _ hst2.out (hL3.out.set 4 _) ?_⟩
                first | rw [show max m0 u = m0 by omega] | rw [show max m0 u = u by omega]
                simp [lgCells]
              case measure => omega
    · obtain rfl : k = count := by omega
      obtain ⟨sv, hL⟩ := hI.out
      have c3 := hL.1.cell 3
      simp [lgCells] at c3
      have HL := hid hL
      clear hL hI
      have hz := HZ.out
      clear HZ
      rcases Nat.eq_zero_or_pos (ldAll S k).run with h0 | h0
      · rw [if_pos h0] at hz
        rw [h0] at c3
        have h0 := hid h0
        go_wp2_with fail
        go_ret
        subst hz
        exact ⟨rfl, sv, HL.out⟩
      · rw [if_neg (by omega)] at hz
        have hzz : (((ldAll S k).run : Int) == 0) = false := by simp; omega
        have h0 := hid h0
        go_wp2_with fail
        go_ret
        subst hz
        exact ⟨rfl, sv, HL.out⟩
end Go.Proofs.YthfidlhefkjpdaaGreatDoor
