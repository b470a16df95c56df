/- The keys of a map in order: slices.Sorted(maps.Keys(m)).
   cache.dirty, Frames.
   cache.Dirty, cache.Frames.
   cache.Flush where nothing is refused. -/
import Derived.Test.YthfidlhefkjpdaaGreatDoorKy
import Derived.Test.YthfidlhefkjpdaaGreatDoorTab
import Derived.Test.YthfidlhefkjpdaaGreatDoorTbd
namespace Go.Proofs.YthfidlhefkjpdaaGreatDoor
open Go.RowKit Go.Maps Go.Sort Go.Shelf

/-- ks are the keys of m, rising. -/
def KeysOf {α : Type} (m : Int → Option α) (ks : List Int) : Prop := ks.Pairwise (· < ·) ∧ ∀ k, k ∈ ks ↔ (m k).isSome = true

theorem KeysOf.uniq {α : Type} {m : Int → Option α} {a b : List Int} (h : KeysOf m a) (k : KeysOf m b) : a = b := by
  have hp : a.Perm b := (List.perm_ext_iff_of_nodup (h.1.imp fun {x y} h => by omega) (k.1.imp fun {x y} h => by omega)).2 fun x => (h.2 x).trans (k.2 x).symm
  exact hp.eq_of_pairwise (le := (· < ·)) (fun x y _ _ h1 h2 => by omega) h.1 k.1

section
variable {P : Program} {kt : TypeId} {w : World} {b n : Nat} {m : Int → Option Value}

theorem keys_facts {D : DV} (hown : w.ownsMap P kt heldV b n D) (hk : P.underlying kt = some (.int .i64)) : (intKeys D).Nodup ∧ (∀ x, x ∈ intKeys D ↔ has D (.int .i64 x) = true) ∧ (intKeys D).length = Maps.size D := by
  obtain ⟨es, hD, hpw, _⟩ := hown.entries (int_keyed hk)
  obtain ⟨es', hD', hko⟩ := hown.keysOf
  obtain rfl : es = es' := by rw [hD] at hD'; simpa using hD'
  subst hD
  have hkk : ∀ p ∈ es, ∃ x, p.1 = .int .i64 x := fun p hp => by
    obtain ⟨v, hv⟩ := hko p hp
    obtain ⟨x, _, hx, _⟩ := Maps.keyOf_i64 hk hv
    exact ⟨x, hx⟩
  refine ⟨?_, fun x => ?_, by simp [intKeys, Maps.size]⟩
  · show (es.map fun p => Go.intOf p.1).Nodup
    refine List.pairwise_map.2 (hpw.imp_of_mem fun {p q} hp' hq' hne e => hne ?_)
    obtain ⟨a, ha⟩ := hkk p hp'
    obtain ⟨b, hb⟩ := hkk q hq'
    rw [ha, hb] at e ⊢
    exact congrArg _ e
  · rw [has_eq, List.any_eq_true]
    show x ∈ es.map (fun p => Go.intOf p.1) ↔ _
    rw [List.mem_map]
    constructor
    · rintro ⟨p, hp', rfl⟩
      obtain ⟨a, ha⟩ := hkk p hp'
      exact ⟨p, hp', by rw [ha]; simp [Lit.sameKey, Go.intOf]⟩
    · rintro ⟨p, hp', hs⟩
      obtain ⟨a, ha⟩ := hkk p hp'
      rw [ha] at hs
      exact ⟨p, hp', by rw [ha]; simpa [Lit.sameKey, Go.intOf] using hs⟩

theorem keys_sorted {ks : List Int} {D : DV} (hown : w.ownsMap P kt heldV b n D) (hk : P.underlying kt = some (.int .i64)) (hp : ks.Perm (intKeys D)) (hm : ∀ k, has D (.int .i64 k) = (m k).isSome) : KeysOf m (ks.mergeSort leI) := by
  obtain ⟨h1, h2, _⟩ := keys_facts hown hk
  have tr : ∀ a b c : Int, leI a b = true → leI b c = true → leI a c = true := fun a b c h1 h2 => by simp only [leI, decide_eq_true_eq] at *; exact Int.le_trans h1 h2
  have to : ∀ a b : Int, (leI a b || leI b a) = true := fun a b => by simp only [leI, Bool.or_eq_true, decide_eq_true_eq]; exact Int.le_total a b
  have hs := List.pairwise_mergeSort tr to ks
  have hq : (ks.mergeSort leI).Perm (intKeys D) := (List.mergeSort_perm ks leI).trans hp
  refine ⟨?_, fun k => ?_⟩
  · have hnd : (ks.mergeSort leI).Nodup := hq.nodup_iff.2 h1
    refine (List.Pairwise.and hs hnd).imp fun {a b} h => ?_
    have := h.1
    have := h.2
    simp only [leI, decide_eq_true_eq] at *
    omega
  · rw [hq.mem_iff, h2, hm]

/-- The map has a list of keys; len tells how many. -/
theorem MapAt.keys (h : MapAt P kt w b n m) (hk : P.underlying kt = some (.int .i64)) : ∃ ks, KeysOf m ks ∧ (∀ k ∈ ks, wf64 k) ∧ ∀ {t e : TypeId} (_ : P.underlying t = some (.map kt e)) (ty : TypeId), (Builtin.len_ #[t] ty #[.map (some b)]).run P w = .ok (.int .i64 (ks.length : Int)) w := by
  obtain ⟨D, h1, h2, h3⟩ := h
  refine ⟨_, keys_sorted h1 hk (List.Perm.refl _) h3, fun k hm => ?_, fun ht ty => ?_⟩
  · have := intKeys_wf h1 hk k ((List.mergeSort_perm _ _).mem_iff.1 hm)
    simp only [Lit.wf, Bool.and_eq_true, decide_eq_true_eq] at this
    exact ⟨this.1, this.2⟩
  · rw [List.length_mergeSort, (keys_facts h1 hk).2.2]
    exact h1.len ht ty
end

theorem sorts_int (m : Nat) : AnyZI.SortsIn Tryz.prog Tryz.sortedI_ren Fence.wide m :=
  ⟨fun blk off cap ss W hH hblk hsz => callsIn_wide.2 (AnyM.slices_Sort_int Tryz.sortI blk off cap ss W hH hblk hsz),
   fun p cap W => callsIn_wide.2 (AnyM.slices_Sort_int_none Tryz.sortI p cap W)⟩

theorem keysF_any (b : Nat) (w : World) : Calls Tryz.prog 88 #[.map (some b)] w fun e w' =>
    e = .returned (.func (.func 124) #[] #[.pointer (some ⟨w.heap.size, 0, none⟩)]) ∧ w' = w.alloc (.cells #[.map (some b)] 102) :=
  (callsIn_wide (n := 5)).1 (AnyZI.keys_in Tryz.keysF Fence.wide 5 trivial rfl (some b) w)
theorem keysP_any (b : Nat) (w : World) : Calls Tryz.prog 69 #[.map (some b)] w fun e w' =>
    e = .returned (.func (.func 107) #[] #[.pointer (some ⟨w.heap.size, 0, none⟩)]) ∧ w' = w.alloc (.cells #[.map (some b)] 103) :=
  (callsIn_wide (n := 5)).1 (AnyZI.keys_in Tryz.keysP Fence.wide 5 trivial rfl (some b) w)

set_option maxRecDepth 100000 in
theorem sortedF_any (b n : Nat) (m : Int → Option Value) (w : World) (hm : MapAt Tryz.prog 3 w b n m) (hn : n ≤ 1099511627776) :
    Calls Tryz.prog 68 #[.func (.func 124) #[] #[.pointer (some ⟨w.heap.size, 0, none⟩)]] (w.alloc (.cells #[.map (some b)] 102)) fun e w' =>
      ∃ v ks, e = .returned v ∧ KeysOf m ks ∧ w'.ownsRow (w.heap.size + 1) 3 1 v ks.length (ks.map (Value.int .i64)) ∧ Below (w.heap.size + 1) (w.alloc (.cells #[.map (some b)] 102)) w' := by
  obtain ⟨D, hown, h2, h3⟩ := hm
  have hbl := hown.lt
  have hsz : Maps.size D ≤ n := hown.size_le
  have hseq : SeqGives Fence.wide 2 Tryz.prog 124 #[.pointer (some ⟨w.heap.size, 0, none⟩)] encZ (fun ss => ss.Perm (intKeys D)) (Maps.size D) (w.alloc (.cells #[.map (some b)] 102)) :=
    AnyZI.keys_gives (ρ := Tryz.keysF_ren) { Tryz.keysF with } Fence.wide _ trivial rfl (by omega) w.heap.size b n D _ (by simp) (by simp) (by
      obtain ⟨es, clock, hb, Ft, hs, hD⟩ := hown
      exact ⟨es, clock, (Below.heap_alloc _ _ b hbl).trans hb, Ft, hs, hD⟩)
  have cS := AnyZI.sorted_in Tryz.sortedI Fence.wide 5 trivial trivial trivial trivial rfl (by omega) (sorts_int _) (enters_of Tryz.func106 (by kernel_rfl) rfl) 124 #[.pointer (some ⟨w.heap.size, 0, none⟩)] trivial (enters_of Tryz.func124 (by kernel_rfl) rfl) _ _ (by unfold maxLen; omega) (by omega) _ hseq
  refine ((callsIn_wide (n := 5)).1 cS).mono ?_
  rintro e w' ⟨v, ss, rfl, hS, hrow, -, hb⟩
  refine ⟨v, ss.mergeSort leI, rfl, keys_sorted hown Tryz.underlying3 hS h3, ?_, ?_⟩
  · rw [List.length_mergeSort]
    have := hrow
    rw [World.size_alloc] at this
    exact this
  · have := hb
    rw [World.size_alloc] at this
    exact this

set_option maxRecDepth 100000 in
theorem sortedP_any (b n : Nat) (m : Int → Option Value) (w : World) (hm : MapAt Tryz.prog 3 w b n m) (hn : n ≤ 1099511627776) :
    Calls Tryz.prog 68 #[.func (.func 107) #[] #[.pointer (some ⟨w.heap.size, 0, none⟩)]] (w.alloc (.cells #[.map (some b)] 103)) fun e w' =>
      ∃ v ks, e = .returned v ∧ KeysOf m ks ∧ w'.ownsRow (w.heap.size + 1) 3 1 v ks.length (ks.map (Value.int .i64)) ∧ Below (w.heap.size + 1) (w.alloc (.cells #[.map (some b)] 103)) w' := by
  obtain ⟨D, hown, h2, h3⟩ := hm
  have hbl := hown.lt
  have hsz : Maps.size D ≤ n := hown.size_le
  have hseq : SeqGives Fence.wide 2 Tryz.prog 107 #[.pointer (some ⟨w.heap.size, 0, none⟩)] encZ (fun ss => ss.Perm (intKeys D)) (Maps.size D) (w.alloc (.cells #[.map (some b)] 103)) :=
    AnyZI.keys_gives (ρ := Tryz.keysP_ren) { Tryz.keysP with } Fence.wide _ trivial rfl (by omega) w.heap.size b n D _ (by simp) (by simp) (by
      obtain ⟨es, clock, hb, Ft, hs, hD⟩ := hown
      exact ⟨es, clock, (Below.heap_alloc _ _ b hbl).trans hb, Ft, hs, hD⟩)
  have cS := AnyZI.sorted_in Tryz.sortedI Fence.wide 5 trivial trivial trivial trivial rfl (by omega) (sorts_int _) (enters_of Tryz.func106 (by kernel_rfl) rfl) 107 #[.pointer (some ⟨w.heap.size, 0, none⟩)] trivial (enters_of Tryz.func107 (by kernel_rfl) rfl) _ _ (by unfold maxLen; omega) (by omega) _ hseq
  refine ((callsIn_wide (n := 5)).1 cS).mono ?_
  rintro e w' ⟨v, ss, rfl, hS, hrow, -, hb⟩
  refine ⟨v, ss.mergeSort leI, rfl, keys_sorted hown Tryz.underlying3 hS h3, ?_, ?_⟩
  · rw [List.length_mergeSort]
    have := hrow
    rw [World.size_alloc] at this
    exact this
  · have := hb
    rw [World.size_alloc] at this
    exact this
end Go.Proofs.YthfidlhefkjpdaaGreatDoor

namespace Go.Proofs.YthfidlhefkjpdaaGreatDoor
open Go.RowKit Go.Maps

theorem infoPtr : (Tryz.prog.info? 94).map (fun i => (i.zero, i.size, i.bytes)) = some (some (.pointer none), 1, 8) := by kernel_rfl

theorem wpList_app_ptr {ops : Array Oper} {rest : List Oper} {o : Oper} {a : Act} {Q : Exit → Act → World → Prop} {W : World} (hgd : o.guard = none) (s x : Operand)
    (ho : o.op = .call { callee := .builtin .append, args := #[s, x], argTypes := #[92, 92] }) (base : Nat) (v : Value) (bs : List Nat) (z g n c : Nat) (hs : a.eval s = v)
    (hO : W.ownsRow base 94 1 v bs.length (ptrs bs)) (hx : a.eval x = .slice (some ⟨g, 0, none⟩) n c) (hn : n = 1) (hg : W.heap[g]? = some (.cells #[.pointer (some ⟨z, 0, none⟩)] 94 (0, 0))) (hl : bs.length ≤ 1000000) (hb : base ≤ W.heap.size)
    (h : ∀ v' w', w'.ownsRow base 94 1 v' (bs.length + 1) (ptrs (bs ++ [z])) → W.grownBy w' v.ownBlock → wpList Tryz.prog ops Q rest (a.put o.dst v') w') : wpList Tryz.prog ops Q (o :: rest) a W := by
  subst hn
  obtain ⟨i0, hi, hz0, hz1, hz2⟩ := info_parts infoPtr
  refine wpList_append_own_at W hgd s x 92 ho base 94 i0 (.pointer none) 1 8 Tryz.underlying92 hi hz0 hz1 hz2 rfl (by decide) v bs.length _ hs hO ⟨g, 0, none⟩ 1 c [.pointer (some ⟨z, 0, none⟩)] hx rfl
    (fun j u hj => ?_) (by simp [Value.oneCell']) (by unfold maxLen; omega) (by omega) hb (fun v' w' hown hgr _ _ => ?_)
  · exact World.news_of_block (cs := #[.pointer (some ⟨z, 0, none⟩)]) hg j u hj
  · exact h _ _ (by simp only [ptrs, List.map_append] at hown ⊢; exact hown) hgr

def dirtyOf (P : Pl) (i : Nat) : Bool := match P.frames[i]? with | some f => f.dirty | none => false
/-- The dirty frames among these pages. -/
def dirtyIx (P : Pl) (ks : List Int) : List Nat := (ks.filterMap P.atm).filter (dirtyOf P)
theorem dirtyIx_nil (P : Pl) : dirtyIx P [] = [] := rfl
theorem dirtyIx_snoc (P : Pl) (ks : List Int) (k : Int) (i : Nat) (h : P.atm k = some i) : dirtyIx P (ks ++ [k]) = if dirtyOf P i = true then dirtyIx P ks ++ [i] else dirtyIx P ks := by
  simp only [dirtyIx, List.filterMap_append, List.filter_append]
  simp only [List.filterMap_cons, List.filterMap_nil, h]
  by_cases hd : dirtyOf P i = true <;> simp [hd]
theorem dirtyIx_len (P : Pl) (ks : List Int) : (dirtyIx P ks).length ≤ ks.length := Nat.le_trans (List.length_filter_le _ _) (List.length_filterMap_le _ _)

theorem keys_atm {a : Ad} {P : Pl} {ks : List Int} (h : KeysOf (atV a.bk P.atm) ks) : KeysOf P.atm ks := ⟨h.1, fun k => by rw [h.2 k]; unfold atV; cases P.atm k <;> rfl⟩
theorem ints_row {w : World} {base n : Nat} {v : Value} {ks : List Int} {g c : Nat} (h : w.ownsRow base 3 1 v n (ks.map (Value.int .i64))) (hv : v = .slice (some ⟨g, 0, none⟩) n c) {k : Nat} (hk : k < ks.length) : w.cell? ⟨g, k, none⟩ = some (.int .i64 ks[k]) := by
  subst hv
  have hl : ks.length = n := by have := h.1; simpa using this
  rw [h.cellAt k (by omega), List.getElem?_map, List.getElem?_eq_getElem hk]
  rfl

theorem PWf.nodup {P : Pl} (h : PWf P) : (P.frames.map Frm.n).Nodup := by
  refine List.pairwise_iff_getElem.2 fun i j hi hj hij e => ?_
  simp only [List.length_map] at hi hj
  simp only [List.getElem_map] at e
  have := h.inj i j _ _ (List.getElem?_eq_getElem hi) (List.getElem?_eq_getElem hj) e
  omega
theorem PWf.keys_mem {P : Pl} (h : PWf P) {ks : List Int} (hk : KeysOf P.atm ks) {k : Int} (hm : k ∈ ks) : ∃ i f, P.atm k = some i ∧ P.frames[i]? = some f ∧ f.n = k := by
  obtain ⟨i, hi⟩ := Option.isSome_iff_exists.1 ((hk.2 k).1 hm)
  obtain ⟨f, h1, h2⟩ := (h.atm k i).1 hi
  exact ⟨i, f, hi, h1, h2⟩
theorem PWf.keys_perm {P : Pl} (h : PWf P) {ks : List Int} (hk : KeysOf P.atm ks) : ks.Perm (P.frames.map Frm.n) := by
  refine (List.perm_ext_iff_of_nodup (hk.1.imp fun {x y} h => by omega) h.nodup).2 fun k => ⟨fun hm => ?_, fun hm => ?_⟩
  · obtain ⟨i, f, _, h1, rfl⟩ := h.keys_mem hk hm
    exact List.mem_map_of_mem (List.mem_of_getElem? h1)
  · obtain ⟨f, hf, rfl⟩ := List.mem_map.1 hm
    obtain ⟨i, hi, rfl⟩ := List.mem_iff_getElem.1 hf
    rw [hk.2, (h.atm _ i).2 ⟨_, List.getElem?_eq_getElem hi, rfl⟩]
    rfl
theorem PWf.keys_len {P : Pl} (h : PWf P) {ks : List Int} (hk : KeysOf P.atm ks) : ks.length = P.frames.length := by
  rw [(h.keys_perm hk).length_eq, List.length_map]

set_option maxRecDepth 100000 in
set_option maxHeartbeats 2000000 in
theorem cdirty_any (a : Ad) (P : Pl) (L : Lg) (D : Dk) (w : World) (h : PSt w a P L D) (hw : PWf P) (hma : a.ma ≤ 1099511627776) :
    Calls Tryz.prog 48 #[.pointer (some ⟨a.gp, 0, none⟩)] w fun e w' => ∃ v ks, e = .returned v ∧ KeysOf P.atm ks ∧
      w'.ownsRow w.heap.size 94 1 v (dirtyIx P ks).length (ptrs ((dirtyIx P ks).map fun i => a.bk.getD i 0)) ∧ Below w.heap.size w w' := by
  have c6 := h.pool.blk.cell 6
  simp [plCells] at c6
  have hgp := h.pool.blk.lt
  have H : Aside (PSt w a P L D ∧ PWf P ∧ a.ma ≤ 1099511627776) := ⟨h, hw, hma⟩
  clear h hw hma
  go_enter Tryz.func48, Tryz.ntmps48
  go_wp2_with fail
  refine (keysF_any a.ga w).mono ?_
  rintro e w' ⟨rfl, rfl⟩
  go_wp2_with fail
  refine (sortedF_any a.ga a.ma (atV a.bk P.atm) w H.out.1.pool.atm H.out.2.2).mono ?_
  rintro e w2 ⟨v, ks, rfl, hk, hown, hb⟩
  obtain ⟨A, cap, rfl, hcap, hcm, hA⟩ := own_form hown
  obtain ⟨n, hn⟩ : ∃ n, ks.length = n := ⟨_, rfl⟩
  have hn64 : n ≤ 64 := by rw [← hn, H.out.2.1.keys_len (keys_atm hk)]; have := H.out.2.1.len; have := H.out.2.1.m2; omega
  rw [hn] at hown
  rw [hn]
  have hb2 : Below w.heap.size w w2 := (bl_alloc (Below.refl _ _) _).trans (hb.mono (by omega))
  have H2 : Aside (KeysOf P.atm ks ∧ w2.ownsRow (w.heap.size + 1) 3 1 (.slice A n cap) n (ks.map (Value.int .i64)) ∧ Below w.heap.size w w2 ∧ ks.length = n) := ⟨keys_atm hk, hown, hb2, hn⟩
  clear hk hown hb hA hb2 hcap hcm hn c6
  go_wp2_with fail
  go_loopg [3, 14] n (fun q o i wr => ∃ k : Nat, k + q = n ∧ i = .int .i64 (k : Nat) ∧ Hid (wr.ownsRow w.heap.size 94 1 o (dirtyIx P (ks.take k)).length (ptrs ((dirtyIx P (ks.take k)).map fun i => a.bk.getD i 0)) ∧ Below w.heap.size w wr ∧ wr.ownsRow (w.heap.size + 1) 3 1 (.slice A n cap) n (ks.map (Value.int .i64))))
  case atStart => exact ⟨0, by omega, rfl, World.ownsRow_nil _ _ _ _, H2.out.2.2.1, H2.out.2.1⟩
  case round =>
    obtain ⟨k, hk, rfl, hI⟩ := hrel
    by_cases hlt : k < n
    · obtain ⟨hO, hB, hR⟩ := hI.out
      obtain ⟨A', c', e', -, -, hA⟩ := own_form hR
      injection e' with e1 e2 e3
      subst e1
      subst e3
      obtain ⟨g, rfl, hg1, hg2, -⟩ := hA (by omega)
      have hkl : k < ks.length := by rw [H2.out.2.2.2]; exact hlt
      obtain ⟨K, hK⟩ : ∃ K, ks[k] = K := ⟨_, rfl⟩
      have hcell : wr.cell? ⟨g, k, none⟩ = some (.int .i64 K) := by rw [← hK]; exact ints_row hR rfl hkl
      obtain ⟨i, f, hat, hf, hfn⟩ := H.out.2.1.keys_mem H2.out.1 (show K ∈ ks by rw [← hK]; exact List.getElem_mem hkl)
      have hPr := H.out.1.below hB
      have c6 := hPr.pool.blk.cell 6
      simp [plCells] at c6
      have hKw : wf64 K := by
        have h1 := H.out.2.1.full f (List.mem_of_getElem? hf)
        have h2 := H.out.2.1.count
        unfold wf64; omega
      obtain ⟨bi, hbi⟩ : ∃ bi, a.bk.getD i 0 = bi := ⟨_, rfl⟩
      have hlook := at_look hPr.pool K hKw wr rfl
      have hv : (atV a.bk P.atm K).getD (.pointer none) = .pointer (some ⟨bi, 0, none⟩) := by
        unfold atV
        rw [hat, ← hbi]
        rfl
      rw [hv] at hlook
      obtain ⟨hpb, bv, hBk, -, -⟩ := hPr.pool.frame hf hbi
      have k3 := hBk.cell 3
      simp [frmCells] at k3
      obtain ⟨fd, hfd⟩ : ∃ fd, f.dirty = fd := ⟨_, rfl⟩
      rw [hfd] at k3
      have hsn : dirtyIx P (ks.take (k + 1)) = if dirtyOf P i = true then dirtyIx P (ks.take k) ++ [i] else dirtyIx P (ks.take k) := by
        rw [List.take_succ_eq_append_getElem hkl, hK]
        exact dirtyIx_snoc P _ K i hat
      have hdo : dirtyOf P i = fd := by unfold dirtyOf; rw [hf]; exact hfd
      rw [hdo] at hsn
      obtain ⟨dx, hdx⟩ : ∃ dx, dirtyIx P (ks.take k) = dx := ⟨_, rfl⟩
      have hdl : dx.length ≤ 64 := by
        rw [← hdx]
        have := dirtyIx_len P (ks.take k)
        rw [List.length_take] at this
        omega
      rw [hdx] at hO hsn
      obtain ⟨oA, oc, rfl, -, -, -⟩ := own_form hO
      have HR : Aside (wr.ownsRow w.heap.size 94 1 (.slice oA dx.length oc) dx.length (ptrs (dx.map fun i => a.bk.getD i 0)) ∧ Below w.heap.size w wr ∧ wr.ownsRow (w.heap.size + 1) 3 1 (.slice (some ⟨g, 0, none⟩) n cap) n (ks.map (Value.int .i64)) ∧ dirtyIx P (ks.take (k + 1)) = (if fd = true then dx ++ [i] else dx) ∧ a.bk.getD i 0 = bi) := ⟨hO, hB, hR, hsn, hbi⟩
      have hsz := hB.size
      clear hI hO hB hR hA hPr hv hBk hfd hdx hsn hbi hK hkl hdo hf hfn hat
      cases fd with
      | false =>
        go_wp2_with fail
        go_roundg (n - 1 - k)
        case rel =>
          refine ⟨k + 1, by omega, by go_num, ?_⟩
          rw [HR.out.2.2.2.1]
          exact ⟨HR.out.1, HR.out.2.1, HR.out.2.2.1⟩
        case measure => omega
      | true =>
        go_wp2_with (
          (at_builtin
           refine wpList_app_ptr rfl (.tmp 28) (.tmp 30) rfl w.heap.size (.slice oA dx.length oc) (dx.map fun i => a.bk.getD i 0) bi wr.heap.size 1 1 rfl (by rw [List.length_map]; exact HR.out.1.alloc _) rfl rfl (alloc_new _ _) (by rw [List.length_map]; omega) (by simp; omega) ?_
           intro v' w3 hO3 hg3
           have R3 : Aside (w3.ownsRow w.heap.size 94 1 v' (dx.length + 1) (ptrs ((dx ++ [i]).map fun i => a.bk.getD i 0)) ∧ (wr.alloc (.cells #[.pointer (some ⟨bi, 0, none⟩)] 94)).grownBy w3 (Value.slice oA dx.length oc).ownBlock) := ⟨by rw [List.length_map] at hO3; rw [List.map_append, List.map_cons, List.map_nil, HR.out.2.2.2.2]; exact hO3, hg3⟩
           clear hO3 hg3))
        go_roundg (n - 1 - k)
        case rel =>
          have hFr : Fr (fun b => (Value.slice oA dx.length oc).ownBlock = some b) wr w3 := ((Fr.refl _ wr).alloc _).trans ⟨R3.out.2.os, R3.out.2.tape, R3.out.2.output, R3.out.2.size, fun b hb hn => R3.out.2.block b hb (fun e => hn e.symm)⟩ (fun _ _ h => h)
          refine ⟨k + 1, by omega, by go_num, ?_⟩
          rw [HR.out.2.2.2.1, if_pos trivial, List.length_append]
          refine ⟨R3.out.1, ?_, ?_⟩
          · exact HR.out.2.1.trans (hFr.below hsz fun b hb => (HR.out.1.lt b hb).1)
          · exact own_fr HR.out.2.2.1 hFr fun b hb e => (own_ty HR.out.2.2.1 hb).ne (own_ty HR.out.1 e) (by decide)
        case measure => omega
    · obtain rfl : k = n := by omega
      obtain ⟨hO, hB, hR⟩ := hI.out
      rw [List.take_of_length_le (by rw [H2.out.2.2.2]; omega)] at hO
      obtain ⟨oA, oc, rfl, -, -, -⟩ := own_form hO
      have HO : Aside (wr.ownsRow w.heap.size 94 1 (.slice oA (dirtyIx P ks).length oc) (dirtyIx P ks).length (ptrs ((dirtyIx P ks).map fun i => a.bk.getD i 0)) ∧ Below w.heap.size w wr) := ⟨hO, hB⟩
      clear hI hO hB hR
      go_wp2_with fail
      go_ret
      exact ⟨_, ks, rfl, H2.out.1, HO.out⟩
end Go.Proofs.YthfidlhefkjpdaaGreatDoor

namespace Go.Proofs.YthfidlhefkjpdaaGreatDoor
open Go.RowKit Go.Maps

theorem infoDty : (Tryz.prog.info? 39).map (fun i => (i.zero, i.size, i.bytes)) = some (some (.agg #[.int .i64 0, .int .i64 0]), 2, 16) := by kernel_rfl

def dtyOf (P : Pl) (i : Nat) : Int × Int := match P.frames[i]? with | some f => (f.n, f.since) | none => (0, 0)
def encD (x : Int × Int) : List Value := [.int .i64 x.1, .int .i64 x.2]
/-- What Dirty tells. -/
def dirtyL (P : Pl) (ks : List Int) : List (Int × Int) := (dirtyIx P ks).map (dtyOf P)

theorem dirtyIx_mem {P : Pl} (hw : PWf P) {ks : List Int} {i : Nat} (h : i ∈ dirtyIx P ks) : ∃ f, P.frames[i]? = some f ∧ f.dirty = true := by
  obtain ⟨h1, h2⟩ := List.mem_filter.1 h
  obtain ⟨k, _, hk⟩ := List.mem_filterMap.1 h1
  obtain ⟨f, hf, _⟩ := (hw.atm k i).1 hk
  refine ⟨f, hf, ?_⟩
  unfold dirtyOf at h2
  rw [hf] at h2
  exact h2
theorem ptr_row {w : World} {base n : Nat} {v : Value} {bs : List Nat} {g c : Nat} (h : w.ownsRow base 94 1 v n (ptrs bs)) (hv : v = .slice (some ⟨g, 0, none⟩) n c) {k : Nat} (hk : k < bs.length) : w.cell? ⟨g, k, none⟩ = some (.pointer (some ⟨bs[k], 0, none⟩)) := by
  subst hv
  have hl : bs.length = n := by have := h.1; simpa [ptrs] using this
  rw [h.cellAt k (by omega)]
  simp only [ptrs, List.getElem?_map, List.getElem?_eq_getElem hk, Option.map_some]

set_option maxRecDepth 100000 in
set_option maxHeartbeats 2000000 in
theorem cDirty_any (a : Ad) (P : Pl) (L : Lg) (D : Dk) (w : World) (h : PSt w a P L D) (hw : PWf P) (hma : a.ma ≤ 1099511627776) :
    Calls Tryz.prog 11 #[.pointer (some ⟨a.gp, 0, none⟩)] w fun e w' => ∃ v ks, e = .returned v ∧ KeysOf P.atm ks ∧
      w'.ownsRow w.heap.size 39 2 v (dirtyL P ks).length ((dirtyL P ks).flatMap encD) ∧ Below w.heap.size w w' := by
  have hcd := cdirty_any a P L D w h hw hma
  have H : Aside (PSt w a P L D ∧ PWf P) := ⟨h, hw⟩
  clear h hw hma
  go_enter Tryz.func11, Tryz.ntmps11
  go_wp2_with fail
  refine hcd.mono ?_
  rintro e w2 ⟨v, ks, rfl, hk, hown, hb2⟩
  obtain ⟨A, cap, rfl, hcap, hcm, hA⟩ := own_form hown
  have hn64 : (dirtyIx P ks).length ≤ 64 := by
    have h1 := dirtyIx_len P ks
    have h2 := H.out.2.keys_len hk
    have := H.out.2.len; have := H.out.2.m2; omega
  have hmem : ∀ i ∈ dirtyIx P ks, ∃ f, P.frames[i]? = some f ∧ f.dirty = true := fun i hi => dirtyIx_mem H.out.2 hi
  have hdl : dirtyL P ks = (dirtyIx P ks).map (dtyOf P) := rfl
  obtain ⟨dx, hdx⟩ : ∃ dx, dirtyIx P ks = dx := ⟨_, rfl⟩
  rw [hdx] at hown hn64 hmem hdl ⊢
  obtain ⟨n, hn⟩ : ∃ n, dx.length = n := ⟨_, rfl⟩
  rw [hn] at hown hn64
  rw [hn]
  have H2 : Aside (KeysOf P.atm ks ∧ w2.ownsRow w.heap.size 94 1 (.slice A n cap) n (ptrs (dx.map fun i => a.bk.getD i 0)) ∧ Below w.heap.size w w2 ∧ dx.length = n ∧ (∀ i ∈ dx, ∃ f, P.frames[i]? = some f ∧ f.dirty = true) ∧ dirtyL P ks = dx.map (dtyOf P)) := ⟨hk, hown, hb2, hn, hmem, hdl⟩
  clear hk hown hb2 hA hcap hcm hn hmem hdl hdx hcd
  go_wp2_with fail
  go_loopg [3, 9] n (fun q o i wr => ∃ k : Nat, k + q = n ∧ i = .int .i64 (k : Nat) ∧ Hid (wr.ownsRow w.heap.size 39 2 o k ((dx.take k).flatMap fun i => encD (dtyOf P i)) ∧ Below w.heap.size w wr ∧ wr.ownsRow w.heap.size 94 1 (.slice A n cap) n (ptrs (dx.map fun i => a.bk.getD i 0))))
  case atStart => exact ⟨0, by omega, rfl, World.ownsRow_nil _ _ _ _, H2.out.2.2.1, H2.out.2.1⟩
  case round =>
    obtain ⟨k, hk, rfl, hI⟩ := hrel
    by_cases hlt : k < n
    · obtain ⟨hO, hB, hR⟩ := hI.out
      obtain ⟨A', c', e', -, -, hA⟩ := own_form hR
      injection e' with e1 e2 e3
      subst e1
      subst e3
      obtain ⟨g, rfl, hg1, hg2, -⟩ := hA (by omega)
      have hkl : k < dx.length := by rw [H2.out.2.2.2.1]; exact hlt
      obtain ⟨i, hi⟩ : ∃ i, dx[k] = i := ⟨_, rfl⟩
      obtain ⟨f, hf, hfd⟩ := H2.out.2.2.2.2.1 i (by rw [← hi]; exact List.getElem_mem hkl)
      obtain ⟨bi, hbi⟩ : ∃ bi, a.bk.getD i 0 = bi := ⟨_, rfl⟩
      have hcell : wr.cell? ⟨g, k, none⟩ = some (.pointer (some ⟨bi, 0, none⟩)) := by
        rw [ptr_row hR rfl (by rw [List.length_map]; exact hkl), List.getElem_map, hi, hbi]
      have hPr := H.out.1.below hB
      obtain ⟨hpb, bv, hBk, -, -⟩ := hPr.pool.frame hf hbi
      have k0 := hBk.cell 0
      have k4 := hBk.cell 4
      simp [frmCells] at k0 k4
      obtain ⟨fn, hfn⟩ : ∃ fn, f.n = fn := ⟨_, rfl⟩
      obtain ⟨fs, hfs⟩ : ∃ fs, f.since = fs := ⟨_, rfl⟩
      rw [hfn] at k0
      rw [hfs] at k4
      have hdt : dtyOf P i = (fn, fs) := by unfold dtyOf; rw [hf, ← hfn, ← hfs]
      have hsn : (dx.take (k + 1)).flatMap (fun i => encD (dtyOf P i)) = (dx.take k).flatMap (fun i => encD (dtyOf P i)) ++ [.int .i64 fn, .int .i64 fs] := by
        rw [List.take_succ_eq_append_getElem hkl, List.flatMap_append, hi]
        simp [hdt, encD]
      obtain ⟨xs, hxs⟩ : ∃ xs, (dx.take k).flatMap (fun i => encD (dtyOf P i)) = xs := ⟨_, rfl⟩
      rw [hxs] at hO hsn
      have hoA := own_form_n hO
      obtain ⟨oA, oc, rfl⟩ := hoA
      have HR : Aside (wr.ownsRow w.heap.size 39 2 (.slice oA k oc) k xs ∧ Below w.heap.size w wr ∧ wr.ownsRow w.heap.size 94 1 (.slice (some ⟨g, 0, none⟩) n cap) n (ptrs (dx.map fun i => a.bk.getD i 0)) ∧ (dx.take (k + 1)).flatMap (fun i => encD (dtyOf P i)) = xs ++ [.int .i64 fn, .int .i64 fs]) := ⟨hO, hB, hR, hsn⟩
      have hsz := hB.size
      have hbl := hBk.lt
      have HBT : Aside (Ty wr bi 96) := ⟨hBk.ty⟩
      obtain ⟨i0, hi0, hz0, hz1, hz2⟩ := info_parts infoDty
      clear hI hO hB hR hA hPr hBk hfd hbi hkl hf hfn hfs hdt hsn hxs hi
      go_wp2_with fail
      go_region_held3 (fun w' => w'.cell? ⟨bi, 0, none⟩ = some (.int .i64 fn) ∧ w'.cell? ⟨bi, 4, none⟩ = some (.int .i64 fs))
        (first | exact ⟨k0, k4⟩ | exact ⟨(cell?_keep_alloc wr bi 0 hbl _).trans k0, (cell?_keep_alloc wr bi 4 hbl _).trans k4⟩ | exact ⟨(Q3.out.2.2 0).trans k0, (Q3.out.2.2 4).trans k4⟩)
        ((
         refine step_append_lies _ (by rfl) _ _ _ (by rfl) w.heap.size 39 i0 _ 2 16 Tryz.underlying33 hi0 hz0 hz1 hz2 rfl (by omega) (.slice oA k oc) k xs (by rfl) (own_drewN0 (HR.out.1.alloc _)) ⟨wr.heap.size, 0, none⟩ 1 1 [.int .i64 fn, .int .i64 fs] (by rfl) (by rfl) (news_blk (cs := #[.int .i64 fn, .int .i64 fs]) (t := 39) (fr := (0, 0)) (alloc_new wr _)) (by simp [Value.oneCell']) (by omega) (by unfold maxLen; omega) (by omega) (by simp; omega) (wr.heap.size + 1) (by simp) ?_
         intro g3 cap3 w3 hown3 hgrow3 hat3 hlt3
         have hF3 : Fr (fun b => (Value.slice oA k oc).ownBlock = some b) wr w3 := ((Fr.refl _ wr).alloc _).trans ⟨hgrow3.os, hgrow3.tape, hgrow3.output, hgrow3.size, fun b hb hn => hgrow3.block b hb (fun e => hn e.symm)⟩ (fun _ _ h => h)
         have hne3 : ¬ (Value.slice oA k oc).ownBlock = some bi := fun e => HBT.out.ne (own_ty HR.out.1 e) (by decide)
         have Q3 : Aside (w3.ownsRow w.heap.size 39 2 (.slice (some ⟨g3, 0, none⟩) (k + 1) cap3) (k + 1) (xs ++ [.int .i64 fn, .int .i64 fs]) ∧ Fr (fun b => (Value.slice oA k oc).ownBlock = some b) wr w3 ∧ (∀ j, w3.cell? ⟨bi, j, none⟩ = wr.cell? ⟨bi, j, none⟩)) := ⟨hown3, hF3, fun j => World.cell?_of_block (w := wr) (a := ⟨bi, j, none⟩) (hF3.block bi hbl hne3)⟩
         clear hown3 hgrow3 hat3 hlt3 hF3 hne3))
      all_goals (
        go_wp2_with fail
        go_roundg (n - 1 - k)
        case rel =>
          refine ⟨k + 1, by omega, by go_num, ?_⟩
          rw [HR.out.2.2.2]
          refine ⟨Q3.out.1, ?_, ?_⟩
          · exact HR.out.2.1.trans (Q3.out.2.1.below hsz fun b hb => (HR.out.1.lt b hb).1)
          · exact own_fr HR.out.2.2.1 Q3.out.2.1 fun b hb e => (own_ty HR.out.2.2.1 hb).ne (own_ty HR.out.1 e) (by decide)
        case measure => omega)
    · obtain rfl : k = n := by omega
      obtain ⟨hO, hB, hR⟩ := hI.out
      rw [List.take_of_length_le (by rw [H2.out.2.2.2.1]; omega)] at hO
      have hoA := own_form_n hO
      obtain ⟨oA, oc, rfl⟩ := hoA
      have HO : Aside (wr.ownsRow w.heap.size 39 2 (.slice oA k oc) (dirtyL P ks).length ((dirtyL P ks).flatMap encD) ∧ Below w.heap.size w wr) := by
        refine ⟨?_, hB⟩
        rw [H2.out.2.2.2.2.2, List.length_map, H2.out.2.2.2.1, List.flatMap_map]
        exact hO
      clear hI hO hB hR
      go_wp2_with fail
      go_ret
      exact ⟨_, ks, rfl, H2.out.1, HO.out⟩

set_option maxRecDepth 100000 in
theorem cframes_any (a : Ad) (P : Pl) (L : Lg) (D : Dk) (w : World) (h : PSt w a P L D) (hw : PWf P) :
    Calls Tryz.prog 14 #[.pointer (some ⟨a.gp, 0, none⟩)] w fun e w' => e = .returned (.int .i64 (P.frames.length : Int)) ∧ w = w' := by
  have c6 := h.pool.blk.cell 6
  simp [plCells] at c6
  obtain ⟨ks, hk, -, hlen⟩ := h.pool.atm.keys Tryz.underlying3
  have hl := hlen (t := 102) (e := 94) Tryz.underlying102
  rw [hw.keys_len (keys_atm hk)] at hl
  clear hlen hk h hw
  go_enter Tryz.func14, Tryz.ntmps14
  go_wp2_with fail
  go_ret
  exact ⟨rfl, rfl⟩
end Go.Proofs.YthfidlhefkjpdaaGreatDoor

namespace Go.Proofs.YthfidlhefkjpdaaGreatDoor
open Go.RowKit Go.Maps

/-- Behind a write of a frame. -/
theorem wr_next {P : Pl} {L : Lg} {D : Dk} {f : Frm} (ho : Ok P L D) (hf0 : 0 ≤ f.n) (hf1 : f.n < P.count) (hf2 : f.bytes.length = 512) (hlog : L.first + L.count ≤ P.base) :
    (wrD D L f P.base).wf ∧ (wrD D L f P.base).plan = [] ∧ (wrD D L f P.base).off = false ∧ (wrD D L f P.base).sec.length = D.sec.length ∧ (wrD D L f P.base).steps ≤ D.steps + L.count + 2 ∧
    (∀ N, N < P.count → (wrD D L f P.base).has (P.base + N) = if f.n = (N : Int) then f.bytes else D.has (P.base + N)) := by
  have hpb := ho.pb
  have hst := ho.st
  have hcn := ho.lw.count
  have key : ∀ D1, DkNext D D1 L.first (L.first + L.count) (L.count + 1) → (D1.write (P.base + f.n.toNat) f.bytes).wf ∧ (D1.write (P.base + f.n.toNat) f.bytes).plan = [] ∧ (D1.write (P.base + f.n.toNat) f.bytes).off = false ∧ (D1.write (P.base + f.n.toNat) f.bytes).sec.length = D.sec.length ∧
      (D1.write (P.base + f.n.toNat) f.bytes).steps ≤ D.steps + L.count + 2 ∧ (∀ N, N < P.count → (D1.write (P.base + f.n.toNat) f.bytes).has (P.base + N) = if f.n = (N : Int) then f.bytes else D.has (P.base + N)) := by
    intro D1 h1
    refine ⟨Dk.write_wf h1.wf (by rw [h1.len]; omega) (by omega) (by have := h1.steps; omega), h1.plan, h1.off, h1.len, ?_, fun N hN => ?_⟩
    · show D1.steps + 1 ≤ _
      have := h1.steps
      omega
    · rw [Dk.write_has]
      by_cases he : f.n = (N : Int)
      · rw [if_pos he, if_pos (by omega)]
        exact fullS_full hf2
      · rw [if_neg he, if_neg (by omega)]
        exact h1.has _ (by omega) (.inr (by omega))
  unfold wrD
  split
  · exact key _ (lflush_next ho.dw ho.dp ho.doff ho.lw ho.lf (by omega))
  · exact key _ ⟨rfl, ho.dp, ho.doff, ho.dw, by omega, by omega, fun _ _ _ => rfl⟩

theorem wrL_same (L : Lg) (f : Frm) : (wrL L f).first = L.first ∧ (wrL L f).count = L.count ∧ (wrL L f).run = L.run ∧ (wrL L f).most = L.most ∧ (wrL L f).stream = L.stream ∧ (wrL L f).old = L.old ∧ (wrL L f).dead = L.dead := by
  unfold wrL; split <;> exact ⟨rfl, rfl, rfl, rfl, rfl, rfl, rfl⟩
theorem wrL_wf {L : Lg} (h : L.wf) (f : Frm) : (wrL L f).wf := by
  unfold wrL
  split
  · exact ⟨h.run, h.most, h.count, h.len, Nat.le_refl _⟩
  · exact h
theorem wr_ok {P : Pl} {L : Lg} {D : Dk} {f : Frm} {i : Nat} (ho : Ok P L D) (hf0 : 0 ≤ f.n) (hf1 : f.n < P.count) (hf2 : f.bytes.length = 512) (hlog : L.first + L.count ≤ P.base) (hst : (wrD D L f P.base).steps + 8192 ≤ 1152921504606846976) :
    Ok (wrP P i f) (wrL L f) (wrD D L f P.base) := by
  obtain ⟨h1, h2, h3, h4, h5, h6⟩ := wr_next ho hf0 hf1 hf2 hlog
  obtain ⟨e1, e2, e3, e4, e5, e6, e7⟩ := wrL_same L f
  exact ⟨wrL_wf ho.lw f, e7.trans ho.ld, h1, h2, h3, by rw [e1, e2, h4]; exact ho.lf, ho.pd, by rw [h4]; exact ho.pb, hst⟩

/-- One frame written. -/
def wrS (s : Pl × Lg × Dk) (i : Nat) : Pl × Lg × Dk := match s.1.frames[i]? with | some f => (wrP s.1 i f, wrL s.2.1 f, wrD s.2.2 s.2.1 f s.1.base) | none => s
def wrAll (P : Pl) (L : Lg) (D : Dk) (dx : List Nat) : Pl × Lg × Dk := dx.foldl wrS (P, L, D)

/-- What stays while frames are written. -/
structure WrInv (P : Pl) (L : Lg) (D : Dk) (k : Nat) (s : Pl × Lg × Dk) : Prop where
  full : Full s.1
  len : s.1.frames.length = P.frames.length
  base : s.1.base = P.base
  count : s.1.count = P.count
  first : s.2.1.first = L.first
  cnt : s.2.1.count = L.count
  ok : Ok s.1 s.2.1 s.2.2
  st : s.2.2.steps ≤ D.steps + k * 4098

theorem full_wr {P : Pl} (h : Full P) {i : Nat} {f : Frm} (hf : P.frames[i]? = some f) : Full (wrP P i f) := fun g hg => by
  rcases List.mem_or_eq_of_mem_set hg with h1 | h1
  · exact h g h1
  · rw [h1]
    exact h f (List.mem_of_getElem? hf)
theorem WrInv.step {P : Pl} {L : Lg} {D : Dk} {k : Nat} {s : Pl × Lg × Dk} (h : WrInv P L D k s) {i : Nat} (hi : i < P.frames.length) (hlog : L.first + L.count ≤ P.base) (hk : k < 64) (hst : D.steps + 600000 ≤ 1152921504606846976) :
    ∃ f, s.1.frames[i]? = some f ∧ (0 ≤ f.n ∧ f.n < s.1.count ∧ f.bytes.length = 512) ∧ wrS s i = (wrP s.1 i f, wrL s.2.1 f, wrD s.2.2 s.2.1 f s.1.base) ∧ WrInv P L D (k + 1) (wrS s i) := by
  obtain ⟨f, hf⟩ : ∃ f, s.1.frames[i]? = some f := ⟨_, List.getElem?_eq_getElem (by rw [h.len]; exact hi)⟩
  have hb := h.full f (List.mem_of_getElem? hf)
  have e : wrS s i = (wrP s.1 i f, wrL s.2.1 f, wrD s.2.2 s.2.1 f s.1.base) := by unfold wrS; rw [hf]
  have hlog' : s.2.1.first + s.2.1.count ≤ s.1.base := by rw [h.first, h.cnt, h.base]; exact hlog
  obtain ⟨h1, h2, h3, h4, h5, h6⟩ := wr_next h.ok hb.1 hb.2.1 hb.2.2 hlog'
  obtain ⟨e1, e2, -⟩ := wrL_same s.2.1 f
  have hst0 := h.st
  have hc := h.ok.lw.count
  have hst1 : (wrD s.2.2 s.2.1 f s.1.base).steps ≤ D.steps + ((k + 1 : Nat) : Int) * 4098 := by omega
  refine ⟨f, hf, hb, e, ?_⟩
  rw [e]
  exact ⟨full_wr h.full hf, by show (s.1.frames.set _ _).length = _; rw [List.length_set]; exact h.len, h.base, h.count, e1.trans h.first, e2.trans h.cnt, wr_ok h.ok hb.1 hb.2.1 hb.2.2 hlog' (by omega), hst1⟩
theorem wrAll_snoc (P : Pl) (L : Lg) (D : Dk) (dx : List Nat) (i : Nat) : wrAll P L D (dx ++ [i]) = wrS (wrAll P L D dx) i := by simp [wrAll]

/-- What Flush leaves. -/
def flushR (P : Pl) (L : Lg) (D : Dk) (ks : List Int) : Pl × Lg × Dk :=
  if (wrAll P L D (dirtyIx P ks)).1.loose = true then ({ (wrAll P L D (dirtyIx P ks)).1 with loose := false }, (wrAll P L D (dirtyIx P ks)).2.1, (wrAll P L D (dirtyIx P ks)).2.2.sync) else wrAll P L D (dirtyIx P ks)

set_option maxRecDepth 100000 in
set_option maxHeartbeats 2000000 in
theorem cflush_any (a : Ad) (P : Pl) (L : Lg) (D : Dk) (ks : List Int) (w : World) (h : PSt w a P L D) (ho : Ok P L D) (hw : PWf P) (hks : KeysOf P.atm ks) (hma : a.ma ≤ 1099511627776) (hlog : L.first + L.count ≤ P.base) (hst : D.steps + 600000 ≤ 1152921504606846976) :
    Calls Tryz.prog 15 #[.pointer (some ⟨a.gp, 0, none⟩)] w fun e w' => e = .returned (.int .i64 0) ∧
      PSt w' a (flushR P L D ks).1 (flushR P L D ks).2.1 (flushR P L D ks).2.2 ∧ Fr (aT a) w w' := by
  have hcd := cdirty_any a P L D w h hw hma
  have c10 := h.pool.blk.cell 10
  simp [plCells] at c10
  rw [ho.pd] at c10
  have hgp := h.pool.blk.lt
  have hmem : ∀ i ∈ dirtyIx P ks, i < P.frames.length := fun i hi => by
    obtain ⟨f, hf, _⟩ := dirtyIx_mem hw hi
    exact (List.getElem?_eq_some_iff.1 hf).1
  have hfar : ∀ b, aT a b → b < w.heap.size := fun b hb => by
    rcases hb with (hb | hb) | hb
    · have h1 := h.ld.bd; have h2 := h.ld.bs; have h3 := h.ld.bm; have h4 := h.lb; have h5 := h.pool.lp
      rcases hb with rfl | rfl | rfl <;> omega
    · have hk := h.ld.log.kinds hb
      rcases hk.2 with ⟨_, _, k⟩ | ⟨_, _, k⟩ | ⟨_, _, k⟩ <;> exact (Array.getElem?_eq_some_iff.1 k).1
    · exact h.pool.lt hb
  have H : Aside (PSt w a P L D ∧ PWf P ∧ Ok P L D ∧ L.first + L.count ≤ P.base ∧ D.steps + 600000 ≤ 1152921504606846976 ∧ KeysOf P.atm ks ∧ (∀ i ∈ dirtyIx P ks, i < P.frames.length) ∧ (∀ b, aT a b → b < w.heap.size)) := ⟨h, hw, ho, hlog, hst, hks, hmem, hfar⟩
  obtain ⟨FR, hFR⟩ : ∃ FR, flushR P L D ks = FR := ⟨_, rfl⟩
  rw [hFR]
  have HFR := hid hFR
  clear h hw hma ho hlog hst hks hmem hfar hFR
  go_enter Tryz.func15, Tryz.ntmps15
  go_wp2_with fail
  refine hcd.mono ?_
  rintro e w2 ⟨v, ks', rfl, hk, hown, hb2⟩
  obtain rfl := hk.uniq H.out.2.2.2.2.2.1
  obtain ⟨A, cap, rfl, hcap, hcm, hA⟩ := own_form hown
  have hn64 : (dirtyIx P ks').length ≤ 64 := by
    have h1 := dirtyIx_len P ks'
    have h2 := H.out.2.1.keys_len hk
    have := H.out.2.1.len; have := H.out.2.1.m2; omega
  obtain ⟨R, hR⟩ : ∃ R, wrAll P L D (dirtyIx P ks') = R := ⟨_, rfl⟩
  have hFR : (if R.1.loose = true then ({ R.1 with loose := false }, R.2.1, R.2.2.sync) else R) = FR := by rw [← HFR.out]; unfold flushR; rw [hR]
  have hmem := H.out.2.2.2.2.2.2.1
  clear HFR
  obtain ⟨dx, hdx⟩ : ∃ dx, dirtyIx P ks' = dx := ⟨_, rfl⟩
  rw [hdx] at hown hn64 hR hmem
  rw [hdx]
  obtain ⟨n, hn⟩ : ∃ n, dx.length = n := ⟨_, rfl⟩
  rw [hn] at hown hn64
  rw [hn]
  have H2 : Aside (w2.ownsRow w.heap.size 94 1 (.slice A n cap) n (ptrs (dx.map fun i => a.bk.getD i 0)) ∧ Below w.heap.size w w2 ∧ dx.length = n ∧ (∀ i ∈ dx, i < P.frames.length) ∧ wrAll P L D dx = R ∧ (if R.1.loose = true then ({ R.1 with loose := false }, R.2.1, R.2.2.sync) else R) = FR) := ⟨hown, hb2, hn, hmem, hR, hFR⟩
  clear hk hown hb2 hA hcap hcm hn hmem hdx hcd c10 hR hFR
  go_wp2_with fail
  go_loopg [14] n (fun q i wr => ∃ k : Nat, k + q = n ∧ i = .int .i64 (k : Nat) ∧ Hid (PSt wr a (wrAll P L D (dx.take k)).1 (wrAll P L D (dx.take k)).2.1 (wrAll P L D (dx.take k)).2.2 ∧ WrInv P L D k (wrAll P L D (dx.take k)) ∧ Fr (aT a) w wr ∧ wr.ownsRow w.heap.size 94 1 (.slice A n cap) n (ptrs (dx.map fun i => a.bk.getD i 0))))
  case atStart => exact ⟨0, by omega, rfl, H.out.1.below H2.out.2.1, ⟨H.out.2.1.full, rfl, rfl, rfl, rfl, rfl, H.out.2.2.1, by simp [wrAll]⟩, Fr.of_below H2.out.2.1 _, H2.out.1⟩
  case round =>
    obtain ⟨k, hk, rfl, hI⟩ := hrel
    by_cases hlt : k < n
    · obtain ⟨hP, hI2, hF, hO⟩ := hI.out
      obtain ⟨A', c', e', -, -, hA⟩ := own_form hO
      injection e' with e1 e2 e3
      subst e1
      subst e3
      obtain ⟨g, rfl, hg1, hg2, -⟩ := hA (by omega)
      have hkl : k < dx.length := by rw [H2.out.2.2.1]; exact hlt
      obtain ⟨i, hi⟩ : ∃ i, dx[k] = i := ⟨_, rfl⟩
      have hin := H2.out.2.2.2.1 i (by rw [← hi]; exact List.getElem_mem hkl)
      obtain ⟨bi, hbi⟩ : ∃ bi, a.bk.getD i 0 = bi := ⟨_, rfl⟩
      have hcell : wr.cell? ⟨g, k, none⟩ = some (.pointer (some ⟨bi, 0, none⟩)) := by
        rw [ptr_row hO rfl (by rw [List.length_map]; exact hkl), List.getElem_map, hi, hbi]
      have hsn : wrAll P L D (dx.take (k + 1)) = wrS (wrAll P L D (dx.take k)) i := by
        rw [List.take_succ_eq_append_getElem hkl, hi, wrAll_snoc]
      obtain ⟨S, hS⟩ : ∃ S, wrAll P L D (dx.take k) = S := ⟨_, rfl⟩
      rw [hS] at hP hI2 hsn
      obtain ⟨f, hf, hb3, hst3, hI3⟩ := hI2.step hin H.out.2.2.2.1 (by omega) H.out.2.2.2.2.1
      have hcw := cwrite_at a S.1 S.2.1 S.2.2 i bi f wr hP hI2.ok hf hbi hb3.1 hb3.2.1 (by omega)
      have HR : Aside (Fr (aT a) w wr ∧ wr.ownsRow w.heap.size 94 1 (.slice (some ⟨g, 0, none⟩) n cap) n (ptrs (dx.map fun i => a.bk.getD i 0)) ∧ wrAll P L D (dx.take (k + 1)) = wrS S i ∧ wrS S i = (wrP S.1 i f, wrL S.2.1 f, wrD S.2.2 S.2.1 f S.1.base) ∧ WrInv P L D (k + 1) (wrS S i)) := ⟨hF, hO, hsn, hst3, hI3⟩
      have hsz := hF.size
      clear hI hP hI2 hF hO hA hkl hi hin hbi hsn hS hf hb3 hst3 hI3
      go_wp2_with fail
      refine hcw.mono ?_
      rintro e w3 ⟨rfl, hP3, hF3⟩
      have R3 : Aside (PSt w3 a (wrP S.1 i f) (wrL S.2.1 f) (wrD S.2.2 S.2.1 f S.1.base) ∧ Fr (aT a) wr w3) := ⟨hP3, hF3⟩
      clear hP3 hF3 hcw
      go_wp2_with fail
      go_roundg (n - 1 - k)
      case rel =>
        refine ⟨k + 1, by omega, by go_num, ?_⟩
        rw [HR.out.2.2.1]
        have hrow : w3.ownsRow w.heap.size 94 1 (.slice (some ⟨g, 0, none⟩) n cap) n (ptrs (dx.map fun i => a.bk.getD i 0)) :=
          own_fr HR.out.2.1 R3.out.2 fun b hb e => by
            have h1 := (HR.out.2.1.lt b hb).1
            have h2 := H.out.2.2.2.2.2.2.2 b e
            omega
        refine ⟨?_, HR.out.2.2.2.2, fr_same HR.out.1 R3.out.2, hrow⟩
        rw [HR.out.2.2.2.1]
        exact R3.out.1
      case measure => omega
    · obtain rfl : k = n := by omega
      obtain ⟨hP, hI2, hF, hO⟩ := hI.out
      rw [List.take_of_length_le (by rw [H2.out.2.2.1]; omega), H2.out.2.2.2.2.1] at hP hI2
      have hFR := H2.out.2.2.2.2.2
      obtain ⟨P1, L1, D1⟩ := R
      dsimp only at hP hI2 hFR
      have c9 := hP.pool.blk.cell 9
      have c0 := hP.pool.blk.cell 0
      simp [plCells] at c9 c0
      obtain ⟨lo, hlo⟩ : ∃ lo, P1.loose = lo := ⟨_, rfl⟩
      rw [hlo] at c9 hFR
      cases lo with
      | false =>
        rw [if_neg (by simp)] at hFR
        have HE : Aside (PSt wr a P1 L1 D1 ∧ Fr (aT a) w wr ∧ (P1, L1, D1) = FR) := ⟨hP, hF, hFR⟩
        clear hI hP hI2 hF hO hFR hlo c0
        go_wp2_with fail
        go_ret
        rw [← HE.out.2.2]
        exact ⟨rfl, HE.out.1, HE.out.2.1⟩
      | true =>
        rw [if_pos rfl] at hFR
        have HE : Aside (PSt wr a P1 L1 D1 ∧ Fr (aT a) w wr ∧ ({ P1 with loose := false }, L1, D1.sync) = FR ∧ Ok P1 L1 D1 ∧ P1.loose = true) := ⟨hP, hF, hFR, hI2.ok, hlo⟩
        clear hI hP hI2 hF hO hFR hlo
        go_wp2_with fail
        refine (sync_any a.gd a.gs a.gm D1 wr HE.out.1.ld.disk HE.out.2.2.2.1.dw HE.out.2.2.2.1.dp HE.out.2.2.2.1.doff (by have := HE.out.2.2.2.1.st; omega)).mono ?_
        rintro e w3 ⟨rfl, hD3, hF3⟩
        have hF3' : Fr (aL a) wr w3 := hF3.mono fun _ _ e => .inl e
        have R3 : Aside (PSt w3 a P1 L1 D1.sync ∧ Fr (aT a) w w3) := ⟨HE.out.1.onLD hF3' (Nx.refl _ _) (HE.out.1.ld.onDisk (hF3.mono fun _ _ e => e) hD3), fr_same HE.out.2.1 (fr_aT1 hF3')⟩
        clear hD3 hF3 hF3'
        go_wp2_with fail
        refine (pstep_ok a P1 L1 D1.sync w3 R3.out.1 HE.out.2.2.2.1.pd).mono ?_
        rintro e w4 ⟨rfl, hP4, hF4⟩
        have R4 : Aside (PSt w4 a P1 L1 D1.sync ∧ Fr (aT a) w w4) := ⟨hP4, fr_same R3.out.2 (fr_aT2 (fr_gp hF4))⟩
        clear hP4 hF4
        have z9 := R4.out.1.pool.blk.cell 9
        have y9 := R4.out.1.pool.blk.frozen 9
        simp [plCells] at z9
        go_wp2_with fail
        go_ret
        rw [← HE.out.2.2.1]
        obtain ⟨h7, hF7⟩ := R4.out.1.pool.setCell_ (P' := { P1 with loose := false }) 9 (.bool false) (by simp [plCells]) rfl rfl rfl
        exact ⟨rfl, R4.out.1.onPool0 (fr_gp hF7) h7, fr_same R4.out.2 (fr_aT2 (fr_gp hF7))⟩
end Go.Proofs.YthfidlhefkjpdaaGreatDoor
