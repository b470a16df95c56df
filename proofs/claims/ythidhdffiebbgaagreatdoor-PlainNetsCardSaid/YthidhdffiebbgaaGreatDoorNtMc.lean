/- The walk of the reference's Way.
   The walks of the reference's path, Path and Most.
   The walk of the reference's Most.
   The walk of the reference's Along.
   The walk of the reference's Distances.
   The walk of the reference's Span.
   The walk of the reference's TwinNet: a net's copy.
   Two edges, two Aggs, told apart: not at all when they are one. SameEdges, SameNet.
   The walks of SameEdges, SameNet and twice.
   The walk of twice.
   The walk of the law PlainNets. -/
import Derived.Test.YthidhdffiebbgaaGreatDoorNtMb
import Derived.Test.YthidhdffiebbgaaGreatDoorNtMa
import Derived.Test.YthidhdffiebbgaaGreatDoorPfC
import Derived.Test.YthidhdffiebbgaaGreatDoorFloatA
import Derived.Test.YthidhdffiebbgaaGreatDoorPfA
import Derived.Test.YthidhdffiebbgaaGreatDoorSpC
namespace Go.Proofs.YthidhdffiebbgaaGreatDoor
open Go.BigFrame Go.RowKit Go.Proofs.YthidhdffiebbgaaGreatDoor.Sk

theorem owns_cut {w : World} {base g cap : Nat} {L : List Edg} {e : Edg} (h : w.ownsRow base 47 4 (.slice (some ⟨g, 0, none⟩) (L.length + 1) cap) (L.length + 1) ((L ++ [e]).flatMap encE)) :
    w.ownsRow base 47 4 (.slice (some ⟨g, 0, none⟩) L.length cap) L.length (L.flatMap encE) := by
  obtain ⟨h1, h2⟩ := h
  have hl : (L.flatMap encE).length = L.length * 4 := by
    rw [List.flatMap_append, List.length_append, show List.flatMap encE [e] = encE e from (by simp)] at h1
    have : (encE e).length = 4 := rfl
    omega
  refine ⟨hl, .inr ?_⟩
  rcases h2 with ⟨h2, _⟩ | ⟨g', cap', cur, h3, h4, h5, h6, h7, h8, h9⟩
  · cases h2
  · cases h3
    refine ⟨g, cap, cur, rfl, h4, h5, by omega, h7, h8, ?_⟩
    have : List.take (L.length * 4) (List.take ((L.length + 1) * 4) cur.toList) = List.take (L.length * 4) cur.toList := by
      rw [List.take_take, Nat.min_eq_left (by omega)]
    rw [← this, h9, List.flatMap_append, List.take_append_of_le_length (by omega), List.take_of_length_le (by omega)]

/-- what a call leaves that answers a way -/
def WayPost (w : World) (F : List Edg) (u v : Int) (r : Ending) (w' : World) : Prop :=
  ∃ pv L b, r = .returned (.tuple #[pv, .bool b]) ∧ RdE w' pv L ∧ L.length ≤ 2048 ∧ (Conn F u v → b = true ∧ Trail F u L v ∧ L.Nodup) ∧ (¬ Conn F u v → b = false ∧ L = []) ∧ Below w.heap.size w w'

/-- the edge leads on -/
def Fits (at' : Int) (used : List Int) (e : Edg) : Prop := (e.u = at' ∨ e.v = at') ∧ e.id ∉ used
/-- what has been found behind k edges -/
def FoundAt (F : List Edg) (at' : Int) (used : List Int) (k : Nat) (fd : Int) : Prop :=
  (fd = -1 ∧ ∀ e ∈ F.take k, ¬ Fits at' used e) ∨ ∃ (j : Nat) (e : Edg), fd = j ∧ F[j]? = some e ∧ Fits at' used e

set_option maxRecDepth 100000 in
set_option maxHeartbeats 4000000 in
theorem rway_any (es : Value) (F : List Edg) (u v : Int) (w : World) (hF : RdE w es F) (hl : F.length ≤ 2048) (hid : ∀ a ∈ F, ∀ b ∈ F, a.id = b.id → a = b) :
    Calls Tryz.prog 83 #[es, .int .i64 u, .int .i64 v] w (WayPost w F u v) := by
  obtain ⟨fa, fcap, rfl, hwf, hf32, -⟩ := id hF
  have A := aside' (And.intro hF (And.intro hwf hid))
  clear hF hwf hid
  go_enter Tryz.func83, Tryz.ntmps83
  go_wp2_with fail
  go_loopg [8, 9, 10] (2 * F.length) (fun g pv av uv wr => ∃ (L : List Edg) (used : List Int) (at' : Int), g + 2 * used.length = 2 * F.length + L.length ∧ av = .int .i64 at' ∧ Walk F u v L used at' ∧
    wr.ownsRow w.heap.size 47 4 pv L.length (L.flatMap encE) ∧ wr.ownsRow w.heap.size 3 1 uv used.length (used.map (Value.int .i64)) ∧ pv.ownBlock ≠ uv.ownBlock ∧ Below w.heap.size w wr)
  case atStart =>
    refine ⟨[], [], u, by simp, rfl, Walk.start F u v, ?_, ?_, ?_, bel_alloc ((Below.refl _ _).alloc (Nat.le_refl _) _) (Nat.le_refl _) _⟩
    · exact (empty_row w 47 4).alloc _
    · have := empty_row (w.alloc (.cells #[] 47)) 3 1
      rw [World.size_alloc] at this
      exact owns_mono this (by omega)
    · intro h
      have h' := Option.some.inj h
      simp at h'
  case round =>
    obtain ⟨L, used, at', hg, rfl, hW, hP, hU, hne, hbel⟩ := hrel
    obtain ⟨gk_outer, hgko⟩ : ∃ q, q = gk := ⟨_, rfl⟩
    rw [← hgko] at hg
    obtain ⟨wo, rfl⟩ : ∃ wo, wo = wr := ⟨_, rfl⟩
    obtain ⟨hc1, hc2⟩ := hW.count A.out.2.2
    have hLwf : ∀ e ∈ L, e.wf := fun e he => A.out.2.1 e (hW.trail.sub e he)
    have hUwf : ∀ x ∈ used, wf64 x := fun x hx => by
      obtain ⟨e, he, rfl⟩ := hW.ids x hx
      exact (A.out.2.1 e he).1
    have hRP := rdE_of_owns hP hLwf (by omega)
    have hRU := rdI_own hU hUwf (by omega)
    obtain ⟨pa, pcap, rfl, hpa⟩ := owns_form hP
    obtain ⟨ua, ucap, rfl, hua⟩ := owns_form hU
    by_cases hav : at' = v
    · subst hav
      have hco : Conn F u at' := hW.trail.conn
      have J := aside' (show WayPost w F u at' (.returned (.tuple #[.slice pa L.length pcap, .bool true])) wo from ⟨_, L, true, rfl, hRP, by omega, fun _ => ⟨rfl, hW.trail, hW.nodup⟩, fun h => absurd hco h, hbel⟩)
      have hd : (at' != at') = false := by simp
      clear hg hW hP hU hne hbel hc1 hc2 hLwf hUwf hRP hRU hco
      go_wp2_with fail
      go_ret2
      exact J.out
    · have hd : (at' != v) = true := by simp [hav]
      have J := aside' (And.intro hg (And.intro hW (And.intro hP (And.intro hU (And.intro hne (And.intro hbel (And.intro hc1 (And.intro hc2 (And.intro hav (And.intro hRP hRU))))))))))
      clear hg hW hP hU hne hbel hLwf hUwf hRP hRU hav
      have HAS : Aside (∀ z b, decide (z ∈ used) = b → Calls Tryz.prog 30 #[.slice ua used.length ucap, .int .i64 z] wo fun e w' => e = .returned (.bool b) ∧ wo = w') := fun z b hb => by
        have := has_ref (.slice ua used.length ucap) used z wo J.out.2.2.2.2.2.2.2.2.2.2
        rw [hb] at this
        exact this
      go_wp2_with fail
      go_loopg [12, 11] F.length (fun g i fv wy => ∃ (k : Nat) (fd : Int), k + g = F.length ∧ i = .int .i64 k ∧ fv = .int .i64 fd ∧ FoundAt F at' used k fd ∧ wy = wo)
      case atStart => exact ⟨0, -1, by omega, rfl, rfl, .inl ⟨rfl, by simp⟩, rfl⟩
      case round =>
        obtain ⟨k, fd, hk, rfl, rfl, hfd, rfl⟩ := hrel
        by_cases hlt : k < F.length
        · obtain ⟨-, -, eb, eoff, hea, -, g0, g1, g2, g3⟩ := (A.out.1.below J.out.2.2.2.2.2.1).get hlt
          subst hea
          obtain ⟨e, he⟩ : ∃ e, F[k] = e := ⟨_, rfl⟩
          rw [he] at g0 g1 g2 g3
          have hsn : F.take (k + 1) = F.take k ++ [e] := by rw [List.take_succ_eq_append_getElem hlt, he]
          have hek : F[k]? = some e := by rw [List.getElem?_eq_getElem hlt, he]
          have step0 : ¬ Fits at' used e → FoundAt F at' used (k + 1) fd := fun h => by
            rcases hfd with ⟨h1, h2⟩ | h1
            · refine .inl ⟨h1, fun x hx => ?_⟩
              rw [hsn, List.mem_append, List.mem_singleton] at hx
              rcases hx with hx | rfl
              · exact h2 x hx
              · exact h
            · exact .inr h1
          have K := aside' step0
          have K1 : Aside (Fits at' used e → FoundAt F at' used (k + 1) k) := fun h => .inr ⟨k, e, rfl, hek, h⟩
          clear step0 hsn hek he
          by_cases hf : fd = -1
          · subst hf
            clear hfd
            by_cases heu : e.u = at'
            · have d1 : (e.u == at') = true := by simp [heu]
              by_cases hiu : e.id ∈ used
              · have hh := HAS.out e.id true (by simp [hiu])
                have R := aside' (K.out fun h => h.2 hiu)
                clear heu hiu
                go_wp2_with fail
                refine hh.mono ?_
                rintro _ _ ⟨rfl, rfl⟩
                go_wp2_with fail
                go_roundg (gk - 1)
                case rel => exact ⟨k + 1, -1, by omega, by go_num, rfl, R.out, rfl⟩
                case measure => omega
              · have hh := HAS.out e.id false (by simp [hiu])
                have R := aside' (K1.out ⟨.inl heu, hiu⟩)
                clear heu hiu
                go_wp2_with fail
                refine hh.mono ?_
                rintro _ _ ⟨rfl, rfl⟩
                go_wp2_with fail
                go_roundg (gk - 1)
                case rel => exact ⟨k + 1, k, by omega, by go_num, rfl, R.out, rfl⟩
                case measure => omega
            · have d1 : (e.u == at') = false := by simp [heu]
              by_cases hev : e.v = at'
              · have d2 : (e.v == at') = true := by simp [hev]
                by_cases hiu : e.id ∈ used
                · have hh := HAS.out e.id true (by simp [hiu])
                  have R := aside' (K.out fun h => h.2 hiu)
                  clear heu hiu hev
                  go_wp2_with fail
                  refine hh.mono ?_
                  rintro _ _ ⟨rfl, rfl⟩
                  go_wp2_with fail
                  go_roundg (gk - 1)
                  case rel => exact ⟨k + 1, -1, by omega, by go_num, rfl, R.out, rfl⟩
                  case measure => omega
                · have hh := HAS.out e.id false (by simp [hiu])
                  have R := aside' (K1.out ⟨.inr hev, hiu⟩)
                  clear heu hiu hev
                  go_wp2_with fail
                  refine hh.mono ?_
                  rintro _ _ ⟨rfl, rfl⟩
                  go_wp2_with fail
                  go_roundg (gk - 1)
                  case rel => exact ⟨k + 1, k, by omega, by go_num, rfl, R.out, rfl⟩
                  case measure => omega
              · have d2 : (e.v == at') = false := by simp [hev]
                have R := aside' (K.out fun h => h.1.elim heu hev)
                clear heu hev
                go_wp2_with fail
                go_roundg (gk - 1)
                case rel => exact ⟨k + 1, -1, by omega, by go_num, rfl, R.out, rfl⟩
                case measure => omega
          · have hfj : 0 ≤ fd := by
              rcases hfd with ⟨h1, _⟩ | ⟨j, _, h1, _⟩
              · exact absurd h1 hf
              · omega
            have R := aside' (show FoundAt F at' used (k + 1) fd from by
              rcases hfd with ⟨h1, _⟩ | h1
              · exact absurd h1 hf
              · exact .inr h1)
            clear hfd hf
            go_wp2_with fail
            go_roundg (gk - 1)
            case rel => exact ⟨k + 1, fd, by omega, by go_num, rfl, R.out, rfl⟩
            case measure => omega
        · have hkk : k = F.length := by omega
          subst hkk
          unfold FoundAt at hfd
          rw [List.take_length] at hfd
          rcases hfd with ⟨rfl, hnone⟩ | ⟨j, e, rfl, hje, hfit⟩
          · have hsp : Spent F used at' := fun x hx hxa => Classical.byContradiction fun hno => hnone x hx ⟨hxa, hno⟩
            rcases Nat.eq_zero_or_pos L.length with h0 | h0
            · obtain rfl : L = [] := List.length_eq_zero_iff.1 h0
              have hno := J.out.2.1.lost J.out.2.2.2.2.2.2.2.2.1 hsp
              have R := aside' (show WayPost w F u v (.returned (.tuple #[.slice none 0 0, .bool false])) wr from ⟨_, [], false, rfl, RdE.nil _, by simp, fun h => absurd h hno, fun _ => ⟨rfl, rfl⟩, J.out.2.2.2.2.2.1⟩)
              clear hnone hsp hno
              go_wp2_with fail
              go_ret2
              exact R.out
            · obtain ⟨L', e, rfl⟩ : ∃ L' e, L = L' ++ [e] := ⟨_, _, (List.dropLast_concat_getLast (List.length_pos_iff.1 h0)).symm⟩
              obtain ⟨gb, rfl⟩ := hpa h0
              have hlen : (L' ++ [e]).length = L'.length + 1 := by simp
              have hP := J.out.2.2.1
              have hRP := J.out.2.2.2.2.2.2.2.2.2.1
              obtain ⟨-, -, eb, eoff, hea, heb, c0, c1, c2, c3⟩ := hRP.get (k := L'.length) (by rw [hlen]; omega)
              obtain ⟨rfl, rfl⟩ : gb = eb ∧ 0 = eoff := by
                cases hea
                exact ⟨rfl, rfl⟩
              have hge : (L' ++ [e])[L'.length]'(by rw [hlen]; omega) = e := by simp
              rw [hge] at c0 c1 c2 c3
              rw [hlen] at hP hc2 ⊢
              have hcut := owns_cut hP
              have hcap : L'.length + 1 ≤ pcap := by
                rcases hP.2 with ⟨h2, _⟩ | ⟨g', cap', cur, h3, h4, h5, h6, _⟩
                · cases h2
                · cases h3; exact h6
              have hpop := J.out.2.1.pop J.out.2.2.2.2.2.2.2.2.1 hsp
              have hoth := other_any e at' wr
              unfold valE at hoth
              have R := aside' (And.intro hcut (And.intro hpop.1 hlen))
              clear hcut hpop hlen hge hP hRP hea hnone hsp heb
              simp only [Nat.zero_add] at c0 c1 c2 c3
              go_wp2_with fail
              refine hoth.mono ?_
              rintro _ w4 ⟨rfl, hb4⟩
              have Q := aside' hb4
              clear hb4 hoth c0 c1 c2 c3
              go_wp2_with fail
              go_roundg (gk_outer - 1)
              case rel =>
                refine ⟨L', used, otherE e at', ?_, by go_num, R.out.2.1, owns_belowW R.out.1 Q.out, owns_belowW J.out.2.2.2.1 Q.out, J.out.2.2.2.2.1, J.out.2.2.2.2.2.1.trans (Q.out.mono J.out.2.2.2.2.2.1.size)⟩
                have h1 := J.out.1
                rw [R.out.2.2] at h1
                omega
              case measure => have h1 := J.out.1; rw [R.out.2.2] at h1; omega
          · obtain ⟨hjl, hje'⟩ := List.getElem?_eq_some_iff.1 hje
            obtain ⟨-, -, eb, eoff, hea, heb, c0, c1, c2, c3⟩ := A.out.1.get hjl
            subst hea
            rw [hje'] at c0 c1 c2 c3
            have G := aside' (And.intro c0 (And.intro c1 (And.intro c2 c3)))
            have hb1 := J.out.2.2.2.2.2.1
            replace c0 := (bcell hb1 _ _ heb).trans c0
            replace c1 := (bcell hb1 _ _ heb).trans c1
            replace c2 := (bcell hb1 _ _ heb).trans c2
            replace c3 := (bcell hb1 _ _ heb).trans c3
            have hpush := aside' (J.out.2.1.push J.out.2.2.2.2.2.2.2.2.1 (hje' ▸ List.getElem_mem hjl) hfit.1 hfit.2 A.out.2.2)
            have hU := J.out.2.2.2.1
            have hs1 := hb1.size
            have hLl : L.length ≤ 2048 := by omega
            have hUl : used.length ≤ 2048 := by omega
            have hoth : Aside (∀ W, Calls Tryz.prog 113 #[.agg #[.int .i64 e.id, .int .i64 e.u, .int .i64 e.v, .int .i64 e.w], .int .i64 at'] W fun r w' => r = .returned (.int .i64 (otherE e at')) ∧ Below W.heap.size W w') := fun W => other_any e at' W
            clear hje hje' hfit hb1
            go_wp2_with (first
              | (at_builtin; refine wpList_app_int rfl (.tmp 58) (.tmp 64) rfl w.heap.size (.slice ua used.length ucap) used e.id wr.heap.size 1 1 rfl (hU.alloc _) rfl rfl (World.alloc_heap_new _ _) (by omega) (by simp; omega) ?_; intro v' w3 happ; obtain ⟨g', cap', rfl, h1, h2, h3⟩ := happ; have H1 := aside' (And.intro h1 (And.intro (gr_below (bel_alloc J.out.2.2.2.2.2.1 (Nat.le_refl _) _) h2 (Nat.le_refl _) (owns_ge J.out.2.2.2.1)) (And.intro (World.ownsRow.kept (J.out.2.2.1.alloc _) h2 (.inr J.out.2.2.2.2.1)) (show (Value.slice pa L.length pcap).ownBlock ≠ some g' from fun hh => (h3.elim (fun h4 => J.out.2.2.2.2.1 (hh.trans h4)) (fun h4 => by have h5 := (J.out.2.2.1.lt g' hh).2; have h6 := Option.some.inj h4; simp at h6; omega)))))); clear c0 c1 c2 c3 h1 h2 h3; obtain ⟨c0, c1, c2, c3⟩ := (show w3.cell? ⟨eb, eoff + j * 4, none⟩ = some (.int .i64 e.id) ∧ w3.cell? ⟨eb, eoff + j * 4 + 1, none⟩ = some (.int .i64 e.u) ∧ w3.cell? ⟨eb, eoff + j * 4 + 2, none⟩ = some (.int .i64 e.v) ∧ w3.cell? ⟨eb, eoff + j * 4 + 3, none⟩ = some (.int .i64 e.w) from ⟨(bcell H1.out.2.1 _ _ heb).trans G.out.1, (bcell H1.out.2.1 _ _ heb).trans G.out.2.1, (bcell H1.out.2.1 _ _ heb).trans G.out.2.2.1, (bcell H1.out.2.1 _ _ heb).trans G.out.2.2.2⟩); have hs3 := H1.out.2.1.size)
              | (at_builtin; refine wpList_app_edge rfl (.tmp 66) (.tmp 71) rfl w.heap.size (.slice pa L.length pcap) L e w3.heap.size 1 1 rfl (World.ownsRow.alloc H1.out.2.2.1 _) rfl rfl (World.alloc_heap_new _ _) (by omega) (by simp; omega) ?_; intro v'' w5 happ; obtain ⟨g'', cap'', rfl, k1, k2, k3⟩ := happ; have H2 := aside' (And.intro k1 (And.intro (gr_below (bel_alloc H1.out.2.1 (Nat.le_refl _) _) k2 (Nat.le_refl _) (owns_ge J.out.2.2.1)) (And.intro (World.ownsRow.kept (World.ownsRow.alloc H1.out.1 _) k2 (.inr (fun hh => H1.out.2.2.2 hh.symm))) (show some g'' ≠ some g' from fun hh => (k3.elim (fun h4 => H1.out.2.2.2 (h4.symm.trans hh)) (fun h4 => by have h5 := (H1.out.1.lt g' rfl).2; have h6 := Option.some.inj (hh.symm.trans h4); simp at h6; omega)))))); clear c0 c1 c2 c3 k1 k2 k3; obtain ⟨c0, c1, c2, c3⟩ := (show w5.cell? ⟨eb, eoff + j * 4, none⟩ = some (.int .i64 e.id) ∧ w5.cell? ⟨eb, eoff + j * 4 + 1, none⟩ = some (.int .i64 e.u) ∧ w5.cell? ⟨eb, eoff + j * 4 + 2, none⟩ = some (.int .i64 e.v) ∧ w5.cell? ⟨eb, eoff + j * 4 + 3, none⟩ = some (.int .i64 e.w) from ⟨(bcell H2.out.2.1 _ _ heb).trans G.out.1, (bcell H2.out.2.1 _ _ heb).trans G.out.2.1, (bcell H2.out.2.1 _ _ heb).trans G.out.2.2.1, (bcell H2.out.2.1 _ _ heb).trans G.out.2.2.2⟩)))
            refine (hoth.out _).mono ?_
            rintro _ w6 ⟨rfl, hb6⟩
            have Q := aside' hb6
            clear hb6 c0 c1 c2 c3
            go_wp2_with fail
            go_roundg (gk_outer - 1)
            case rel =>
              have hcnt := hpush.out.count A.out.2.2
              simp only [List.length_append, List.length_cons, List.length_nil] at hcnt
              refine ⟨L ++ [e], used ++ [e.id], otherE e at', ?_, by go_num, hpush.out, ?_, ?_, H2.out.2.2.2, H2.out.2.1.trans (Q.out.mono H2.out.2.1.size)⟩
              · have h1 := J.out.1
                simp only [List.length_append, List.length_cons, List.length_nil]
                omega
              · rw [List.length_append]; exact owns_belowW H2.out.1 Q.out
              · rw [List.length_append]; exact owns_belowW H2.out.2.2.1 Q.out
            case measure =>
              have h1 := J.out.1
              have hcnt := hpush.out.count A.out.2.2
              simp only [List.length_append, List.length_cons, List.length_nil] at hcnt
              omega

end Go.Proofs.YthidhdffiebbgaaGreatDoor

namespace Go.Proofs.YthidhdffiebbgaaGreatDoor
open Go.BigFrame Go.RowKit Go.Proofs.YthidhdffiebbgaaGreatDoor.Sk

theorem forest_ids {E : List Edg} (hid : (E.map Edg.id).Pairwise (· < ·)) : ∀ a ∈ forestOf E, ∀ b ∈ forestOf E, a.id = b.id → a = b := fun a ha b hb h => by
  have h1 := edgeAt_in hid (forestOf_sub E a ha)
  have h2 := edgeAt_in hid (forestOf_sub E b hb)
  rw [h] at h1
  exact h1.symm.trans h2

set_option maxRecDepth 100000 in
set_option maxHeartbeats 2000000 in
theorem rpath_any (n : Value) (V : List Int) (E : List Edg) (u v : Int) (w : World) (hn : NetAt w n V E) (hu : wf64 u) (hv : wf64 v) :
    Calls Tryz.prog 52 #[n, .int .i64 u, .int .i64 v] w (PathPost w V E u v) := by
  obtain ⟨vs, es, rfl, hV, hE⟩ := hn.ex
  have hb0 : Below w.heap.size w ((w.alloc (.cells #[vs, es] 25)).alloc (.cells #[.int .i64 u, .int .i64 v] 3)) := ((Below.refl _ _).alloc (Nat.le_refl _) _).alloc (by simp) _
  have hq := rdI_two (w.alloc (.cells #[vs, es] 25)) u v hu hv
  simp only [World.size_alloc] at hq
  have hwf : ∀ e ∈ E, e.wf := by obtain ⟨_, _, _, h, _⟩ := hE; exact h
  have hask := rask_any _ _ V E [u, v] _ (hn.below hb0) hq
  have A := aside' (And.intro hn (And.intro hwf hb0))
  clear hn hV hE hwf hb0 hq
  go_enter Tryz.func52, Tryz.ntmps52
  go_wp2_with fail
  refine hask.mono ?_
  rintro _ w1 ⟨rfl, hb1⟩
  have B := aside' (A.out.2.2.trans (hb1.mono (by simp; omega)))
  by_cases hr : checkA V E [u, v] = 0
  · obtain ⟨hR, hin⟩ := checkA_in hr
    have n0 : w1.cell? ⟨w.heap.size, 0, none⟩ = some vs := by rw [bcell hb1 _ _ (by simp; omega), World.cell?_alloc_past _ _ _ (by simp), World.cell?_alloc_at _ _ _ _ rfl]; rfl
    have n1 : w1.cell? ⟨w.heap.size, 1, none⟩ = some es := by rw [bcell hb1 _ _ (by simp; omega), World.cell?_alloc_past _ _ _ (by simp), World.cell?_alloc_at _ _ _ _ rfl]; rfl
    have hF := rtaken_any _ V E w1 (A.out.1.below B.out) hR
    have R := aside' (And.intro hR hr)
    rw [hr]
    clear hask hb1 hr hR hin
    go_wp2_with fail
    refine hF.mono ?_
    rintro _ w2 ⟨fv, rfl, hO, hb2⟩
    have hlen : (forestOf E).length ≤ 2048 := by have := forestOf_le E; have := R.out.1.2.1; omega
    have hRd := rdE_of_owns hO (wf_sub A.out.2.1) (by omega)
    obtain ⟨F, hFe⟩ : ∃ F, forestOf E = F := ⟨_, rfl⟩
    have hids := forest_ids (E := E) R.out.1.2.2.2.2.2
    rw [hFe] at hRd hlen hO hids
    obtain ⟨fa, fcap, rfl, _⟩ := owns_form hO
    have hway := rway_any _ F u v w2 hRd hlen hids
    have C := aside' (And.intro (B.out.trans (hb2.mono B.out.size)) hFe)
    clear hRd hb2 hFe hO hF hids n0 n1
    go_wp2_with fail
    refine hway.mono ?_
    rintro _ w3 ⟨pv, L, b, rfl, hL, hl, hyes, hno, hb3⟩
    obtain ⟨pa, pcap, rfl, -, -, -⟩ := id hL
    have hB3 := C.out.1.trans (hb3.mono C.out.1.size)
    by_cases hco : Conn E u v
    · obtain ⟨rfl, h2, h3⟩ := hyes (by rw [← C.out.2]; exact (forest_conn E u v).2 hco)
      have Q := aside' (show PathPost w V E u v (.returned (.tuple #[.slice pa L.length pcap, .int .i64 0])) w3 from ⟨_, L, 0, rfl, hL, ⟨fun _ => ⟨fun _ => ⟨rfl, by rw [C.out.2]; exact h2, h3⟩, fun h => absurd hco h⟩, fun h => absurd R.out.2 h⟩, hl, hB3⟩)
      clear hway hL hl hyes hno hb3 hB3 hco h2 h3
      go_wp2_with fail
      go_ret2
      exact Q.out
    · obtain ⟨rfl, rfl⟩ := hno (by rw [← C.out.2]; exact fun h => hco ((forest_conn E u v).1 h))
      have Q := aside' (show PathPost w V E u v (.returned (.tuple #[.slice none 0 0, .int .i64 61])) w3 from ⟨_, [], 61, rfl, RdE.nil _, ⟨fun _ => ⟨fun h => absurd h hco, fun _ => ⟨rfl, rfl⟩⟩, fun h => absurd R.out.2 h⟩, by simp, hB3⟩)
      clear hway hL hl hyes hno hb3 hB3 hco
      go_wp2_with fail
      go_ret2
      exact Q.out
  · obtain ⟨c, hc⟩ : ∃ c, checkA V E [u, v] = c := ⟨_, rfl⟩
    have Q := aside' (show PathPost w V E u v (.returned (.tuple #[.slice none 0 0, .int .i64 c])) w1 from ⟨_, [], c, rfl, RdE.nil _, ⟨fun h => absurd h hr, fun _ => ⟨hc.symm, rfl⟩⟩, by simp, B.out⟩)
    rw [hc]
    rw [hc] at hr
    have hne : (c != 0) = true := by simp [hr]
    clear hask hb1 hr hc
    go_wp2_with fail
    go_ret2
    exact Q.out

set_option maxRecDepth 100000 in
set_option maxHeartbeats 2000000 in
theorem rpathIds_any (n : Value) (V : List Int) (E : List Edg) (u v : Int) (w : World) (hn : NetAt w n V E) (hu : wf64 u) (hv : wf64 v) :
    Calls Tryz.prog 20 #[n, .int .i64 u, .int .i64 v] w (PathIdsPost w V E u v) := by
  obtain ⟨vs, es, rfl, hV, hE⟩ := hn.ex
  have hb0 : Below w.heap.size w (w.alloc (.cells #[vs, es] 25)) := (Below.refl _ _).alloc (Nat.le_refl _) _
  have hp := rpath_any _ V E u v _ (hn.below hb0) hu hv
  have A := aside' hb0
  clear hn hV hE hb0
  go_enter Tryz.func20, Tryz.ntmps20
  go_wp2_with fail
  refine hp.mono ?_
  rintro _ w2 ⟨pv, L, c, rfl, hL, hPA, hl, hb⟩
  obtain ⟨pa, pcap, rfl, _, _, _⟩ := id hL
  have C := aside' (And.intro hL (And.intro (A.out.trans (hb.mono (by simp))) (And.intro hPA hl)))
  clear hL hb hPA hp
  go_wp2_with fail
  go_loopg [11, 10] L.length (fun g i o wr => ∃ k : Nat, k + g = L.length ∧ i = .int .i64 k ∧ wr.ownsRow w2.heap.size 3 1 o k (((L.take k).map Edg.id).map (Value.int .i64)) ∧ Below w2.heap.size w2 wr)
  case atStart => exact ⟨0, by omega, rfl, empty_row w2 3 1, (Below.refl _ _).alloc (Nat.le_refl _) _⟩
  case round =>
    obtain ⟨k, hk, rfl, hO, hbel⟩ := hrel
    obtain ⟨oa, ocap, rfl, -⟩ := owns_form hO
    by_cases hlt : k < L.length
    · obtain ⟨-, -, b, off, rfl, hb, g0, g1, g2, g3⟩ := (C.out.1.below hbel).get hlt
      obtain ⟨e, he⟩ : ∃ e, L[k] = e := ⟨_, rfl⟩
      rw [he] at g0 g1 g2 g3
      have hsn : (L.take (k + 1)).map Edg.id = (L.take k).map Edg.id ++ [e.id] := by rw [List.take_succ_eq_append_getElem hlt, he, List.map_append]; rfl
      have hnl : ((L.take k).map Edg.id).length = k := by rw [List.length_map, List.length_take]; omega
      obtain ⟨zs, hzs⟩ : ∃ zs, (L.take k).map Edg.id = zs := ⟨_, rfl⟩
      rw [hzs] at hO hsn hnl
      have K := aside' (And.intro hO (And.intro hbel hsn))
      have hO' := hO
      clear hO hbel he hsn hzs
      go_wp2_with (at_builtin; refine wpList_app_int rfl (.tmp 26) (.tmp 32) rfl w2.heap.size (.slice oa k ocap) zs e.id wr.heap.size 1 1 rfl (by rw [hnl]; exact hO'.alloc _) rfl rfl (World.alloc_heap_new _ _) (by rw [hnl]; omega) (by have := K.out.2.1.size; simp; omega) ?_; intro v' w3 happ; obtain ⟨g', cap', rfl, h1, h2, -⟩ := happ)
      rw [hnl] at *
      go_roundg (gk - 1)
      case rel => exact ⟨k + 1, by omega, by go_num, by rw [K.out.2.2]; exact h1, gr_below (bel_alloc K.out.2.1 (Nat.le_refl _) _) h2 (Nat.le_refl _) (owns_ge K.out.1)⟩
      case measure => omega
    · have hkk : k = L.length := by omega
      subst hkk
      rw [List.take_length] at hO
      have K := aside' (show PathIdsPost w V E u v (.returned (.tuple #[.slice oa L.length ocap, .int .i64 c])) wr from ⟨L, c, C.out.2.2.1, C.out.2.2.2, _, rfl, by rw [List.length_map]; exact owns_mono hO C.out.2.1.size, C.out.2.1.trans (hbel.mono C.out.2.1.size)⟩)
      clear hO hbel
      go_wp2_with fail
      go_ret2
      exact K.out

end Go.Proofs.YthidhdffiebbgaaGreatDoor

namespace Go.Proofs.YthidhdffiebbgaaGreatDoor
open Go.BigFrame Go.RowKit Go.Proofs.YthidhdffiebbgaaGreatDoor.Sk

set_option maxRecDepth 100000 in
set_option maxHeartbeats 2000000 in
theorem most_any (v : Value) (L : List Edg) (w : World) (hL : RdE w v L) (hl : L.length ≤ 2048) :
    Calls Tryz.prog 56 #[v] w fun e w' => e = .returned (valE (maxE L)) ∧ Below w.heap.size w w' := by
  obtain ⟨a, cap, rfl, -, -, -⟩ := id hL
  have A := aside' hL
  clear hL
  unfold valE
  go_enter Tryz.func56, Tryz.ntmps56
  have hz : Aside (BoxE ((w.alloc (.cells #[.int .i64 0, .int .i64 0, .int .i64 0, .int .i64 0] 47)).alloc (.cells #[.int .i64 0, .int .i64 0, .int .i64 0, .int .i64 0] 47)) (w.heap.size + 1) zE) := by
    have := World.alloc_heap_new (w.alloc (.cells #[.int .i64 0, .int .i64 0, .int .i64 0, .int .i64 0] 47)) (.cells #[.int .i64 0, .int .i64 0, .int .i64 0, .int .i64 0] 47)
    rw [World.size_alloc] at this
    exact this
  go_wp2_with fail
  go_loopg [4] L.length (fun g i wr => ∃ k : Nat, k + g = L.length ∧ i = .int .i64 k ∧ BoxE wr (w.heap.size + 1) (maxE (L.take k)) ∧ Below w.heap.size w wr ∧ w.heap.size + 2 ≤ wr.heap.size ∧ BoxE wr w.heap.size zE)
  case atStart =>
    refine ⟨0, by omega, rfl, hz.out, ((Below.refl _ _).alloc (Nat.le_refl _) _).alloc (by simp) _, by simp, ?_⟩
    exact ((World.grownBy_alloc _ _ none).block _ (by simp) (by simp)).trans (World.alloc_heap_new _ _)
  case round =>
    obtain ⟨k, hk, rfl, hbx, hbel, hsz, hb4⟩ := hrel
    obtain ⟨x0, x1, x2, x3⟩ := hbx.cells
    by_cases hlt : k < L.length
    · obtain ⟨-, -, b, off, rfl, hzb, g0, g1, g2, g3⟩ := (A.out.below hbel).get hlt
      obtain ⟨e, he⟩ : ∃ e, L[k] = e := ⟨_, rfl⟩
      rw [he] at g0 g1 g2 g3
      have hsn : L.take (k + 1) = L.take k ++ [e] := by rw [List.take_succ_eq_append_getElem hlt, he]
      obtain ⟨m, hm⟩ : ∃ m, maxE (L.take k) = m := ⟨_, rfl⟩
      rw [hm] at x0 x1 x2 x3 hbx
      rcases Nat.eq_zero_or_pos k with rfl | hk0
      · have hms : maxE (L.take (0 + 1)) = e := by rw [hsn]; rfl
        have D := aside' (And.intro hbx (And.intro hbel (And.intro hb4 hms)))
        obtain ⟨f0, f1, f2, f3⟩ := hbx.frozen
        simp only [Nat.zero_mul, Nat.add_zero] at g0 g1 g2 g3
        clear hbx hbel hb4 hms hsn hm he
        go_wp2_with fail
        go_big_quiet (fail)
        go_wp2_with fail
        go_roundg (gk - 1)
        case rel =>
          refine ⟨1, by omega, by go_num, ?_, set4_below e (bel_drewN D.out.2.1 _) (by omega), ?_, ?_⟩
          · rw [show (1 : Nat) = 0 + 1 from rfl, D.out.2.2.2]
            exact set4_box D.out.1 e
          · exact Nat.le_trans hsz (Nat.le_of_eq (set4_size (wr.drewN nq) (w.heap.size + 1) e).symm)
          · exact (set4_other _ (w.heap.size + 1) e _ (by omega)).trans D.out.2.2.1
        case measure => omega
      · have hms := maxE_snoc (L := L.take k) (by intro h; have := congrArg List.length h; rw [List.length_take, List.length_nil] at this; omega) e
        rw [← hsn, hm, max_ahead] at hms
        have hbx2 : Aside (∀ w', wr.grownBy w' none → BoxE w' (w.heap.size + 1) m ∧ BoxE w' w.heap.size zE) := fun w' h => ⟨(h.block _ (by omega) (by simp)).trans hbx, (h.block _ (by omega) (by simp)).trans hb4⟩
        have hah := ahead_any m e
        unfold valE at hah
        have hd0 : (0 < k) = True := eq_true hk0
        have hde : ((k : Int) == 0) = false := by rw [beq_eq_false_iff_ne]; omega
        by_cases hma : aheadB m e = true
        · have D := aside' (And.intro hbel (show maxE (L.take (k + 1)) = e from by rw [hms, if_pos hma]))
          have AH : Aside (∀ W, Calls Tryz.prog 31 #[.agg #[.int .i64 m.id, .int .i64 m.u, .int .i64 m.v, .int .i64 m.w], .agg #[.int .i64 e.id, .int .i64 e.u, .int .i64 e.v, .int .i64 e.w]] W fun r w' => r = .returned (.bool true) ∧ W.grownBy w' none) := fun W => by
            have := hah W
            rw [hma] at this
            exact this
          clear hbx hbel hb4 hms hsn hm he hah hma
          go_wp2_with fail
          go_region_held3 (fun w' => w'.cell? ⟨b, off + k * 4, none⟩ = some (.int .i64 e.id) ∧ w'.cell? ⟨b, off + k * 4 + 1, none⟩ = some (.int .i64 e.u) ∧ w'.cell? ⟨b, off + k * 4 + 2, none⟩ = some (.int .i64 e.v) ∧ w'.cell? ⟨b, off + k * 4 + 3, none⟩ = some (.int .i64 e.w) ∧
              w'.cell? ⟨w.heap.size + 1, 0, none⟩ = some (.int .i64 m.id) ∧ w'.cell? ⟨w.heap.size + 1, 1, none⟩ = some (.int .i64 m.u) ∧ w'.cell? ⟨w.heap.size + 1, 2, none⟩ = some (.int .i64 m.v) ∧ w'.cell? ⟨w.heap.size + 1, 3, none⟩ = some (.int .i64 m.w))
            (first
              | go_keep
              | (go_split_ands; refine ⟨hgr.cell ?_ (by simp), hgr.cell ?_ (by simp), hgr.cell ?_ (by simp), hgr.cell ?_ (by simp), hgr.cell ?_ (by simp), hgr.cell ?_ (by simp), hgr.cell ?_ (by simp), hgr.cell ?_ (by simp)⟩ <;> assumption))
            ((go_at_call 31; (with_reducible refine Calls.mono (AH.out _) ?_); rintro _ w3 ⟨rfl, hgr⟩))
          all_goals (
            rename_i hH
            obtain ⟨q0, q1, q2, q3, q4, q5, q6, q7⟩ := hH
            have hg2 : wr.grownBy w3 none := ⟨hgr.os, hgr.tape, hgr.output, hgr.size, hgr.block⟩
            have hb3 := (hbx2.out w3 hg2).1
            obtain ⟨f0, f1, f2, f3⟩ := hb3.frozen
            have G := aside' (And.intro hg2 (hbx2.out w3 hg2))
            clear hb3 hg2 hgr
            go_wp2_with fail
            go_roundg (gk - 1)
            case rel =>
              have hgs := G.out.1.size
              refine ⟨k + 1, by omega, by go_num, ?_, set4_below e (D.out.1.grown G.out.1 D.out.1.size (by simp)) (by omega), Nat.le_trans (Nat.le_trans hsz hgs) (Nat.le_of_eq (set4_size w3 (w.heap.size + 1) e).symm), (set4_other w3 (w.heap.size + 1) e _ (by omega)).trans G.out.2.2⟩
              rw [D.out.2]
              exact set4_box G.out.2.1 e
            case measure => omega
          )
        · have hma' : aheadB m e = false := by simpa using hma
          have D := aside' (And.intro hbel (show maxE (L.take (k + 1)) = m from by rw [hms, if_neg hma]))
          have AH : Aside (∀ W, Calls Tryz.prog 31 #[.agg #[.int .i64 m.id, .int .i64 m.u, .int .i64 m.v, .int .i64 m.w], .agg #[.int .i64 e.id, .int .i64 e.u, .int .i64 e.v, .int .i64 e.w]] W fun r w' => r = .returned (.bool false) ∧ W.grownBy w' none) := fun W => by
            have := hah W
            rw [hma'] at this
            exact this
          clear hbx hbel hb4 hms hsn hm he hah hma hma'
          go_wp2_with fail
          go_region_held3 (fun w' => w'.cell? ⟨b, off + k * 4, none⟩ = some (.int .i64 e.id) ∧ w'.cell? ⟨b, off + k * 4 + 1, none⟩ = some (.int .i64 e.u) ∧ w'.cell? ⟨b, off + k * 4 + 2, none⟩ = some (.int .i64 e.v) ∧ w'.cell? ⟨b, off + k * 4 + 3, none⟩ = some (.int .i64 e.w) ∧
              w'.cell? ⟨w.heap.size + 1, 0, none⟩ = some (.int .i64 m.id) ∧ w'.cell? ⟨w.heap.size + 1, 1, none⟩ = some (.int .i64 m.u) ∧ w'.cell? ⟨w.heap.size + 1, 2, none⟩ = some (.int .i64 m.v) ∧ w'.cell? ⟨w.heap.size + 1, 3, none⟩ = some (.int .i64 m.w))
            (first
              | go_keep
              | (go_split_ands; refine ⟨hgr.cell ?_ (by simp), hgr.cell ?_ (by simp), hgr.cell ?_ (by simp), hgr.cell ?_ (by simp), hgr.cell ?_ (by simp), hgr.cell ?_ (by simp), hgr.cell ?_ (by simp), hgr.cell ?_ (by simp)⟩ <;> assumption))
            ((go_at_call 31; (with_reducible refine Calls.mono (AH.out _) ?_); rintro _ w3 ⟨rfl, hgr⟩))
          all_goals (
            rename_i hH
            clear hH
            have hg2 : wr.grownBy w3 none := ⟨hgr.os, hgr.tape, hgr.output, hgr.size, hgr.block⟩
            have G := aside' (And.intro hg2 (hbx2.out w3 hg2))
            clear hg2 hgr
            go_wp2_with fail
            go_roundg (gk - 1)
            case rel =>
              have hgs := G.out.1.size
              refine ⟨k + 1, by omega, by go_num, ?_, D.out.1.grown G.out.1 D.out.1.size (by simp), Nat.le_trans hsz hgs, G.out.2.2⟩
              rw [D.out.2]
              exact G.out.2.1
            case measure => omega
          )
    · have hkk : k = L.length := by omega
      subst hkk
      rw [List.take_length] at x0 x1 x2 x3
      obtain ⟨z0, z1, z2, z3⟩ := hb4.cells
      obtain ⟨f0, f1, f2, f3⟩ := hb4.frozen
      have D := aside' (And.intro hbel hb4)
      clear hbel hb4 hbx
      go_wp2_with fail
      refine bodyPost_ret (results_cell_row rfl _ _ w.heap.size 47 #[.int .i64 (maxE L).id, .int .i64 (maxE L).u, .int .i64 (maxE L).v, .int .i64 (maxE L).w] (0, 0) _ rfl (set4_box (m := zE) D.out.2 (maxE L)) Tryz.underlying47 rfl (by kernel_rfl)) rfl ?_
      exact ⟨rfl, set4_below (maxE L) D.out.1 (Nat.le_refl _)⟩

end Go.Proofs.YthidhdffiebbgaaGreatDoor

namespace Go.Proofs.YthidhdffiebbgaaGreatDoor
open Go.BigFrame Go.RowKit Go.Proofs.YthidhdffiebbgaaGreatDoor.Sk
attribute [local go_sem] run_store_complex

theorem float_zero : floatOfInt .f64 0 = 0 := by kernel_rfl

theorem alongA_whole (L : List Edg) : alongA L 0 = if 70368744177664 < sumW L then (cells5 zE 0 0, 62) else (cells5 (maxE L) (floatOfInt .f64 (sumW L)) (floatOfInt .f64 L.length), 0) := by
  unfold alongA
  by_cases h : L = []
  · subst h
    rw [if_pos (.inr rfl), if_neg (by simp [sumW_nil]), sumW_nil]
    have : floatOfInt .f64 (([] : List Edg).length : Int) = 0 := float_zero
    rw [this, float_zero]
    rfl
  · rw [if_neg (by simp [h])]

set_option maxRecDepth 100000 in
set_option maxHeartbeats 2000000 in
theorem ralong_any (n : Value) (V : List Int) (E : List Edg) (u v : Int) (w : World) (hn : NetAt w n V E) (hu : wf64 u) (hv : wf64 v) :
    Calls Tryz.prog 22 #[n, .int .i64 u, .int .i64 v] w (AlongPost w V E u v) := by
  obtain ⟨vs, es, rfl, hV, hE⟩ := hn.ex
  have hb0 : Below w.heap.size w ((w.alloc (.cells #[vs, es] 25)).alloc (.cells (cells5 zE 0 0) 50)) := ((Below.refl _ _).alloc (Nat.le_refl _) _).alloc (by simp) _
  have hp := rpath_any _ V E u v _ (hn.below hb0) hu hv
  have hx0 : BoxA ((w.alloc (.cells #[vs, es] 25)).alloc (.cells (cells5 zE 0 0) 50)) (w.heap.size + 1) zE 0 0 := by
    have := World.alloc_heap_new (w.alloc (.cells #[vs, es] 25)) (.cells (cells5 zE 0 0) 50)
    rw [World.size_alloc] at this
    exact this
  have A := aside' (And.intro hb0 hx0)
  clear hn hV hE hb0 hx0
  unfold cells5 zE at hp
  go_enter Tryz.func22, Tryz.ntmps22
  go_wp2_with fail
  refine hp.mono ?_
  rintro _ w2 ⟨pv, L, c, rfl, hL, hPA, hl, hb⟩
  have hB2 : Below w.heap.size w w2 := A.out.1.trans (hb.mono (by simp; omega))
  have hx2 : BoxA w2 (w.heap.size + 1) zE 0 0 := (hb.block _ (by simp)).trans A.out.2
  obtain ⟨pa, pcap, rfl, _, hlen, _⟩ := id hL
  obtain ⟨⟨x0, x1, x2, x3, x4⟩, f0, f1, f2, f3, f4⟩ := hx2.cells
  by_cases hc : c = 0
  · subst hc
    have hck : checkA V E [u, v] = 0 := Classical.byContradiction fun h => by have := (hPA.2 h).1; omega
    have hR := (checkA_in hck).1
    have hco : Conn E u v := Classical.byContradiction fun h => by have := ((hPA.1 hck).2 h).1; omega
    obtain ⟨_, htr, _⟩ := (hPA.1 hck).1 hco
    have hok : ∀ e ∈ L, okE V e := fun e he => hR.2.2.2.1 e (forestOf_sub E e (htr.sub e he))
    have hbd := sumW_bounds L hok
    have hs2 := rsum_any _ V L w2 hL hl hok
    have hz2 : w.heap.size + 2 ≤ w2.heap.size := by have := hb.size; simpa using this
    have hmo := most_any _ L w2 hL hl
    unfold valE at hmo
    have SUM : Aside (∀ W, Below w2.heap.size w2 W → Calls Tryz.prog 55 #[.slice pa L.length pcap] W fun e w' => e = .returned (.int .i64 (sumW L)) ∧ W = w') := fun W hW => rsum_any _ V L W (hL.below hW) hl hok
    obtain ⟨s, hs⟩ : ∃ s, sumW L = s := ⟨_, rfl⟩
    rw [hs] at hs2 hbd SUM
    have hal := alongA_whole L
    rw [hs] at hal
    have C := aside' (And.intro hB2 (And.intro hPA (And.intro hx2 hl)))
    have hh1 := hbd.1
    have hh2 : s ≤ 2251799813685248 := by omega
    clear hp hb hck hR hco htr hok hbd hL hPA hB2 hx2 hs
    go_wp2_with fail
    refine hs2.mono ?_
    rintro _ _ ⟨rfl, rfl⟩
    by_cases hgt : 70368744177664 < s
    · have hal' := aside' (show alongA L 0 = (cells5 zE 0 0, 62) from by rw [hal, if_pos hgt])
      clear hal hmo hs2
      go_wp2_with fail
      refine bodyPost_ret (results_agg _ rfl _ _ (w.heap.size + 1) zE 0 0 rfl (set5_box C.out.2.2.1 zE 0 0)) rfl ?_
      exact ⟨L, 0, C.out.2.1, C.out.2.2.2, by rw [hal'.out]; rfl, set5_below zE 0 0 C.out.1 (by omega)⟩
    · have hal' := aside' (show alongA L 0 = (cells5 (maxE L) (floatOfInt .f64 s) (floatOfInt .f64 L.length), 0) from by rw [hal, if_neg hgt])
      clear hal hs2 x0 x1 x2 x3 x4 f0 f1 f2 f3 f4
      go_wp2_with fail
      refine hmo.mono ?_
      rintro _ w4 ⟨rfl, hb4⟩
      have hx4 : BoxA w4 (w.heap.size + 1) zE 0 0 := (hb4.block _ (by omega)).trans C.out.2.2.1
      obtain ⟨⟨x0, x1, x2, x3, x4⟩, f0, f1, f2, f3, f4⟩ := hx4.cells
      have R := aside' (And.intro hb4 hx4)
      have hs4 := SUM.out w4 hb4
      clear hb4 hx4 hmo
      go_wp2_with fail
      refine hs4.mono ?_
      rintro _ _ ⟨rfl, rfl⟩
      go_wp2_with fail
      refine bodyPost_ret (results_agg _ rfl _ _ (w.heap.size + 1) (maxE L) (floatOfInt .f64 s) (floatOfInt .f64 L.length) rfl (set5_box R.out.2 (maxE L) (floatOfInt .f64 s) (floatOfInt .f64 L.length))) rfl ?_
      exact ⟨L, 0, C.out.2.1, C.out.2.2.2, by rw [hal'.out]; rfl, set5_below (maxE L) _ _ (C.out.1.trans (R.out.1.mono (by omega))) (by omega)⟩
  · have hne : (c != 0) = true := by simp [hc]
    have hal := aside' (show alongA L c = (cells5 zE 0 0, c) from by unfold alongA; rw [if_pos (.inl hc)])
    have R := aside' (And.intro hPA (And.intro hB2 (And.intro hx2 hl)))
    clear hL hPA hb hB2 hx2 hp hc
    go_wp2_with fail
    refine bodyPost_ret (results_agg _ rfl _ _ (w.heap.size + 1) zE 0 0 rfl (set5_box R.out.2.2.1 zE 0 0)) rfl ?_
    exact ⟨L, c, R.out.1, R.out.2.2.2, by rw [hal.out]; rfl, set5_below zE 0 0 R.out.2.1 (by omega)⟩

end Go.Proofs.YthidhdffiebbgaaGreatDoor

namespace Go.Proofs.YthidhdffiebbgaaGreatDoor
open Go.BigFrame Go.RowKit Go.Proofs.YthidhdffiebbgaaGreatDoor.Sk

theorem info2 : (Tryz.prog.info? 2).map (fun i => (i.zero, i.size, i.bytes)) = some (some (.int .i64 0), 1, 8) := by kernel_rfl

/-- what one more number leaves -/
def AppJ (base : Nat) (W : World) (v : Value) (zs : List Int) (z : Int) (v' : Value) (w' : World) : Prop :=
  ∃ g cap, v' = .slice (some ⟨g, 0, none⟩) (zs.length + 1) cap ∧ w'.ownsRow base 2 1 v' (zs.length + 1) ((zs ++ [z]).map (Value.int .i64)) ∧ W.grownBy w' v.ownBlock

theorem wpList_app_i64 {ops : Array Oper} {rest : List Oper} {o : Oper} {a : Act} {Q : Exit → Act → World → Prop} {W : World} (hgd : o.guard = none) (s x : Operand)
    (ho : o.op = .call { callee := .builtin .append, args := #[s, x], argTypes := #[112, 112] }) (base : Nat) (v : Value) (zs : List Int) (z : Int) (g : Nat) (n c : Nat) (hs : a.eval s = v)
    (hO : W.ownsRow base 2 1 v zs.length (zs.map (Value.int .i64))) (hx : a.eval x = .slice (some ⟨g, 0, none⟩) n c) (hn : n = 1) (hg : W.heap[g]? = some (.cells #[.int .i64 z] 2 (0, 0))) (hl : zs.length ≤ 1000000) (hb : base ≤ W.heap.size)
    (h : ∀ v' w', AppJ base W v zs z v' w' → wpList Tryz.prog ops Q rest (a.put o.dst v') w') : wpList Tryz.prog ops Q (o :: rest) a W := by
  subst hn
  obtain ⟨i0, hi, hz0, hz1, hz2⟩ := info_parts info2
  refine wpList_append_own_at W hgd s x 112 ho base 2 i0 (.int .i64 0) 1 8 Tryz.underlying112 hi hz0 hz1 hz2 rfl (by decide) v zs.length _ hs hO ⟨g, 0, none⟩ 1 c [.int .i64 z] hx rfl
    (fun j u hj => ?_) (ints_oneCell .i64 [z]) (by unfold maxLen; omega) (by omega) hb (fun v' w' hown hgr _ hloc => ?_)
  · have := World.news_of_block (cs := #[.int .i64 z]) hg j u hj
    exact this
  · obtain ⟨g', cap', rfl⟩ := owns_succ hown
    exact h _ _ ⟨g', cap', rfl, by rw [List.map_append]; exact hown, hgr⟩

def DistPost (w : World) (F : List Edg) (V : List Int) (r : Int) (e : Ending) (w' : World) : Prop :=
  ∃ v, e = .returned v ∧ w'.ownsRow w.heap.size 2 1 v V.length ((distRow F V r).map (Value.int .i64)) ∧ Below w.heap.size w w'

set_option maxRecDepth 100000 in
set_option maxHeartbeats 4000000 in
theorem rdist_any (vs es : Value) (F : List Edg) (V : List Int) (r : Int) (w : World) (hV : RdI w vs V) (hE : RdE w es F) (hok : ∀ e ∈ F, okE V e) (hA : Acyc F) (hn : V.Nodup) (hVl : V.length ≤ 2048) (hFl : F.length ≤ 2048) (hr : r ∈ V) :
    Calls Tryz.prog 58 #[vs, es, .int .i64 r] w (DistPost w F V r) := by
  obtain ⟨va, vcap, rfl, -, -, -⟩ := id hV
  obtain ⟨fa, fcap, rfl, -, hf32, -⟩ := id hE
  have A := aside' (And.intro hV (And.intro hE (And.intro hok (And.intro hA (And.intro hn hr)))))
  clear hV hE hok hA hn hr
  go_enter Tryz.func58, Tryz.ntmps58
  go_wp2_with fail
  go_loopg [8, 7] V.length (fun g i o wr => ∃ k : Nat, k + g = V.length ∧ i = .int .i64 k ∧ wr.ownsRow w.heap.size 2 1 o k ((dist0 (V.take k) r).map (Value.int .i64)) ∧ Below w.heap.size w wr)
  case atStart => exact ⟨0, by omega, rfl, empty_row w 2 1, (Below.refl _ _).alloc (Nat.le_refl _) _⟩
  case round =>
    obtain ⟨k, hk, rfl, hO, hbel⟩ := hrel
    obtain ⟨oa, ocap, rfl, hob⟩ := owns_form hO
    by_cases hlt : k < V.length
    · obtain ⟨-, -, b, off, rfl, -, g0⟩ := (A.out.1.below hbel).get hlt
      obtain ⟨y, hy⟩ : ∃ y, V[k] = y := ⟨_, rfl⟩
      rw [hy] at g0
      have hnl : (dist0 (V.take k) r).length = k := by rw [dist0_len, List.length_take]; omega
      obtain ⟨zs, hzs⟩ : ∃ zs, dist0 (V.take k) r = zs := ⟨_, rfl⟩
      have hsn : dist0 (V.take (k + 1)) r = zs ++ [if y = r then 0 else -1] := by
        rw [List.take_succ_eq_append_getElem hlt, hy, ← hzs]
        simp [dist0]
      rw [hzs] at hO hnl
      have hO' := hO
      by_cases hyr : y = r
      · rw [if_pos hyr] at hsn
        have K := aside' (And.intro hO (And.intro hbel hsn))
        have hd : (y == r) = true := by simp [hyr]
        clear hO hbel hy hsn hzs hyr
        go_wp2_with (at_builtin; refine wpList_app_i64 rfl (.tmp 26) (.tmp 27) rfl w.heap.size (.slice oa k ocap) zs 0 wr.heap.size 1 1 rfl (by rw [hnl]; exact hO'.alloc _) rfl rfl (World.alloc_heap_new _ _) (by rw [hnl]; omega) (by have := K.out.2.1.size; simp; omega) ?_; intro v' w3 happ; obtain ⟨g', cap', rfl, h1, h2⟩ := happ)
        rw [hnl] at *
        go_roundg (gk - 1)
        case rel => exact ⟨k + 1, by omega, by go_num, by rw [K.out.2.2]; exact h1, gr_below (bel_alloc K.out.2.1 (Nat.le_refl _) _) h2 (Nat.le_refl _) (owns_ge K.out.1)⟩
        case measure => omega
      · rw [if_neg hyr] at hsn
        have K := aside' (And.intro hO (And.intro hbel hsn))
        have hd : (y == r) = false := by simp [hyr]
        clear hO hbel hy hsn hzs hyr
        go_wp2_with (at_builtin; refine wpList_app_i64 rfl (.tmp 29) (.tmp 30) rfl w.heap.size (.slice oa k ocap) zs (-1) wr.heap.size 1 1 rfl (by rw [hnl]; exact hO'.alloc _) rfl rfl (World.alloc_heap_new _ _) (by rw [hnl]; omega) (by have := K.out.2.1.size; simp; omega) ?_; intro v' w3 happ; obtain ⟨g', cap', rfl, h1, h2⟩ := happ)
        rw [hnl] at *
        go_roundg (gk - 1)
        case rel => exact ⟨k + 1, by omega, by go_num, by rw [K.out.2.2]; exact h1, gr_below (bel_alloc K.out.2.1 (Nat.le_refl _) _) h2 (Nat.le_refl _) (owns_ge K.out.1)⟩
        case measure => omega
    · have hkk : k = V.length := by omega
      subst hkk
      rw [List.take_length] at hO
      have hst := Dst.start (F := F) A.out.2.2.2.2.2
      have hV0 : 0 < V.length := List.length_pos_of_mem A.out.2.2.2.2.2
      obtain ⟨ob, rfl⟩ := hob hV0
      have K := aside' (And.intro hO (And.intro hbel hst))
      clear hO hbel hst hob
      go_wp2_with fail
      go_loopg [9] (cntN (dist0 V r) + 1) (fun g ag wx => ∃ (S : List Int) (b : Bool), ag = .bool b ∧ Dst F V r S ∧ (b = true → cntN S + 1 ≤ g) ∧ (b = false → ∀ e ∈ F, Known V S e.u ↔ Known V S e.v) ∧ wx.ownsRow w.heap.size 2 1 (.slice (some ⟨ob, 0, none⟩) V.length ocap) V.length (S.map (Value.int .i64)) ∧ Below w.heap.size w wx)
      case atStart => exact ⟨dist0 V r, true, rfl, K.out.2.2, fun _ => Nat.le_refl _, (fun h => by cases h), K.out.1, K.out.2.1⟩
      case round =>
        obtain ⟨S, b, rfl, hD, hcnt, hcl, hO, hbel⟩ := hrel
        obtain ⟨gk_outer, hgko⟩ : ∃ q, q = gk := ⟨_, rfl⟩
        rw [← hgko] at hcnt
        cases b with
        | false =>
          have R := aside' (show DistPost w F V r (.returned (.slice (some ⟨ob, 0, none⟩) V.length ocap)) wr from ⟨_, rfl, by rw [← hD.done A.out.2.2.2.2.1 A.out.2.2.2.1 (hcl rfl)]; exact hO, hbel⟩)
          clear hD hcnt hcl hO hbel
          go_wp2_with fail
          go_ret
          exact R.out
        | true =>
          have J := aside' (And.intro hD (And.intro (hcnt rfl) (And.intro hO hbel)))
          clear hD hcnt hcl hO hbel
          go_wp2_with fail
          go_loopg [10, 9] F.length (fun g i ag wx => ∃ (k : Nat) (S' : List Int) (b : Bool), k + g = F.length ∧ i = .int .i64 k ∧ ag = .bool b ∧ Dst F V r S' ∧ (b = true → cntN S' < cntN S) ∧ (b = false → S' = S ∧ ∀ e ∈ F.take k, Known V S e.u ↔ Known V S e.v) ∧ wx.ownsRow w.heap.size 2 1 (.slice (some ⟨ob, 0, none⟩) V.length ocap) V.length (S'.map (Value.int .i64)) ∧ Below w.heap.size w wx)
          case atStart => exact ⟨0, S, false, by omega, rfl, rfl, J.out.1, (fun h => by cases h), fun _ => ⟨rfl, by simp⟩, J.out.2.2.1, J.out.2.2.2⟩
          case round =>
            obtain ⟨k, S', b, hk, rfl, rfl, hD, hcn, hsm, hO, hbel⟩ := hrel
            by_cases hlt : k < F.length
            · obtain ⟨-, -, eb, eoff, hea, heb, g0, g1, g2, g3⟩ := A.out.2.1.get hlt
              subst hea
              obtain ⟨e, he⟩ : ∃ e, F[k] = e := ⟨_, rfl⟩
              rw [he] at g0 g1 g2 g3
              replace g0 := (bcell hbel _ _ heb).trans g0
              replace g1 := (bcell hbel _ _ heb).trans g1
              replace g2 := (bcell hbel _ _ heb).trans g2
              replace g3 := (bcell hbel _ _ heb).trans g3
              have heF : e ∈ F := he ▸ List.getElem_mem hlt
              have heok := A.out.2.2.1 e heF
              obtain ⟨iu, hiu, hiu1, hiu2⟩ := place_of A.out.2.2.2.2.1 heok.2.2.1
              obtain ⟨iv, hiv, hiv1, hiv2⟩ := place_of A.out.2.2.2.2.1 heok.2.2.2
              have hS'l := hD.len
              obtain ⟨da, hda⟩ : ∃ a, S'[iu]? = some a := ⟨_, List.getElem?_eq_getElem (by omega)⟩
              obtain ⟨db, hdb⟩ : ∃ b, S'[iv]? = some b := ⟨_, List.getElem?_eq_getElem (by omega)⟩
              have ca : wr.cell? ⟨ob, iu, none⟩ = some (.int .i64 da) := by rw [hO.cellAt iu (by omega), List.getElem?_map, hda]; rfl
              have cb : wr.cell? ⟨ob, iv, none⟩ = some (.int .i64 db) := by rw [hO.cellAt iv (by omega), List.getElem?_map, hdb]; rfl
              have PU : Aside (∀ W, Below wr.heap.size wr W → Calls Tryz.prog 45 #[.slice va V.length vcap, .int .i64 e.u] W fun r w' => r = .returned (.int .i64 iu) ∧ W = w') := fun W hW => place_at _ V e.u iu W (A.out.1.below (hbel.trans (hW.mono hbel.size))) hiu1 hiu2
              have PV : Aside (∀ W, Below wr.heap.size wr W → Calls Tryz.prog 45 #[.slice va V.length vcap, .int .i64 e.v] W fun r w' => r = .returned (.int .i64 iv) ∧ W = w') := fun W hW => place_at _ V e.v iv W (A.out.1.below (hbel.trans (hW.mono hbel.size))) hiv1 hiv2
              have hsn : F.take (k + 1) = F.take k ++ [e] := by rw [List.take_succ_eq_append_getElem hlt, he]
              have bda := hD.bound A.out.2.2.1 hFl hda
              have bdb := hD.bound A.out.2.2.1 hFl hdb
              have ku : Known V S' e.u ↔ 0 ≤ da := ⟨fun ⟨j, d, h1, h2, h3⟩ => by
                obtain rfl := nodup_idx A.out.2.2.2.2.1 h1 hiu1
                obtain rfl := Option.some.inj (h2.symm.trans hda)
                exact h3, fun h => ⟨iu, da, hiu1, hda, h⟩⟩
              have kv : Known V S' e.v ↔ 0 ≤ db := ⟨fun ⟨j, d, h1, h2, h3⟩ => by
                obtain rfl := nodup_idx A.out.2.2.2.2.1 h1 hiv1
                obtain rfl := Option.some.inj (h2.symm.trans hdb)
                exact h3, fun h => ⟨iv, db, hiv1, hdb, h⟩⟩
              have hew0 := heok.1
              have hew1 := heok.2.1
              by_cases hc1 : 0 ≤ da ∧ db < 0
              · have hst : Dst F V r (S'.set iv (da + e.w)) := hD.step A.out.2.2.2.2.1 heF heok.1 (.inl ⟨rfl, rfl⟩) hiu1 hda hc1.1 hiv1 hdb hc1.2
                have hct : cntN (S'.set iv (da + e.w)) < cntN S' := cntN_set hdb hc1.2 (by omega)
                have hne : iu ≠ iv := fun h => by
                  rw [h, hdb] at hda
                  have := Option.some.inj hda
                  omega
                have hs := hO.stored iv (.int .i64 (da + e.w))
                have hfz := hO.frozenAt iv
                have R := aside' (show Dst F V r (S'.set iv (da + e.w)) ∧ cntN (S'.set iv (da + e.w)) < cntN S from ⟨hst, by
                  cases b with
                  | true => have := hcn rfl; omega
                  | false => obtain ⟨rfl, _⟩ := hsm rfl; exact hct⟩)
                have heo : eb ≠ ob := fun h => by
                  have := (hO.lt ob rfl).1
                  omega
                obtain ⟨_, bda2⟩ := bda
                have M := aside' (And.intro hO hbel)
                have HDA := aside' (And.intro hda hS'l)
                have h01 := hc1.1
                have h02 := hc1.2
                have hs0 : 0 ≤ da + e.w := by omega
                have d2 : (da < 0) = False := eq_false (by omega)
                clear hD hcn hsm hbel he heF heok hiu1 hiv1 hiu2 hiv2 hda hdb hsn ku kv hc1 hS'l hst hct hs hO
                go_wp2_with fail
                go_big_quiet (first
                  | (go_at_call 45; with_reducible exact q_same' (PU.out _ (bel_drewN (Below.refl _ _) _)) ⟨_, rfl⟩)
                  | (go_at_call 45; with_reducible exact q_same' (PV.out _ (bel_drewN (Below.refl _ _) _)) ⟨_, rfl⟩))
                go_wp2_with fail
                go_region_held3 (fun w' => w'.cell? ⟨ob, iu, none⟩ = some (.int .i64 da) ∧ w'.cell? ⟨eb, eoff + k * 4 + 3, none⟩ = some (.int .i64 e.w)) (first | go_keep | exact ⟨(World.cell?_setCell_other _ _ _ _ (fun h => hne (by cases h; rfl))).trans ca, (World.cell?_setCell_other _ _ _ _ (fun h => heo (by cases h; rfl))).trans g3⟩) (fail)
                rename_i hH
                clear hH
                rw [show IntKind.i64.wrap (da + e.w) = da + e.w from IntWalk.i64_in _ (by omega)]
                have hOW := owns_belowW M.out.1 (bel_drewN (Below.refl wr.heap.size wr) (nq + 1))
                obtain ⟨wz, hwz⟩ : ∃ wz, (wr.drewN (nq + 1)).setCell ⟨ob, iv, none⟩ (.int .i64 (da + e.w)) = wz := ⟨_, rfl⟩
                have hOZ : wz.ownsRow w.heap.size 2 1 (.slice (some ⟨ob, 0, none⟩) V.length ocap) V.length ((S'.set iv (da + e.w)).map (Value.int .i64)) := by
                  rw [← hwz, List.map_set]
                  exact (hOW.stored iv (.int .i64 (da + e.w))).1
                have hBZ : Below w.heap.size w wz := by
                  rw [← hwz]
                  exact (bel_drewN M.out.2 (nq + 1)).setCell (p := ⟨ob, iv, none⟩) (M.out.1.lt ob rfl).1 _
                rw [hwz]
                clear ca cb
                have ca : wz.cell? ⟨ob, iu, none⟩ = some (.int .i64 da) := by rw [hOZ.cellAt iu (by omega), List.getElem?_map, List.getElem?_set_ne (fun h => hne h.symm), HDA.out.1]; rfl
                have cb : wz.cell? ⟨ob, iv, none⟩ = some (.int .i64 (da + e.w)) := by rw [hOZ.cellAt iv (by omega), List.getElem?_map, List.getElem?_set_self (by have := HDA.out.2; omega)]; rfl
                have Z := aside' (And.intro hOZ hBZ)
                clear hOZ hBZ hOW hwz hne heo
                go_wp2_with fail
                go_roundg (gk - 1)
                case rel => exact ⟨k + 1, S'.set iv (da + e.w), true, by omega, by go_num, rfl, R.out.1, fun _ => R.out.2, (fun h => by cases h), Z.out.1, Z.out.2⟩
                case measure => omega
              · by_cases hc2 : 0 ≤ db ∧ da < 0
                · have hst : Dst F V r (S'.set iu (db + e.w)) := hD.step A.out.2.2.2.2.1 heF heok.1 (.inr ⟨rfl, rfl⟩) hiv1 hdb hc2.1 hiu1 hda hc2.2
                  have hct : cntN (S'.set iu (db + e.w)) < cntN S' := cntN_set hda hc2.2 (by omega)
                  have hne : iv ≠ iu := fun h => by
                    rw [h, hda] at hdb
                    have := Option.some.inj hdb
                    omega
                  have hs := hO.stored iu (.int .i64 (db + e.w))
                  have hfz := hO.frozenAt iu
                  have R := aside' (show Dst F V r (S'.set iu (db + e.w)) ∧ cntN (S'.set iu (db + e.w)) < cntN S from ⟨hst, by
                    cases b with
                    | true => have := hcn rfl; omega
                    | false => obtain ⟨rfl, _⟩ := hsm rfl; exact hct⟩)
                  have heo : eb ≠ ob := fun h => by
                    have := (hO.lt ob rfl).1
                    omega
                  obtain ⟨_, bdb2⟩ := bdb
                  have M := aside' (And.intro hO hbel)
                  have HDA := aside' (And.intro hdb hS'l)
                  have h01 := hc2.1
                  have h02 := hc2.2
                  have hs0 : 0 ≤ db + e.w := by omega
                  have d2 : (0 ≤ da) = False := eq_false (by omega)
                  clear hD hcn hsm hbel he heF heok hiu1 hiv1 hiu2 hiv2 hda hdb hsn ku kv hc1 hc2 hS'l hst hct hs hO
                  go_wp2_with fail
                  go_big_quiet (first
                    | (go_at_call 45; with_reducible exact q_same' (PU.out _ (bel_drewN (Below.refl _ _) _)) ⟨_, rfl⟩)
                    | (go_at_call 45; with_reducible exact q_same' (PV.out _ (bel_drewN (Below.refl _ _) _)) ⟨_, rfl⟩))
                  go_wp2_with fail
                  go_region_held3 (fun w' => w'.cell? ⟨ob, iv, none⟩ = some (.int .i64 db) ∧ w'.cell? ⟨eb, eoff + k * 4 + 3, none⟩ = some (.int .i64 e.w)) (first | go_keep | exact ⟨(World.cell?_setCell_other _ _ _ _ (fun h => hne (by cases h; rfl))).trans cb, (World.cell?_setCell_other _ _ _ _ (fun h => heo (by cases h; rfl))).trans g3⟩) (fail)
                  rename_i hH
                  clear hH
                  rw [show IntKind.i64.wrap (db + e.w) = db + e.w from IntWalk.i64_in _ (by omega)]
                  have hOW := owns_belowW M.out.1 (bel_drewN (Below.refl wr.heap.size wr) (nq + 1))
                  obtain ⟨wz, hwz⟩ : ∃ wz, (wr.drewN (nq + 1)).setCell ⟨ob, iu, none⟩ (.int .i64 (db + e.w)) = wz := ⟨_, rfl⟩
                  have hOZ : wz.ownsRow w.heap.size 2 1 (.slice (some ⟨ob, 0, none⟩) V.length ocap) V.length ((S'.set iu (db + e.w)).map (Value.int .i64)) := by
                    rw [← hwz, List.map_set]
                    exact (hOW.stored iu (.int .i64 (db + e.w))).1
                  have hBZ : Below w.heap.size w wz := by
                    rw [← hwz]
                    exact (bel_drewN M.out.2 (nq + 1)).setCell (p := ⟨ob, iu, none⟩) (M.out.1.lt ob rfl).1 _
                  rw [hwz]
                  clear ca cb
                  have cb : wz.cell? ⟨ob, iv, none⟩ = some (.int .i64 db) := by rw [hOZ.cellAt iv (by omega), List.getElem?_map, List.getElem?_set_ne (fun h => hne h.symm), HDA.out.1]; rfl
                  have ca : wz.cell? ⟨ob, iu, none⟩ = some (.int .i64 (db + e.w)) := by rw [hOZ.cellAt iu (by omega), List.getElem?_map, List.getElem?_set_self (by have := HDA.out.2; omega)]; rfl
                  have Z := aside' (And.intro hOZ hBZ)
                  clear hOZ hBZ hOW hwz hne heo
                  go_wp2_with fail
                  go_roundg (gk - 1)
                  case rel => exact ⟨k + 1, S'.set iu (db + e.w), true, by omega, by go_num, rfl, R.out.1, fun _ => R.out.2, (fun h => by cases h), Z.out.1, Z.out.2⟩
                  case measure => omega
                · have hiff : (0 ≤ da ↔ 0 ≤ db) := by omega
                  have R := aside' (show Dst F V r S' ∧ (b = true → cntN S' < cntN S) ∧ (b = false → S' = S ∧ ∀ e ∈ F.take (k + 1), Known V S e.u ↔ Known V S e.v) from ⟨hD, hcn, fun h => by
                    obtain ⟨rfl, h2⟩ := hsm h
                    refine ⟨rfl, fun x hx => ?_⟩
                    rw [hsn, List.mem_append, List.mem_singleton] at hx
                    rcases hx with hx | rfl
                    · exact h2 x hx
                    · rw [ku, kv]; exact hiff⟩)
                  have M := aside' (And.intro hO hbel)
                  by_cases hd0 : 0 ≤ da
                  · have hd1 : 0 ≤ db := hiff.1 hd0
                    have d1 : (db < 0) = False := eq_false (by omega)
                    have d2 : (da < 0) = False := eq_false (by omega)
                    clear hD hcn hsm hO hbel he heF heok hiu1 hiv1 hiu2 hiv2 hda hdb hsn ku kv hc1 hc2 hiff hS'l
                    go_wp2_with fail
                    go_big_quiet (first
                      | (go_at_call 45; with_reducible exact q_same' (PU.out _ (bel_drewN (Below.refl _ _) _)) ⟨_, rfl⟩)
                      | (go_at_call 45; with_reducible exact q_same' (PV.out _ (bel_drewN (Below.refl _ _) _)) ⟨_, rfl⟩))
                    go_wp2_with fail
                    go_roundg (gk - 1)
                    case rel => exact ⟨k + 1, S', b, by omega, by go_num, rfl, R.out.1, R.out.2.1, R.out.2.2, owns_belowW M.out.1 (bel_drewN (Below.refl _ _) _), bel_drewN M.out.2 _⟩
                    case measure => omega
                  · have hd1 : db < 0 := by omega
                    have hd2 : da < 0 := by omega
                    have d1 : (0 ≤ db) = False := eq_false (by omega)
                    have d2 : (0 ≤ da) = False := eq_false (by omega)
                    clear hD hcn hsm hO hbel he heF heok hiu1 hiv1 hiu2 hiv2 hda hdb hsn ku kv hc1 hc2 hiff hS'l hd0
                    go_wp2_with fail
                    go_big_quiet (first
                      | (go_at_call 45; with_reducible exact q_same' (PU.out _ (bel_drewN (Below.refl _ _) _)) ⟨_, rfl⟩)
                      | (go_at_call 45; with_reducible exact q_same' (PV.out _ (bel_drewN (Below.refl _ _) _)) ⟨_, rfl⟩))
                    go_wp2_with fail
                    go_roundg (gk - 1)
                    case rel => exact ⟨k + 1, S', b, by omega, by go_num, rfl, R.out.1, R.out.2.1, R.out.2.2, owns_belowW M.out.1 (bel_drewN (Below.refl _ _) _), bel_drewN M.out.2 _⟩
                    case measure => omega
            · have hkk : k = F.length := by omega
              subst hkk
              rw [List.take_length] at hsm
              have R := aside' (show ∃ b', b = b' ∧ Dst F V r S' ∧ (b' = true → cntN S' + 1 ≤ gk_outer - 1) ∧ (b' = false → ∀ e ∈ F, Known V S' e.u ↔ Known V S' e.v) from ⟨b, rfl, hD, fun h => by have := hcn h; have := J.out.2.1; omega, fun h => by obtain ⟨rfl, h2⟩ := hsm h; exact h2⟩)
              have M := aside' (And.intro hO hbel)
              clear hD hcn hsm hO hbel
              go_wp2_with fail
              go_roundg (gk_outer - 1)
              case rel =>
                obtain ⟨b', hb', h1, h2, h3⟩ := R.out
                exact ⟨S', b, rfl, h1, hb' ▸ h2, hb' ▸ h3, M.out.1, M.out.2⟩
              case measure => have := J.out.2.1; omega

end Go.Proofs.YthidhdffiebbgaaGreatDoor

namespace Go.Proofs.YthidhdffiebbgaaGreatDoor
open Go.BigFrame Go.RowKit Go.Proofs.YthidhdffiebbgaaGreatDoor.Sk

theorem dist_bound {F : List Edg} {V : List Int} (hF : Acyc F) (hok : ∀ e ∈ F, okE V e) (hl : F.length ≤ 2048) {a b : Int} (h : Conn F a b) : 0 ≤ distF F a b ∧ distF F a b ≤ 2251799813685248 := by
  obtain ⟨L, h1, h2⟩ := acyc_way hF h
  rw [dist_of hF h1 h2]
  have hb := sumW_bounds L fun e he => hok e (h1.sub e he)
  have := nodupE_le h2 h1.sub
  omega

/-- the greatest distance out of the first k -/
def Most1 (F : List Edg) (V : List Int) (u : Int) (k : Nat) (m : Int) : Prop :=
  (0 ≤ m ∧ m ≤ 2251799813685248) ∧ (∃ a b, Conn F u a ∧ Conn F u b ∧ distF F a b = m) ∧ ∀ a ∈ V.take k, Conn F u a → ∀ b ∈ V, Conn F u b → distF F a b ≤ m
/-- and out of a to the first j -/
def Most2 (F : List Edg) (V : List Int) (u a : Int) (k j : Nat) (m : Int) : Prop := Most1 F V u k m ∧ ∀ b ∈ V.take j, Conn F u b → distF F a b ≤ m

theorem Most1.start {F : List Edg} (V : List Int) (u : Int) (hF : Acyc F) : Most1 F V u 0 0 :=
  ⟨⟨by omega, by omega⟩, ⟨u, u, .refl u, .refl u, dist_self hF u⟩, by simp⟩

theorem Most1.raise {F : List Edg} {V : List Int} {u a b m : Int} {k : Nat} (h : Most1 F V u k m) (ha : Conn F u a) (hb : Conn F u b) (hd : m < distF F a b) (hb2 : distF F a b ≤ 2251799813685248) : Most1 F V u k (distF F a b) :=
  ⟨⟨by have := h.1.1; omega, hb2⟩, ⟨a, b, ha, hb, rfl⟩, fun x hx hc y hy hcy => by have := h.2.2 x hx hc y hy hcy; omega⟩

theorem Most1.diam {F : List Edg} {V : List Int} {u m : Int} (h : Most1 F V u V.length m) (hu : u ∈ V) (hok : ∀ e ∈ F, okE V e) : Diam F u m := by
  have hin : ∀ x, Conn F u x → x ∈ V := fun x hx => (conn_keep (P := fun x => x ∈ V) (fun e he => ⟨fun _ => (hok e he).2.2.2, fun _ => (hok e he).2.2.1⟩) hx).1 hu
  refine ⟨fun a b ha hb => h.2.2 a (by rw [List.take_length]; exact hin a ha) ha b (hin b hb) hb, ?_⟩
  obtain ⟨a, b, h1, h2, h3⟩ := h.2.1
  exact ⟨a, b, h1, h2, h3⟩

/-- what the reference's Span answers -/
def RSpanA (V : List Int) (E : List Edg) (u : Int) (s c : Int) : Prop :=
  (checkA V E [u] = 0 → ∃ t, Diam (forestOf E) u t ∧ s = bsum t ∧ c = berr t) ∧ (checkA V E [u] ≠ 0 → s = 0 ∧ c = checkA V E [u])

theorem distRow_get {F : List Edg} {V : List Int} {r x : Int} {i : Nat} (hx : V[i]? = some x) : (Conn F r x → (distRow F V r)[i]? = some (distF F r x)) ∧ (¬ Conn F r x → (distRow F V r)[i]? = some (-1)) := by
  classical
  constructor
  · intro h
    rw [distRow, List.getElem?_map, hx, Option.map_some, if_pos h]
  · intro h
    rw [distRow, List.getElem?_map, hx, Option.map_some, if_neg h]

set_option maxRecDepth 100000 in
set_option maxHeartbeats 4000000 in
theorem rspan_any (n : Value) (V : List Int) (E : List Edg) (u : Int) (w : World) (hn : NetAt w n V E) (hu : wf64 u) :
    Calls Tryz.prog 24 #[n, .int .i64 u] w fun e w' => ∃ s c, e = .returned (.tuple #[.int .i64 s, .int .i64 c]) ∧ RSpanA V E u s c ∧ Below w.heap.size w w' := by
  obtain ⟨vs, es, rfl, hV, hE⟩ := hn.ex
  obtain ⟨va, vcap, rfl, -, -, -⟩ := id hV
  have hb0 : Below w.heap.size w ((w.alloc (.cells #[.slice va V.length vcap, es] 25)).alloc (.cells #[.int .i64 u] 3)) := ((Below.refl _ _).alloc (Nat.le_refl _) _).alloc (by simp) _
  have hq := rdI_one (w.alloc (.cells #[.slice va V.length vcap, es] 25)) u hu
  simp only [World.size_alloc] at hq
  have hwf : ∀ e ∈ E, e.wf := by obtain ⟨_, _, _, h, _⟩ := hE; exact h
  have hask := rask_any _ _ V E [u] _ (hn.below hb0) hq
  have A := aside' (And.intro hn (And.intro hwf (And.intro hb0 hV)))
  clear hn hV hE hwf hb0 hq
  go_enter Tryz.func24, Tryz.ntmps24
  go_wp2_with fail
  refine hask.mono ?_
  rintro _ w1 ⟨rfl, hb1⟩
  have B := aside' (A.out.2.2.1.trans (hb1.mono (by simp; omega)))
  by_cases hr : checkA V E [u] = 0
  · obtain ⟨hR, hin⟩ := checkA_in hr
    have n0 : w1.cell? ⟨w.heap.size, 0, none⟩ = some (.slice va V.length vcap) := by rw [bcell hb1 _ _ (by simp; omega), World.cell?_alloc_past _ _ _ (by simp), World.cell?_alloc_at _ _ _ _ rfl]; rfl
    have n1 : w1.cell? ⟨w.heap.size, 1, none⟩ = some es := by rw [bcell hb1 _ _ (by simp; omega), World.cell?_alloc_past _ _ _ (by simp), World.cell?_alloc_at _ _ _ _ rfl]; rfl
    have hzz : w.heap.size < w1.heap.size := by have := hb1.size; simp at this; omega
    have hF := rtaken_any _ V E w1 (A.out.1.below B.out) hR
    have R := aside' (And.intro hR (And.intro hr (show u ∈ V from hin u (by simp))))
    rw [hr]
    clear hask hb1 hr hR hin
    go_wp2_with fail
    refine hF.mono ?_
    rintro _ w2 ⟨fv, rfl, hO, hb2⟩
    have hlen : (forestOf E).length ≤ 2048 := by have := forestOf_le E; have := R.out.1.2.1; omega
    have hRd := rdE_of_owns hO (wf_sub A.out.2.1) (by omega)
    have hac := forest_acyc E
    have hokF : ∀ e ∈ forestOf E, okE V e := fun e he => R.out.1.2.2.2.1 e (forestOf_sub E e he)
    obtain ⟨F, hFe⟩ : ∃ F, forestOf E = F := ⟨_, rfl⟩
    rw [hFe] at hRd hlen hO hac hokF
    obtain ⟨fa, fcap, rfl, _⟩ := owns_form hO
    have n2 := (bcell hb2 _ 0 hzz).trans n0
    have hbw2 := B.out.trans (hb2.mono B.out.size)
    have DI : Aside (∀ W y, Below w2.heap.size w2 W → y ∈ V → Calls Tryz.prog 58 #[.slice va V.length vcap, .slice fa F.length fcap, .int .i64 y] W (DistPost W F V y)) := fun W y hW hy =>
      rdist_any _ _ F V y W (A.out.2.2.2.below (hbw2.trans (hW.mono hbw2.size))) (hRd.below hW) hokF hac (right_nodup R.out.1) R.out.1.1 hlen hy
    have hdi := DI.out w2 u (Below.refl _ _) R.out.2.2
    have C := aside' (And.intro hbw2 (And.intro hFe (And.intro hac hokF)))
    have hz2 : w.heap.size < w2.heap.size := Nat.lt_of_lt_of_le hzz hb2.size
    clear hRd hFe hO hF n0 n1 hb2 hbw2 hac hokF
    go_wp2_with fail
    refine hdi.mono ?_
    rintro _ w3 ⟨mv, rfl, hM, hb3⟩
    obtain ⟨ma, mcap, rfl, hma⟩ := owns_form hM
    obtain ⟨mb, rfl⟩ := hma (List.length_pos_of_mem R.out.2.2)
    have n3 := (bcell hb3 _ 0 hz2).trans n2
    have hz3 : w.heap.size < w3.heap.size := Nat.lt_of_lt_of_le hz2 hb3.size
    have G := aside' (And.intro hM hb3)
    have hVl := R.out.1.1
    clear hM hb3 hdi n2 hma
    go_wp2_with fail
    go_loopg [10, 9] V.length (fun g i mo wr => ∃ (k : Nat) (m : Int), k + g = V.length ∧ i = .int .i64 k ∧ mo = .int .i64 m ∧ Most1 F V u k m ∧ Below w3.heap.size w3 wr)
    case atStart => exact ⟨0, 0, by omega, rfl, rfl, Most1.start V u C.out.2.2.1, Below.refl _ _⟩
    case round =>
      obtain ⟨k, m, hk, rfl, rfl, hm, hbel⟩ := hrel
      obtain ⟨gk_outer, hgko⟩ : ∃ q, q = gk := ⟨_, rfl⟩
      rw [← hgko] at hk
      obtain ⟨wo, rfl⟩ : ∃ wo, wo = wr := ⟨_, rfl⟩
      have n4 := (bcell hbel _ 0 hz3).trans n3
      have hm01 := hm.1.1
      have hm02 := hm.1.2
      by_cases hlt : k < V.length
      · have hwo := C.out.1.trans ((G.out.2.trans (hbel.mono G.out.2.size)).mono C.out.1.size)
        obtain ⟨-, -, vb, voff, hva, hvb, g0⟩ := A.out.2.2.2.get hlt
        subst hva
        obtain ⟨y, hy⟩ : ∃ y, V[k] = y := ⟨_, rfl⟩
        rw [hy] at g0
        replace g0 := (bcell hwo _ _ hvb).trans g0
        have hyk : V[k]? = some y := by rw [List.getElem?_eq_getElem hlt, hy]
        have hyV : y ∈ V := hy ▸ List.getElem_mem hlt
        have hsn : V.take (k + 1) = V.take k ++ [y] := by rw [List.take_succ_eq_append_getElem hlt, hy]
        have hMo := owns_belowW G.out.1 hbel
        have hgetd := distRow_get (F := F) (r := u) hyk
        have hcc := hMo.cellAt k (by omega)
        have hzo := Nat.lt_of_lt_of_le hz3 hbel.size
        have hvbo := Nat.lt_of_lt_of_le hvb hwo.size
        have hw2o : Below w2.heap.size w2 wo := G.out.2.trans (hbel.mono G.out.2.size)
        by_cases hco : Conn F u y
        · have hbd := dist_bound C.out.2.2.1 C.out.2.2.2 hlen hco
          rw [List.getElem?_map, hgetd.1 hco, Option.map_some] at hcc
          obtain ⟨d0, hd0⟩ : ∃ d0, distF F u y = d0 := ⟨_, rfl⟩
          rw [hd0] at hcc hbd
          obtain ⟨hbd0, hbd1⟩ := hbd
          have J := aside' (And.intro hm (And.intro hbel (And.intro hk (And.intro hsn (And.intro hco (And.intro hyV hw2o))))))
          clear hm hbel hk hsn hco hMo hgetd hd0 hyk hy hyV hw2o hwo
          go_wp2_with fail
          go_region_held3 (fun w' => w'.cell? ⟨w.heap.size, 0, none⟩ = some (.slice (some ⟨vb, voff, none⟩) V.length vcap) ∧ w'.cell? ⟨vb, voff + k, none⟩ = some (.int .i64 y))
            (first | go_keep | exact ⟨(bcell HB9.out _ _ hzo).trans n4, (bcell HB9.out _ _ hvbo).trans g0⟩)
            ((go_at_call 58; (with_reducible refine Calls.mono (DI.out _ y (bel_drew J.out.2.2.2.2.2.2) J.out.2.2.2.2.2.1) ?_); rintro _ w9 ⟨dv, rfl, hd9, hb9⟩; have HB9 := aside' (show Below wo.heap.size wo w9 from (bel_drew (Below.refl _ _)).trans hb9); have HD9 := aside' hd9))
          all_goals (
            rename_i hH
            clear hH g0 hcc n4
            have hd := HD9.out
            obtain ⟨da, dcap, rfl, hda⟩ := owns_form hd
            obtain ⟨db, rfl⟩ := hda (by omega)
            have hcon := J.out.2.2.2.2.1
            have j1 := J.out.1
            clear hd hda
            go_wp2_with fail
            go_loopg [12, 9] V.length (fun g c mo wy => ∃ (j : Nat) (m' : Int), j + g = V.length ∧ c = .int .i64 j ∧ mo = .int .i64 m' ∧ Most2 F V u y k j m' ∧ wy = w9)
            case atStart => exact ⟨0, m, by omega, rfl, rfl, ⟨j1, by simp⟩, rfl⟩
            case round =>
              obtain ⟨j, m', hj, rfl, rfl, hm2, rfl⟩ := hrel
              have hm11 := hm2.1.1.1
              have hm12 := hm2.1.1.2
              by_cases hlj : j < V.length
              · obtain ⟨x, hx⟩ : ∃ x, V[j]? = some x := ⟨_, List.getElem?_eq_getElem hlj⟩
                have hxs : V.take (j + 1) = V.take j ++ [x] := by rw [List.take_succ_eq_append_getElem hlj, (List.getElem?_eq_some_iff.1 hx).2]
                have hcc := HD9.out.cellAt j (by omega)
                have hgx := distRow_get (F := F) (r := y) hx
                by_cases hcx : Conn F y x
                · rw [List.getElem?_map, hgx.1 hcx, Option.map_some] at hcc
                  have hbd := dist_bound C.out.2.2.1 C.out.2.2.2 hlen hcx
                  by_cases hgt : m' < distF F y x
                  · have N : Aside (Most2 F V u y k (j + 1) (distF F y x)) := ⟨hm2.1.raise hcon (hcon.trans hcx) hgt hbd.2, fun b hb hcb => by
                      rw [hxs, List.mem_append, List.mem_singleton] at hb
                      rcases hb with hb | rfl
                      · have := hm2.2 b hb hcb
                        omega
                      · exact Int.le_refl _⟩
                    obtain ⟨dd, hdd⟩ : ∃ dd, distF F y x = dd := ⟨_, rfl⟩
                    rw [hdd] at hcc hgt hbd N
                    clear hm2 hx hxs hgx hcx hdd hcon
                    go_wp2_with fail
                    go_roundg (gk - 1)
                    case rel => exact ⟨j + 1, dd, by omega, by go_num, rfl, N.out, rfl⟩
                    case measure => omega
                  · have N : Aside (Most2 F V u y k (j + 1) m') := ⟨hm2.1, fun b hb hcb => by
                      rw [hxs, List.mem_append, List.mem_singleton] at hb
                      rcases hb with hb | rfl
                      · exact hm2.2 b hb hcb
                      · omega⟩
                    obtain ⟨dd, hdd⟩ : ∃ dd, distF F y x = dd := ⟨_, rfl⟩
                    rw [hdd] at hcc hgt hbd
                    clear hm2 hx hxs hgx hcx hdd hcon
                    go_wp2_with fail
                    go_roundg (gk - 1)
                    case rel => exact ⟨j + 1, m', by omega, by go_num, rfl, N.out, rfl⟩
                    case measure => omega
                · rw [List.getElem?_map, hgx.2 hcx, Option.map_some] at hcc
                  have N : Aside (Most2 F V u y k (j + 1) m') := ⟨hm2.1, fun b hb hcb => by
                    rw [hxs, List.mem_append, List.mem_singleton] at hb
                    rcases hb with hb | rfl
                    · exact hm2.2 b hb hcb
                    · exact absurd (hcon.symm.trans hcb) hcx⟩
                  clear hm2 hx hxs hgx hcx hcon
                  go_wp2_with fail
                  go_roundg (gk - 1)
                  case rel => exact ⟨j + 1, m', by omega, by go_num, rfl, N.out, rfl⟩
                  case measure => omega
              · have hjj : j = V.length := by omega
                subst hjj
                have N : Aside (Most1 F V u (k + 1) m') := ⟨hm2.1.1, hm2.1.2.1, fun a ha hca b hb hcb => by
                  rw [J.out.2.2.2.1, List.mem_append, List.mem_singleton] at ha
                  rcases ha with ha | rfl
                  · exact hm2.1.2.2 a ha hca b hb hcb
                  · exact hm2.2 b (by rw [List.take_length]; exact hb) hcb⟩
                clear hm2
                go_wp2_with fail
                go_roundg (gk_outer - 1)
                case rel => exact ⟨k + 1, m', by have := J.out.2.2.1; omega, by go_num, rfl, N.out, J.out.2.1.trans (HB9.out.mono J.out.2.1.size)⟩
                case measure => have := J.out.2.2.1; omega
          )
        · rw [List.getElem?_map, hgetd.2 hco, Option.map_some] at hcc
          have J := aside' (show Most1 F V u (k + 1) m from ⟨hm.1, hm.2.1, fun x hx hc => by
            rw [hsn, List.mem_append, List.mem_singleton] at hx
            rcases hx with hx | rfl
            · exact hm.2.2 x hx hc
            · exact absurd hc hco⟩)
          have Jb := aside' hbel
          clear hm hbel hsn hco hMo hgetd hyk hy hyV hw2o hwo
          go_wp2_with fail
          go_roundg (gk_outer - 1)
          case rel => exact ⟨k + 1, m, by omega, by go_num, rfl, J.out, Jb.out⟩
          case measure => omega
      · have hkk : k = V.length := by omega
        subst hkk
        have hdi := hm.diam R.out.2.2 C.out.2.2.2
        have hbw : Below w.heap.size w wo := C.out.1.trans ((G.out.2.trans (hbel.mono G.out.2.size)).mono C.out.1.size)
        have J := aside' (show RSpanA V E u (bsum m) (berr m) from ⟨fun _ => ⟨m, by rw [C.out.2.1]; exact hdi, rfl, rfl⟩, fun h => absurd R.out.2.1 h⟩)
        have Jb := aside' hbw
        clear hm hbel hdi hbw
        by_cases hgt : 70368744177664 < m
        · have K := aside' (And.intro (show bsum m = 0 from if_pos hgt) (show berr m = 62 from if_pos hgt))
          go_wp2_with fail
          go_ret2
          exact ⟨bsum m, berr m, by rw [K.out.1, K.out.2]; rfl, J.out, Jb.out⟩
        · have K := aside' (And.intro (show bsum m = m from if_neg hgt) (show berr m = 0 from if_neg hgt))
          go_wp2_with fail
          go_ret2
          exact ⟨bsum m, berr m, by rw [K.out.1, K.out.2]; rfl, J.out, Jb.out⟩
  · obtain ⟨c, hc⟩ : ∃ c, checkA V E [u] = c := ⟨_, rfl⟩
    have Q := aside' (show RSpanA V E u 0 c from ⟨fun h => absurd h hr, fun _ => ⟨rfl, hc.symm⟩⟩)
    rw [hc]
    rw [hc] at hr
    have hne : (c != 0) = true := by simp [hr]
    clear hask hb1 hr hc
    go_wp2_with fail
    go_ret2
    exact ⟨0, c, rfl, Q.out, B.out⟩

end Go.Proofs.YthidhdffiebbgaaGreatDoor

namespace Go.Proofs.YthidhdffiebbgaaGreatDoor
open Go.BigFrame Go.RowKit Go.Proofs.YthidhdffiebbgaaGreatDoor.Sk

def TwinPost (w : World) (V : List Int) (E : List Edg) (e : Ending) (w' : World) : Prop :=
  ∃ vs es, e = .returned (.agg #[vs, es]) ∧ NetAt w' (.agg #[vs, es]) V E ∧ Below w.heap.size w w'

set_option maxRecDepth 100000 in
set_option maxHeartbeats 4000000 in
theorem twin_any (n : Value) (V : List Int) (E : List Edg) (w : World) (hn : NetAt w n V E) (hVl : V.length ≤ 1000000) (hEl : E.length ≤ 1000000) : Calls Tryz.prog 11 #[n] w (TwinPost w V E) := by
  obtain ⟨vs, es, rfl, hV, hE⟩ := hn.ex
  obtain ⟨ea, ecap, rfl, -, -, -⟩ := id hE
  have hwfE : ∀ e ∈ E, e.wf := by obtain ⟨_, _, _, h, _⟩ := hE; exact h
  have hwfV : ∀ x ∈ V, wf64 x := by obtain ⟨_, _, _, h, _⟩ := hV; exact h
  have hb0 : Below w.heap.size w ((w.alloc (.cells #[vs, .slice ea E.length ecap] 25)).alloc (.cells #[.slice none 0 0, .slice none 0 0] 25)) := ((Below.refl _ _).alloc (Nat.le_refl _) _).alloc (by simp) _
  have hcp := copyInts_any vs V _ (hV.below hb0) hVl
  have A := aside' (And.intro hE (And.intro hb0 (And.intro hwfE hwfV)))
  clear hn hV hE hb0 hwfE hwfV
  go_enter Tryz.func11, Tryz.ntmps11
  go_wp2_with fail
  refine hcp.mono ?_
  rintro _ w3 ⟨v3, rfl, hO3, hb3⟩
  have n1 : w3.cell? ⟨w.heap.size, 1, none⟩ = some (.slice ea E.length ecap) := by rw [bcell hb3 _ _ (by simp; omega), World.cell?_alloc_past _ _ _ (by simp), World.cell?_alloc_at _ _ _ _ rfl]; rfl
  have hx3 : w3.heap[w.heap.size + 1]? = some (.cells #[.slice none 0 0, .slice none 0 0] 25 (0, 0)) := by
    refine (hb3.block _ (by simp)).trans ?_
    have := World.alloc_heap_new (w.alloc (.cells #[vs, .slice ea E.length ecap] 25)) (.cells #[.slice none 0 0, .slice none 0 0] 25)
    rw [World.size_alloc] at this
    exact this
  have hz3 : w.heap.size + 1 < w3.heap.size := by have := hb3.size; simp at this; omega
  have B := aside' (And.intro (A.out.2.1.trans (hb3.mono (by simp; omega))) (And.intro hx3 hO3))
  clear hb3 hx3 hcp
  obtain ⟨va, vcap, rfl, -⟩ := owns_form hO3
  clear hO3
  go_wp2_with fail
  go_loopg [4] E.length (fun g i wr => ∃ (k : Nat) (o : Value), k + g = E.length ∧ i = .int .i64 k ∧ Below w3.heap.size w3 wr ∧ w3.heap.size < wr.heap.size ∧ wr.heap[w3.heap.size]? = some (.cells #[.slice va V.length vcap, o] 25 (0, 0)) ∧ wr.ownsRow (w3.heap.size + 1) 47 4 o k ((E.take k).flatMap encE))
  case atStart =>
    exact ⟨0, .slice none 0 0, by omega, rfl, (Below.refl _ _).alloc (Nat.le_refl _) _, by simp, World.alloc_heap_new _ _, by simpa using World.ownsRow_nil _ _ _ _⟩
  case round =>
    obtain ⟨k, o, hk, rfl, hbel, hsz, hbx, hrow⟩ := hrel
    have m1 := (bcell hbel _ 1 (show w.heap.size < w3.heap.size by omega)).trans n1
    have x0 : wr.cell? ⟨w3.heap.size, 0, none⟩ = some (.slice va V.length vcap) := by simp [World.cell?, hbx]
    have x1 : wr.cell? ⟨w3.heap.size, 1, none⟩ = some o := by simp [World.cell?, hbx]
    obtain ⟨oa5, ocap5, rfl, -⟩ := owns_form hrow
    by_cases hlt : k < E.length
    · have hbw : Below w.heap.size w wr := B.out.1.trans (hbel.mono B.out.1.size)
      obtain ⟨-, -, eb, eoff, hea, heb, g0, g1, g2, g3⟩ := (A.out.1.below hbw).get hlt
      subst hea
      obtain ⟨y, hy⟩ : ∃ y, E[k] = y := ⟨_, rfl⟩
      rw [hy] at g0 g1 g2 g3
      have hsn : E.take (k + 1) = E.take k ++ [y] := by rw [List.take_succ_eq_append_getElem hlt, hy]
      obtain ⟨S, hS⟩ : ∃ S, E.take k = S := ⟨_, rfl⟩
      rw [hS] at hrow hsn
      have RW : Aside (∀ W, Below wr.heap.size wr W → W.ownsRow (w3.heap.size + 1) 47 4 (.slice oa5 k ocap5) k (S.flatMap encE)) := fun W hW => owns_belowW hrow hW
      have hge : ∀ j, (Value.slice oa5 k ocap5).ownBlock = some j → w3.heap.size ≤ j := fun j h => by have := (hrow.lt _ h).1; omega
      have hne1 : some w3.heap.size ≠ (Value.slice oa5 k ocap5).ownBlock := fun h => by have := (hrow.lt _ h.symm).1; omega
      have Q := aside' (And.intro hbel (And.intro hsn hbx))
      obtain ⟨i1, hi1, hy0, hy1, hy2⟩ := info_parts info47
      clear hbel hsn hbx hS hbw hrow hy
      go_wp2_with fail
      go_region_law (first
          | (refine step_append_lies _ (by rfl) _ _ _ (by rfl) (w3.heap.size + 1) 47 i1 _ 4 32 Tryz.underlying23 hi1 hy0 hy1 hy2 rfl (by omega) (.slice oa5 k ocap5) k _ (by rfl) (RW.out _ ?hbl) ⟨wr.heap.size, 0, none⟩ 1 1 (encE y) (by rfl) (by rfl) (World.news_of_block (cs := #[.int .i64 y.id, .int .i64 y.u, .int .i64 y.v, .int .i64 y.w]) (t := 47) (fr := (0, 0)) ?hnb) (encE_one _) (by omega) (by unfold maxLen; omega) (by omega) (by simp; omega) (wr.heap.size + 1) (by simp) ?_
             (case hbl => repeat (first | exact Below.refl _ _ | refine bl_drew ?_ | refine bl_alloc ?_ _))
             (case hnb => repeat (first | exact World.alloc_heap_new _ _ | refine drew_new ?_))
             intro gg cap w8 hown8 hgrow hat hlt8
             have hbx8 := after_grow (by repeat (first | exact Below.refl _ _ | refine bl_drew ?_ | refine bl_alloc ?_ _)) hgrow hne1 hsz Q.out.2.2
             have z1 : w8.cell? ⟨w3.heap.size, 1, none⟩ = some (.slice oa5 k ocap5) := (by simp [World.cell?, hbx8])
             have zf : w8.frozen? ⟨w3.heap.size, 1, none⟩ = false := (by simp [World.frozen?, hbx8])
             have HB8 := aside' hbx8
             have HC8 := aside' (below_grow (by repeat (first | exact Below.refl _ _ | refine bl_drew ?_ | refine bl_alloc ?_ _)) hgrow (Nat.le_of_lt hsz) hge)
             clear hbx8)
          | fail)
      all_goals (
        obtain ⟨w9, hw9⟩ : ∃ w9, w8.setCell ⟨w3.heap.size, 1, none⟩ (.slice (some ⟨gg, 0, none⟩) (k + 1) cap) = w9 := ⟨_, rfl⟩
        have hb9 : Below w3.heap.size w3 w9 := hw9 ▸ (Q.out.1.trans HC8.out).setCell (p := ⟨w3.heap.size, 1, none⟩) (Nat.le_refl _) _
        have hx9 : w9.heap[w3.heap.size]? = some (.cells #[.slice va V.length vcap, .slice (some ⟨gg, 0, none⟩) (k + 1) cap] 25 (0, 0)) := hw9 ▸ heap_setCell_same w8 w3.heap.size 1 _ 25 _ HB8.out
        have ho9 : w9.ownsRow (w3.heap.size + 1) 47 4 (.slice (some ⟨gg, 0, none⟩) (k + 1) cap) (k + 1) (S.flatMap encE ++ encE y) := hw9 ▸ hown8.kept (grown_set w8 w3.heap.size 1 _) (.inr (fun h => by have := (hown8.lt _ h).1; omega))
        have hz9 : w3.heap.size < w9.heap.size := by
          have := HC8.out.size
          rw [← hw9]
          simp
          omega
        have T := aside' (And.intro hb9 (And.intro hx9 ho9))
        rw [hw9]
        clear hb9 hx9 ho9 hw9 hown8 hgrow HB8 HC8 hat hlt8
        go_wp2_with fail
        go_roundg (gk - 1)
        case rel =>
          refine ⟨k + 1, .slice (some ⟨gg, 0, none⟩) (k + 1) cap, by omega, by go_num, T.out.1, hz9, T.out.2.1, ?_⟩
          rw [Q.out.2.1, List.flatMap_append, show List.flatMap encE [y] = encE y from (by simp)]
          exact T.out.2.2
        case measure => omega
      )
    · have hkk : k = E.length := by omega
      subst hkk
      rw [List.take_length] at hrow
      have hbw : Below w.heap.size w wr := B.out.1.trans (hbel.mono B.out.1.size)
      have hBx : wr.heap[w.heap.size + 1]? = some (.cells #[.slice none 0 0, .slice none 0 0] 25 (0, 0)) := (hbel.block _ hz3).trans B.out.2.1
      have z0 : wr.cell? ⟨w.heap.size + 1, 0, none⟩ = some (.slice none 0 0) := by simp [World.cell?, hBx]
      have z1 : wr.cell? ⟨w.heap.size + 1, 1, none⟩ = some (.slice none 0 0) := by simp [World.cell?, hBx]
      have f0 : wr.frozen? ⟨w.heap.size + 1, 0, none⟩ = false := by simp [World.frozen?, hBx]
      have f1 : wr.frozen? ⟨w.heap.size + 1, 1, none⟩ = false := by simp [World.frozen?, hBx]
      have hVr : wr.ownsRow w.heap.size 3 1 (.slice va V.length vcap) V.length (V.map (Value.int .i64)) := owns_mono (owns_belowW B.out.2.2 hbel) (by simp; omega)
      have D := aside' (And.intro hbw (And.intro hBx (And.intro hVr (And.intro hrow (And.intro B.out.2.2 hbel)))))
      clear hbel hbx hrow hbw hBx hVr
      go_wp2_with fail
      refine bodyPost_ret (results_cell_row rfl _ _ (w.heap.size + 1) 25 #[.slice va V.length vcap, .slice oa5 E.length ocap5] (0, 0) _ rfl (heap_setCell_same _ (w.heap.size + 1) 1 _ 25 _ (heap_setCell_same wr (w.heap.size + 1) 0 _ 25 _ D.out.2.1)) Tryz.underlying25 rfl (by kernel_rfl)) rfl ?_
      have hVw := owns_belowW D.out.2.2.2.2.1 D.out.2.2.2.2.2
      have hEw := D.out.2.2.2.1
      have hV2 := (hVw.kept (set_grown wr (w.heap.size + 1) 0 (.slice va V.length vcap)) (.inr (fun h => by have := (hVw.lt _ h).1; simp at this; omega))).kept (set_grown _ (w.heap.size + 1) 1 (.slice oa5 E.length ocap5)) (.inr (fun h => by have := (hVw.lt _ h).1; simp at this; omega))
      have hE2 := (hEw.kept (set_grown wr (w.heap.size + 1) 0 (.slice va V.length vcap)) (.inr (fun h => by have := (hEw.lt _ h).1; omega))).kept (set_grown _ (w.heap.size + 1) 1 (.slice oa5 E.length ocap5)) (.inr (fun h => by have := (hEw.lt _ h).1; omega))
      refine ⟨_, _, rfl, ⟨_, _, rfl, rdI_own hV2 A.out.2.2.2 (by omega), rdE_of_owns hE2 A.out.2.2.1 (by omega)⟩, ?_⟩
      exact (D.out.1.setCell (p := ⟨w.heap.size + 1, 0, none⟩) (by simp) _).setCell (p := ⟨w.heap.size + 1, 1, none⟩) (by simp) _

end Go.Proofs.YthidhdffiebbgaaGreatDoor

namespace Go.Proofs.YthidhdffiebbgaaGreatDoor
open Go.BigFrame Go.RowKit Go.Proofs.YthidhdffiebbgaaGreatDoor.Sk

theorem same47 (k : Nat) (a b c d : Int) (w : World) : (Op.equalIn (k + 2) 47 (.agg #[.int .i64 a, .int .i64 b, .int .i64 c, .int .i64 d]) (.agg #[.int .i64 a, .int .i64 b, .int .i64 c, .int .i64 d])).run Tryz.prog w = .ok true w := by
  have e3 : ∀ n : Int, (Op.equalIn (k + 1) 3 (.int .i64 n) (.int .i64 n)).run Tryz.prog w = .ok true w := fun n => by
    rw [run_equalIn_int w k 3 .i64 .i64 n n Tryz.underlying3]; simp
  have e2 : ∀ n : Int, (Op.equalIn (k + 1) 2 (.int .i64 n) (.int .i64 n)).run Tryz.prog w = .ok true w := fun n => by
    rw [run_equalIn_int w k 2 .i64 .i64 n n Tryz.underlying2]; simp
  rw [run_equalIn_struct _ _ _ _ _ (by kernel_rfl) (by kernel_rfl)]
  simp [Program.fieldsOf, Tryz.underlying47, Op.eqFields, Sem.run_bind, Result.andThen, part3_0, part3_1, part3_2, part2_3, e3, e2]

theorem neq47 (a b c d : Int) (w : World) : (binOp .neq 47 (.agg #[.int .i64 a, .int .i64 b, .int .i64 c, .int .i64 d]) (.agg #[.int .i64 a, .int .i64 b, .int .i64 c, .int .i64 d])).run Tryz.prog w = .ok (.bool false) w := by
  rw [run_neq_struct, same47 9998]
  rfl

theorem part47_0 (a b c d : Int) (x y : Nat) (w : World) : (part 47 #[.int .i64 a, .int .i64 b, .int .i64 c, .int .i64 d, .complex .f64 x y] 0).run Tryz.prog w = .ok (.agg #[.int .i64 a, .int .i64 b, .int .i64 c, .int .i64 d]) w := by kernel_rfl
theorem part48_4 (a b c d : Int) (x y : Nat) (w : World) : (part 48 #[.int .i64 a, .int .i64 b, .int .i64 c, .int .i64 d, .complex .f64 x y] 4).run Tryz.prog w = .ok (.complex .f64 x y) w := by kernel_rfl

theorem neq50 (m : Edg) {x y : Nat} (hx : FloatKind.f64.format.order x x = some .eq) (hy : FloatKind.f64.format.order y y = some .eq) (w : World) :
    (binOp .neq 50 (.agg #[.int .i64 m.id, .int .i64 m.u, .int .i64 m.v, .int .i64 m.w, .complex .f64 x y]) (.agg #[.int .i64 m.id, .int .i64 m.u, .int .i64 m.v, .int .i64 m.w, .complex .f64 x y])).run Tryz.prog w = .ok (.bool false) w := by
  have e48 : (Op.equalIn 9999 48 (.complex .f64 x y) (.complex .f64 x y)).run Tryz.prog w = .ok true w := by
    rw [show (9999 : Nat) = 9998 + 1 from rfl]
    unfold Op.equalIn
    simp [Op.floatEq, hx, hy]
  rw [run_neq_struct, run_equalIn_struct _ _ _ _ _ (by kernel_rfl) (by kernel_rfl)]
  simp [Program.fieldsOf, Tryz.underlying50, Op.eqFields, Sem.run_bind, Result.andThen, part47_0, part48_4, same47 9997, e48]

end Go.Proofs.YthidhdffiebbgaaGreatDoor

namespace Go.Proofs.YthidhdffiebbgaaGreatDoor
open Go.BigFrame Go.RowKit Go.Proofs.YthidhdffiebbgaaGreatDoor.Sk
attribute [local go_sem] neq47

set_option maxRecDepth 100000 in
set_option maxHeartbeats 1000000 in
theorem sameEdges_any (a b : Value) (E : List Edg) (w : World) (ha : RdE w a E) (hb : RdE w b E) :
    Calls Tryz.prog 59 #[a, b] w fun e w' => e = .returned (.bool true) ∧ Below w.heap.size w w' := by
  obtain ⟨aa, acap, rfl, -, he32, -⟩ := id ha
  obtain ⟨ba, bcap, rfl, -, -, -⟩ := id hb
  have A := aside' (And.intro ha hb)
  clear ha hb
  go_enter Tryz.func59, Tryz.ntmps59
  go_wp2_with fail
  go_loopg [5] E.length (fun g i wr => ∃ (k : Nat), k + g = E.length ∧ i = .int .i64 k ∧ Below w.heap.size w wr)
  case atStart => exact ⟨0, by omega, rfl, Below.refl _ _⟩
  case round =>
    obtain ⟨k, hk, rfl, hbel⟩ := hrel
    by_cases hlt : k < E.length
    · obtain ⟨-, -, b1, o1, rfl, -, g0, g1, g2, g3⟩ := (A.out.1.below hbel).get hlt
      obtain ⟨-, -, b2, o2, rfl, -, c0, c1, c2, c3⟩ := (A.out.2.below hbel).get hlt
      obtain ⟨e, he⟩ : ∃ e, E[k] = e := ⟨_, rfl⟩
      rw [he] at g0 g1 g2 g3 c0 c1 c2 c3
      have B := aside' hbel
      clear he hbel
      go_wp2_with fail
      go_big_quiet (fail)
      go_wp2_with fail
      go_roundg (gk - 1)
      case rel => exact ⟨k + 1, by omega, by go_num, bel_drewN B.out _⟩
      case measure => omega
    · have hkk : k = E.length := by omega
      subst hkk
      go_wp2_with fail
      go_ret
      exact ⟨rfl, hbel⟩

set_option maxRecDepth 100000 in
set_option maxHeartbeats 1000000 in
theorem sameNet_any (a b : Value) (V : List Int) (E : List Edg) (w : World) (ha : NetAt w a V E) (hb : NetAt w b V E) :
    Calls Tryz.prog 28 #[a, b] w fun e w' => e = .returned (.bool true) ∧ Below w.heap.size w w' := by
  obtain ⟨vs, es, rfl, hV, hE⟩ := ha.ex
  obtain ⟨vs2, es2, rfl, hV2, hE2⟩ := hb.ex
  have hb0 : Below w.heap.size w ((w.alloc (.cells #[vs, es] 25)).alloc (.cells #[vs2, es2] 25)) := ((Below.refl _ _).alloc (Nat.le_refl _) _).alloc (by simp) _
  have h1 := same_ref vs vs2 V V _ (hV.below hb0) (hV2.below hb0)
  have h2 : Aside (∀ W, Below w.heap.size w W → Calls Tryz.prog 59 #[es, es2] W fun e w' => e = .returned (.bool true) ∧ Below W.heap.size W w') := fun W hW =>
    sameEdges_any es es2 E _ (hE.below hW) (hE2.below hW)
  have H := aside' hb0
  simp only [decide_true] at h1
  clear hV hE hV2 hE2 ha hb hb0
  go_enter Tryz.func28, Tryz.ntmps28
  go_wp2_with fail
  refine h1.mono ?_
  rintro _ w2 ⟨rfl, hq⟩
  have hb2 : Below w.heap.size w w2 := by
    obtain ⟨q, rfl⟩ := hq
    exact bel_drewN H.out q
  have c0 : w2.cell? ⟨w.heap.size, 1, none⟩ = some es := by
    obtain ⟨q, rfl⟩ := hq
    show ((w.alloc (.cells #[vs, es] 25)).alloc (.cells #[vs2, es2] 25)).cell? ⟨w.heap.size, 1, none⟩ = some es
    rw [World.cell?_alloc_past _ _ _ (by simp), World.cell?_alloc_at _ _ _ _ rfl]; rfl
  have c1 : w2.cell? ⟨w.heap.size + 1, 1, none⟩ = some es2 := by
    obtain ⟨q, rfl⟩ := hq
    show ((w.alloc (.cells #[vs, es] 25)).alloc (.cells #[vs2, es2] 25)).cell? ⟨w.heap.size + 1, 1, none⟩ = some es2
    rw [World.cell?_alloc_at _ _ _ _ (by simp)]; rfl
  have h3 := h2.out w2 hb2
  have B := aside' hb2
  clear hq hb2 h1
  go_wp2_with fail
  refine h3.mono ?_
  rintro _ w3 ⟨rfl, hb3⟩
  have C := aside' (B.out.trans (hb3.mono B.out.size))
  clear hb3
  go_wp2_with fail
  go_ret
  exact ⟨rfl, C.out⟩

end Go.Proofs.YthidhdffiebbgaaGreatDoor

namespace Go.Proofs.YthidhdffiebbgaaGreatDoor
open Go.BigFrame Go.RowKit Go.Proofs.YthidhdffiebbgaaGreatDoor.Sk

/-- three rows of the same numbers, each its own -/
def Three (w : World) (B : Nat) (a b c : Value) (zs : List Int) : Prop :=
  w.ownsRow B 3 1 a zs.length (zs.map (Value.int .i64)) ∧ w.ownsRow B 3 1 b zs.length (zs.map (Value.int .i64)) ∧ w.ownsRow B 3 1 c zs.length (zs.map (Value.int .i64)) ∧
  (b.ownBlock = none ∨ b.ownBlock ≠ a.ownBlock) ∧ (c.ownBlock = none ∨ c.ownBlock ≠ a.ownBlock)

theorem grown_drewN (w : World) (q : Nat) (row : Option Nat) : w.grownBy (w.drewN q) row := ⟨rfl, rfl, rfl, Nat.le_refl _, fun _ _ _ => rfl⟩
theorem grown_trans {w w1 w2 : World} {row : Option Nat} (h : w.grownBy w1 row) (k : w1.grownBy w2 row) : w.grownBy w2 row :=
  ⟨k.os.trans h.os, k.tape.trans h.tape, k.output.trans h.output, Nat.le_trans h.size k.size, fun j hj hn => (k.block j (Nat.lt_of_lt_of_le hj h.size) hn).trans (h.block j hj hn)⟩

set_option maxRecDepth 100000 in
set_option maxHeartbeats 1000000 in
theorem twice_any (a b c : Value) (zs : List Int) (B : Nat) (w : World) (h : Three w B a b c zs) (hwf : ∀ x ∈ zs, wf64 x) (hl : zs.length ≤ 2048) :
    Calls Tryz.prog 18 #[a, b, c] w fun e w' => e = .returned (.bool true) ∧ w.grownBy w' a.ownBlock := by
  obtain ⟨ha, hb, hc, hn1, hn2⟩ := h
  have h1 := same_ref a c zs zs w (rdI_own ha hwf (by omega)) (rdI_own hc hwf (by omega))
  have h2 : Aside (∀ q, Calls Tryz.prog 27 #[b, c] (w.drewN q) fun e w' => e = .returned (.bool true) ∧ ∃ q', w' = (w.drewN q).drewN q') := fun q => by
    have hW : Below w.heap.size w (w.drewN q) := bel_drewN (Below.refl _ _) q
    have := same_ref b c zs zs (w.drewN q) (rdI_own (owns_belowW hb hW) hwf (by omega)) (rdI_own (owns_belowW hc hW) hwf (by omega))
    simp only [decide_true] at this
    exact this
  simp only [decide_true] at h1
  have A := aside' (And.intro ha (And.intro hb (And.intro hc (And.intro hn1 (And.intro hn2 hwf)))))
  obtain ⟨aa, acap, rfl, haa⟩ := owns_form ha
  obtain ⟨ba, bcap, rfl, -⟩ := owns_form hb
  obtain ⟨ca, ccap, rfl, -⟩ := owns_form hc
  clear ha hb hc hn1 hn2 hwf
  go_enter Tryz.func18, Tryz.ntmps18
  go_wp2_with fail
  refine h1.mono ?_
  rintro _ _ ⟨rfl, q, rfl⟩
  have h3 := h2.out q
  go_wp2_with fail
  refine h3.mono ?_
  rintro _ w3 ⟨rfl, hq⟩
  have hW : Below w.heap.size w w3 := by
    obtain ⟨q', rfl⟩ := hq
    exact bel_drewN (bel_drewN (Below.refl _ _) q) q'
  have C := aside' (And.intro (show w.grownBy w3 (Value.slice aa zs.length acap).ownBlock from by
    obtain ⟨q', rfl⟩ := hq
    exact grown_trans (grown_drewN w q _) (grown_drewN _ q' _)) (And.intro (owns_belowW A.out.1 hW) (And.intro (owns_belowW A.out.2.1 hW) (owns_belowW A.out.2.2.1 hW))))
  clear hq hW h1 h3 h2
  go_wp2_with fail
  go_loopg [20] zs.length (fun g i wr => ∃ (k : Nat) (xs : List Value), k + g = zs.length ∧ i = .int .i64 k ∧ xs.length = zs.length ∧ wr.ownsRow B 3 1 (.slice aa zs.length acap) zs.length xs ∧ wr.ownsRow B 3 1 (.slice ba zs.length bcap) zs.length (zs.map (Value.int .i64)) ∧ wr.ownsRow B 3 1 (.slice ca zs.length ccap) zs.length (zs.map (Value.int .i64)) ∧ w.grownBy wr (Value.slice aa zs.length acap).ownBlock)
  case atStart => exact ⟨0, _, by omega, rfl, by simp, C.out.2.1, C.out.2.2.1, C.out.2.2.2, C.out.1⟩
  case round =>
    obtain ⟨k, xs, hk, rfl, hxl, ha, hb, hc, hbel⟩ := hrel
    by_cases hlt : k < zs.length
    · obtain ⟨ab, rfl⟩ := haa (by omega)
      obtain ⟨x, hx⟩ : ∃ x, xs[k]? = some x := ⟨_, List.getElem?_eq_getElem (by omega)⟩
      have cx : wr.cell? ⟨ab, k, none⟩ = some x := by rw [ha.cellAt k (by omega), hx]
      have hfz := ha.frozenAt k
      have hst := ha.stored k (.int .i64 (-5))
      have hgr := set_grown wr ab k (.int .i64 (-5))
      have D := aside' (And.intro hst.1 (And.intro (hb.kept hgr A.out.2.2.2.1) (And.intro (hc.kept hgr A.out.2.2.2.2.1) (grown_trans hbel hgr))))
      clear ha hb hc hbel hst hgr hx
      go_wp2_with fail
      go_roundg (gk - 1)
      case rel => exact ⟨k + 1, xs.set k (.int .i64 (-5)), by omega, by go_num, by simp; omega, D.out.1, D.out.2.1, D.out.2.2.1, D.out.2.2.2⟩
      case measure => omega
    · have h4 := same_ref _ _ zs zs wr (rdI_own hb A.out.2.2.2.2.2 (by omega)) (rdI_own hc A.out.2.2.2.2.2 (by omega))
      simp only [decide_true] at h4
      have D := aside' hbel
      have hkk : k = zs.length := by omega
      subst hkk
      clear ha hb hc hbel
      go_wp2_with fail
      refine h4.mono ?_
      rintro _ w5 ⟨rfl, hq⟩
      have E := aside' (show w.grownBy w5 (Value.slice aa zs.length acap).ownBlock from by
        obtain ⟨q', rfl⟩ := hq
        exact grown_trans D.out (grown_drewN _ q' _))
      clear hq
      go_wp2_with fail
      go_ret
      exact ⟨rfl, E.out⟩

end Go.Proofs.YthidhdffiebbgaaGreatDoor

namespace Go.Proofs.YthidhdffiebbgaaGreatDoor
open Go.BigFrame Go.RowKit Go.Proofs.YthidhdffiebbgaaGreatDoor.Sk
attribute [local go_sem] run_store_complex

theorem pathA_sub {V : List Int} {E : List Edg} {u v c : Int} {L : List Edg} (h : PathA V E u v L c) : ∀ e ∈ L, e ∈ E := by
  by_cases hc : checkA V E [u, v] = 0
  · by_cases hco : Conn E u v
    · obtain ⟨_, h2, _⟩ := (h.1 hc).1 hco
      exact fun e he => forestOf_sub E e (h2.sub e he)
    · obtain ⟨_, rfl⟩ := (h.1 hc).2 hco
      simp
  · obtain ⟨_, rfl⟩ := h.2 hc
    simp

theorem order_zero : FloatKind.f64.format.order 0 0 = some .eq := by
  have := float_self (n := 0) (by omega)
  rwa [float_zero] at this

theorem alongA_form {V : List Int} {E : List Edg} {u v c : Int} {L : List Edg} (h : PathA V E u v L c) :
    ∃ (m : Edg) (x y : Nat) (g : Int), alongA L c = (cells5 m x y, g) ∧ FloatKind.f64.format.order x x = some .eq ∧ FloatKind.f64.format.order y y = some .eq := by
  by_cases hc : c ≠ 0 ∨ L = []
  · exact ⟨zE, 0, 0, c, by unfold alongA; rw [if_pos hc], order_zero, order_zero⟩
  · by_cases hs : 70368744177664 < sumW L
    · exact ⟨zE, 0, 0, 62, by unfold alongA; rw [if_neg hc, if_pos hs], order_zero, order_zero⟩
    · have h0 : 0 ≤ sumW L := by
        by_cases hck : checkA V E [u, v] = 0
        · have hR := (checkA_in hck).1
          exact (sumW_bounds (V := V) L fun e he => hR.2.2.2.1 e (pathA_sub h e he)).1
        · obtain ⟨_, rfl⟩ := h.2 hck
          simp [sumW_nil]
      exact ⟨maxE L, _, _, 0, by unfold alongA; rw [if_neg hc, if_neg hs], float_self h0, float_self (by omega)⟩

theorem rspan_one {V : List Int} {E : List Edg} {u s c s2 c2 : Int} (h : SpanA V E u s c) (k : RSpanA V E u s2 c2) : s2 = s ∧ c2 = c := by
  by_cases hc : checkA V E [u] = 0
  · obtain ⟨t, h1, rfl, rfl⟩ := spanA_diam h hc
    obtain ⟨t2, k1, rfl, rfl⟩ := k.1 hc
    rw [h1.one k1 (.refl u)]
    exact ⟨rfl, rfl⟩
  · obtain ⟨rfl, rfl⟩ := h.2 hc
    obtain ⟨rfl, rfl⟩ := k.2 hc
    exact ⟨rfl, rfl⟩

theorem four_cells {w0 W : World} {a b : Nat} {v0 v1 v2 v3 : Value} (h : Below w0.heap.size w0 W) (ha : a < w0.heap.size) (hb : b < w0.heap.size)
    (hc : w0.cell? ⟨a, 0, none⟩ = some v0 ∧ w0.cell? ⟨a, 1, none⟩ = some v1 ∧ w0.cell? ⟨b, 0, none⟩ = some v2 ∧ w0.cell? ⟨b, 1, none⟩ = some v3) :
    W.cell? ⟨a, 0, none⟩ = some v0 ∧ W.cell? ⟨a, 1, none⟩ = some v1 ∧ W.cell? ⟨b, 0, none⟩ = some v2 ∧ W.cell? ⟨b, 1, none⟩ = some v3 :=
  ⟨(bcell h _ _ ha).trans hc.1, (bcell h _ _ ha).trans hc.2.1, (bcell h _ _ hb).trans hc.2.2.1, (bcell h _ _ hb).trans hc.2.2.2⟩

theorem ids_wf {E : List Edg} (hE : ∀ e ∈ E, e.wf) (V : List Int) : ∀ x ∈ forestIds V E, wf64 x := fun x hx => by
  by_cases hR : Right V E
  · obtain ⟨e, he, rfl⟩ := List.mem_map.1 (forestIds_mem hR hx)
    exact (hE e he).1
  · unfold forestIds at hx
    rw [if_neg hR] at hx
    simp at hx

set_option maxRecDepth 100000 in
set_option maxHeartbeats 8000000 in
theorem plainNets_any (n : Value) (V : List Int) (E : List Edg) (u v : Int) (w : World) (hn : NetAt w n V E) (hu : wf64 u) (hv : wf64 v) :
    Calls Tryz.prog 3 #[n, .int .i64 u, .int .i64 v] w fun e w' => e = .returned (.bool true) ∧ Below w.heap.size w w' := by
  obtain ⟨vs, es, rfl, hV, hE⟩ := hn.ex
  have hwf : ∀ e ∈ E, e.wf := by obtain ⟨_, _, _, h, _⟩ := hE; exact h
  obtain ⟨va, vcap, rfl, -, -, -⟩ := hV
  obtain ⟨ea, ecap, rfl, -, he32, -⟩ := hE
  have hb0 : Below w.heap.size w (w.alloc (.cells #[.slice va V.length vcap, .slice ea E.length ecap] 25)) := (Below.refl _ _).alloc (Nat.le_refl _) _
  have A := aside' (And.intro hn (And.intro hb0 hwf))
  clear hn hb0 hwf
  go_enter Tryz.func3, Tryz.ntmps3
  go_wp2_with fail
  refine (alive_any _).mono ?_
  rintro _ w1 ⟨rfl, hb1⟩
  have n0 : w1.cell? ⟨w.heap.size, 0, none⟩ = some (.slice va V.length vcap) := by rw [bcell hb1 _ _ (by simp), World.cell?_alloc_at _ _ _ _ rfl]; rfl
  have n1 : w1.cell? ⟨w.heap.size, 1, none⟩ = some (.slice ea E.length ecap) := by rw [bcell hb1 _ _ (by simp), World.cell?_alloc_at _ _ _ _ rfl]; rfl
  have hz1 : w.heap.size < w1.heap.size := by have := hb1.size; simp at this; omega
  have B := aside' (A.out.2.1.trans (hb1.mono (by simp)))
  clear hb1
  have hN1 := A.out.1.below B.out
  have big : (300 < V.length ∨ 300 < E.length) ∨ (V.length ≤ 300 ∧ E.length ≤ 300) := by omega
  rcases big with big | ⟨hv300, he300⟩
  · obtain ⟨c, hc⟩ : ∃ c, checkN V E = c := ⟨_, rfl⟩
    have C9 : Aside (∀ W, Below w1.heap.size w1 W → Calls Tryz.prog 9 #[.agg #[.slice va V.length vcap, .slice ea E.length ecap]] W fun e w' => e = .returned (.int .i64 c) ∧ Below W.heap.size W w') := fun W hW => by
      have := check_any _ V E W (hN1.below hW)
      rw [hc] at this
      exact this
    have C10 : Aside (∀ W, Below w1.heap.size w1 W → Calls Tryz.prog 10 #[.agg #[.slice va V.length vcap, .slice ea E.length ecap]] W fun e w' => e = .returned (.int .i64 c) ∧ Below W.heap.size W w') := fun W hW => by
      have := rcheck_any _ V E W (hN1.below hW)
      rw [hc] at this
      exact this
    clear hc hN1
    by_cases hgt : (300 : Int) < V.length
    · clear big
      go_wp2_with fail
      go_region_held3 (fun w' => w'.cell? ⟨w.heap.size, 0, none⟩ = some (.slice va V.length vcap) ∧ w'.cell? ⟨w.heap.size, 1, none⟩ = some (.slice ea E.length ecap))
        (first | go_keep | exact ⟨(bcell HB9.out _ _ hz1).trans n0, (bcell HB9.out _ _ hz1).trans n1⟩ | exact ⟨(bcell HB10.out _ _ hz1).trans n0, (bcell HB10.out _ _ hz1).trans n1⟩)
        (first
          | (go_at_call 9; (with_reducible refine Calls.mono (C9.out _ ?_) ?_); (first | exact bel_drew (Below.refl _ _) | exact bel_drew HB10.out | exact HB10.out); rintro _ w9 ⟨rfl, h9⟩; have HB9 : Aside (Below w1.heap.size w1 w9) := (by first | exact bl_trans (bel_drew (Below.refl _ _)) h9 | exact bl_trans HB10.out h9 | exact bl_trans (bel_drew HB10.out) h9); clear h9)
          | (go_at_call 10; (with_reducible refine Calls.mono (C10.out _ ?_) ?_); (first | exact bel_drew (Below.refl _ _) | exact bel_drew HB9.out | exact HB9.out); rintro _ w10 ⟨rfl, h10⟩; have HB10 : Aside (Below w1.heap.size w1 w10) := (by first | exact bl_trans (bel_drew (Below.refl _ _)) h10 | exact bl_trans HB9.out h10 | exact bl_trans (bel_drew HB9.out) h10); clear h10))
      all_goals (
        go_wp2_with fail
        go_ret)
      all_goals (first
        | exact ⟨by simp, B.out.trans (HB9.out.mono B.out.size)⟩
        | exact ⟨by simp, B.out.trans (HB10.out.mono B.out.size)⟩)
    · have hgt2 : (300 : Int) < E.length := by omega
      clear big
      go_wp2_with fail
      go_region_held3 (fun w' => w'.cell? ⟨w.heap.size, 0, none⟩ = some (.slice va V.length vcap) ∧ w'.cell? ⟨w.heap.size, 1, none⟩ = some (.slice ea E.length ecap))
        (first | go_keep | exact ⟨(bcell HB9.out _ _ hz1).trans n0, (bcell HB9.out _ _ hz1).trans n1⟩ | exact ⟨(bcell HB10.out _ _ hz1).trans n0, (bcell HB10.out _ _ hz1).trans n1⟩)
        (first
          | (go_at_call 9; (with_reducible refine Calls.mono (C9.out _ ?_) ?_); (first | exact bel_drew (Below.refl _ _) | exact bel_drew HB10.out | exact HB10.out); rintro _ w9 ⟨rfl, h9⟩; have HB9 : Aside (Below w1.heap.size w1 w9) := (by first | exact bl_trans (bel_drew (Below.refl _ _)) h9 | exact bl_trans HB10.out h9 | exact bl_trans (bel_drew HB10.out) h9); clear h9)
          | (go_at_call 10; (with_reducible refine Calls.mono (C10.out _ ?_) ?_); (first | exact bel_drew (Below.refl _ _) | exact bel_drew HB9.out | exact HB9.out); rintro _ w10 ⟨rfl, h10⟩; have HB10 : Aside (Below w1.heap.size w1 w10) := (by first | exact bl_trans (bel_drew (Below.refl _ _)) h10 | exact bl_trans HB9.out h10 | exact bl_trans (bel_drew HB9.out) h10); clear h10))
      all_goals (
        go_wp2_with fail
        go_ret)
      all_goals (first
        | exact ⟨by simp, B.out.trans (HB9.out.mono B.out.size)⟩
        | exact ⟨by simp, B.out.trans (HB10.out.mono B.out.size)⟩)
  · have C := aside' (And.intro B.out hN1)
    have hng1 : ¬ (300 : Int) < V.length := by omega
    have hng2 : ¬ (300 : Int) < E.length := by omega
    have htw := twin_any _ V E w1 hN1 (by omega) (by omega)
    clear hN1
    go_wp2_with fail
    refine htw.mono ?_
    rintro _ w2 ⟨mv, me, rfl, hM, hb2⟩
    obtain ⟨xv, xe, hxx, hV2, hE2⟩ := hM.ex
    cases hxx
    obtain ⟨ma, mac, rfl, -, -, -⟩ := hV2
    obtain ⟨mb, mbc, rfl, -, -, -⟩ := hE2
    have m0 := (bcell hb2 _ 0 hz1).trans n0
    have m1 := (bcell hb2 _ 1 hz1).trans n1
    have hz2 : w.heap.size < w2.heap.size := Nat.lt_of_lt_of_le hz1 hb2.size
    have hwb : Below w2.heap.size w2 (w2.alloc (.cells #[.slice ma V.length mac, .slice mb E.length mbc] 25)) := (Below.refl _ _).alloc (Nat.le_refl _) _
    have hjo := joined_any _ V E u v _ (hM.below hwb) hu hv
    have D := aside' (And.intro (C.out.1.trans ((hb2.trans (hwb.mono hb2.size)).mono C.out.1.size)) (And.intro (hM.below hwb) ((C.out.2.below hb2).below hwb)))
    have hq0 : (w2.alloc (.cells #[.slice ma V.length mac, .slice mb E.length mbc] 25)).cell? ⟨w.heap.size, 0, none⟩ = some (.slice va V.length vcap) := (bcell hwb _ 0 hz2).trans m0
    have hq1 : (w2.alloc (.cells #[.slice ma V.length mac, .slice mb E.length mbc] 25)).cell? ⟨w.heap.size, 1, none⟩ = some (.slice ea E.length ecap) := (bcell hwb _ 1 hz2).trans m1
    have hq2 : (w2.alloc (.cells #[.slice ma V.length mac, .slice mb E.length mbc] 25)).cell? ⟨w2.heap.size, 0, none⟩ = some (.slice ma V.length mac) := by rw [World.cell?_alloc_at _ _ _ _ rfl]; rfl
    have hq3 : (w2.alloc (.cells #[.slice ma V.length mac, .slice mb E.length mbc] 25)).cell? ⟨w2.heap.size, 1, none⟩ = some (.slice mb E.length mbc) := by rw [World.cell?_alloc_at _ _ _ _ rfl]; rfl
    have CE := aside' (And.intro hq0 (And.intro hq1 (And.intro hq2 hq3)))
    have hzb0 : w2.heap.size < (w2.alloc (.cells #[.slice ma V.length mac, .slice mb E.length mbc] 25)).heap.size := by simp
    have hza0 : w.heap.size < (w2.alloc (.cells #[.slice ma V.length mac, .slice mb E.length mbc] 25)).heap.size := by simp; omega
    have Z := aside' (And.intro hza0 hzb0)
    clear hb2 hM hwb htw n0 n1 hq0 hq1 hq2 hq3 hza0 hzb0
    go_wp2_with fail
    obtain ⟨w3, hw3⟩ : ∃ w3, w2.alloc (.cells #[.slice ma V.length mac, .slice mb E.length mbc] 25) = w3 := ⟨_, rfl⟩
    rw [hw3] at hjo CE D Z ⊢
    obtain ⟨hza, hzb⟩ := Z.out
    clear hw3 m0 m1
    have NN : Aside (∀ W, Below w3.heap.size w3 W → NetAt W (.agg #[.slice va V.length vcap, .slice ea E.length ecap]) V E) := fun W hW => D.out.2.2.below hW
    have MM : Aside (∀ W, Below w3.heap.size w3 W → NetAt W (.agg #[.slice ma V.length mac, .slice mb E.length mbc]) V E) := fun W hW => D.out.2.1.below hW
    obtain ⟨ck, hck⟩ : ∃ c, checkA V E [u, v] = c := ⟨_, rfl⟩
    obtain ⟨jb, hjb⟩ : ∃ b, joinedB V E u v = b := ⟨_, rfl⟩
    rw [hck, hjb] at hjo
    refine hjo.mono ?_
    rintro _ w4 ⟨rfl, hb4⟩
    have H4 := aside' hb4
    obtain ⟨n0, n1, m0, m1⟩ := four_cells H4.out hza hzb CE.out
    have hnx := rjoined_any _ V E u v w4 (NN.out w4 hb4) hu hv
    rw [hck, hjb] at hnx
    clear hb4 hjo hck hjb
    go_wp2_with fail
    refine hnx.mono ?_
    rintro _ w5 ⟨rfl, hb5⟩
    have H5 := aside' (H4.out.trans (hb5.mono H4.out.size))
    clear n0 n1 m0 m1 hb5 hnx
    obtain ⟨n0, n1, m0, m1⟩ := four_cells H5.out hza hzb CE.out
    have hnx := forestIds_any _ V E w5 (MM.out w5 H5.out)
    obtain ⟨cn, hcn⟩ : ∃ c, checkN V E = c := ⟨_, rfl⟩
    rw [hcn] at hnx
    have hFi := ids_wf A.out.2.2 V
    have hFl : (forestIds V E).length ≤ 2048 := by have := forestIds_len V E; omega
    obtain ⟨I, hI⟩ : ∃ I, forestIds V E = I := ⟨_, rfl⟩
    rw [hI] at hnx hFi hFl
    have CN := aside' (And.intro hcn (And.intro hI hFi))
    clear hcn hI hFi
    go_wp2_with fail
    refine hnx.mono ?_
    rintro _ w6 ⟨f1, rfl, ho1, hb6⟩
    have H6 := aside' (H5.out.trans (hb6.mono H5.out.size))
    have F1 := aside' (And.intro ho1 hb6)
    obtain ⟨fa, fac, rfl, -⟩ := owns_form ho1
    clear n0 n1 m0 m1 hb6 hnx ho1
    obtain ⟨n0, n1, m0, m1⟩ := four_cells H6.out hza hzb CE.out
    have hnx := forestIds_any _ V E w6 (MM.out w6 H6.out)
    rw [CN.out.1, CN.out.2.1] at hnx
    go_wp2_with fail
    refine hnx.mono ?_
    rintro _ w7 ⟨f2, rfl, ho2, hb7⟩
    have H7 := aside' (H6.out.trans (hb7.mono H6.out.size))
    have F2 := aside' (And.intro ho2 hb7)
    obtain ⟨fb, fbc, rfl, -⟩ := owns_form ho2
    clear n0 n1 m0 m1 hb7 hnx ho2
    obtain ⟨n0, n1, m0, m1⟩ := four_cells H7.out hza hzb CE.out
    have hnx := rforest_any _ V E w7 (NN.out w7 H7.out)
    rw [CN.out.1, CN.out.2.1] at hnx
    go_wp2_with fail
    refine hnx.mono ?_
    rintro _ w8 ⟨f3, rfl, ho3, hb8⟩
    have H8 := aside' (H7.out.trans (hb8.mono H7.out.size))
    have F3 := aside' (And.intro ho3 hb8)
    obtain ⟨fc, fcc, rfl, -⟩ := owns_form ho3
    clear n0 n1 m0 m1 hb8 hnx ho3
    obtain ⟨n0, n1, m0, m1⟩ := four_cells H8.out hza hzb CE.out
    have hnx := weight_any _ V E w8 (MM.out w8 H8.out)
    obtain ⟨⟨wa, wc⟩, hwa⟩ : ∃ p, weightA V E = p := ⟨_, rfl⟩
    rw [hwa] at hnx
    go_wp2_with fail
    refine hnx.mono ?_
    rintro _ w9 ⟨rfl, hb9⟩
    have H9 := aside' (H8.out.trans (hb9.mono H8.out.size))
    have K9 := aside' hb9
    clear n0 n1 m0 m1 hb9 hnx
    obtain ⟨n0, n1, m0, m1⟩ := four_cells H9.out hza hzb CE.out
    have hnx := rweight_any _ V E w9 (NN.out w9 H9.out)
    rw [hwa] at hnx
    clear hwa
    go_wp2_with fail
    refine hnx.mono ?_
    rintro _ w10 ⟨rfl, hb10⟩
    have H10 := aside' (H9.out.trans (hb10.mono H9.out.size))
    have K10 := aside' (K9.out.trans (hb10.mono K9.out.size))
    clear n0 n1 m0 m1 hb10 hnx
    obtain ⟨n0, n1, m0, m1⟩ := four_cells H10.out hza hzb CE.out
    -- the three rows behind all
    have e8 : Below w8.heap.size w8 w10 := K10.out
    have e7 : Below w7.heap.size w7 w10 := F3.out.2.trans (e8.mono F3.out.2.size)
    have e6 : Below w6.heap.size w6 w10 := F2.out.2.trans (e7.mono F2.out.2.size)
    have hT3 := owns_belowW F3.out.1 e8
    have hT2 := owns_belowW F2.out.1 e7
    have hT1 := owns_belowW F1.out.1 e6
    have s56 := F1.out.2.size
    have s67 := F2.out.2.size
    have l1 : ∀ b, (Value.slice fa I.length fac).ownBlock = some b → b < w6.heap.size := fun b h => (F1.out.1.lt b h).2
    have g1 : ∀ b, (Value.slice fa I.length fac).ownBlock = some b → w5.heap.size ≤ b := fun b h => (F1.out.1.lt b h).1
    have g2 : ∀ b, (Value.slice fb I.length fbc).ownBlock = some b → w6.heap.size ≤ b := fun b h => (F2.out.1.lt b h).1
    have g3 : ∀ b, (Value.slice fc I.length fcc).ownBlock = some b → w7.heap.size ≤ b := fun b h => (F3.out.1.lt b h).1
    have apart : ∀ (x y : Option Nat) (B : Nat), (∀ b, x = some b → b < B) → (∀ b, y = some b → B ≤ b) → (y = none ∨ y ≠ x) := fun x y B h1 h2 => by
      cases y with
      | none => exact .inl rfl
      | some b => exact .inr fun h => by have := h1 b h.symm; have := h2 b rfl; omega
    have T3 : Aside (∀ W, Below w10.heap.size w10 W → Three W w5.heap.size (.slice fa I.length fac) (.slice fb I.length fbc) (.slice fc I.length fcc) I) := fun W hW =>
      ⟨owns_belowW hT1 hW, owns_mono (owns_belowW hT2 hW) (by omega), owns_mono (owns_belowW hT3 hW) (by omega), apart _ _ _ l1 g2, apart _ _ _ l1 (fun b h => Nat.le_trans s67 (g3 b h))⟩
    have G1 := aside' (show ∀ b, (Value.slice fa I.length fac).ownBlock = some b → w3.heap.size ≤ b from fun b h => Nat.le_trans H5.out.size (g1 b h))
    have T18 : Aside (∀ W, Below w10.heap.size w10 W → Calls Tryz.prog 18 #[.slice fa I.length fac, .slice fb I.length fbc, .slice fc I.length fcc] W fun e w' => e = .returned (.bool true) ∧ W.grownBy w' (Value.slice fa I.length fac).ownBlock) := fun W hW =>
      twice_any _ _ _ I w5.heap.size W (T3.out W hW) CN.out.2.2 hFl
    have C9 : Aside (∀ W, Below w10.heap.size w10 W → Calls Tryz.prog 9 #[.agg #[.slice ma V.length mac, .slice mb E.length mbc]] W fun e w' => e = .returned (.int .i64 cn) ∧ Below W.heap.size W w') := fun W hW => by
      have := check_any _ V E W (MM.out W (H10.out.trans (hW.mono H10.out.size)))
      rw [CN.out.1] at this
      exact this
    have C10 : Aside (∀ W, Below w10.heap.size w10 W → Calls Tryz.prog 10 #[.agg #[.slice va V.length vcap, .slice ea E.length ecap]] W fun e w' => e = .returned (.int .i64 cn) ∧ Below W.heap.size W w') := fun W hW => by
      have := rcheck_any _ V E W (NN.out W (H10.out.trans (hW.mono H10.out.size)))
      rw [CN.out.1] at this
      exact this
    have CE10 := aside' (And.intro n0 (And.intro n1 (And.intro m0 m1)))
    have hza10 : w.heap.size < w10.heap.size := Nat.lt_of_lt_of_le hza H10.out.size
    have hzb10 : w2.heap.size < w10.heap.size := Nat.lt_of_lt_of_le hzb H10.out.size
    clear e8 e7 e6 hT3 hT2 hT1 s56 s67 l1 g1 g2 g3 apart
    go_wp2_with fail
    have q1 : (cn != cn) = false := by simp
    have q2 : (ck != ck) = false := by simp
    have q3 : (jb == jb) = true := by simp
    have q4 : (wa != wa) = false := by simp
    have q5 : (wc != wc) = false := by simp
    have q6 : (jb != jb) = false := by simp
    go_region_held3 (fun w' => w'.cell? ⟨w.heap.size, 0, none⟩ = some (.slice va V.length vcap) ∧ w'.cell? ⟨w.heap.size, 1, none⟩ = some (.slice ea E.length ecap) ∧ w'.cell? ⟨w2.heap.size, 0, none⟩ = some (.slice ma V.length mac) ∧ w'.cell? ⟨w2.heap.size, 1, none⟩ = some (.slice mb E.length mbc))
      (first | go_keep | exact four_cells HB18.out hza hzb CE.out | exact four_cells HB9.out hza10 hzb10 CE10.out | exact four_cells HB10.out hza10 hzb10 CE10.out)
      (first
        | (go_at_call 9; (with_reducible refine Calls.mono (C9.out _ ?_) ?_); (first | exact bel_drew (Below.refl _ _) | exact bel_drew HB10.out | exact HB10.out); rintro _ w9 ⟨rfl, h9⟩; have HB9 : Aside (Below w10.heap.size w10 w9) := (by first | exact bl_trans (bel_drew (Below.refl _ _)) h9 | exact bl_trans HB10.out h9 | exact bl_trans (bel_drew HB10.out) h9); clear h9)
        | (go_at_call 10; (with_reducible refine Calls.mono (C10.out _ ?_) ?_); (first | exact bel_drew (Below.refl _ _) | exact bel_drew HB9.out | exact HB9.out); rintro _ w11 ⟨rfl, h10⟩; have HB10 : Aside (Below w10.heap.size w10 w11) := (by first | exact bl_trans (bel_drew (Below.refl _ _)) h10 | exact bl_trans HB9.out h10 | exact bl_trans (bel_drew HB9.out) h10); clear h10)
        | (go_at_call 18; (with_reducible refine Calls.mono (T18.out _ ?_) ?_); (first | exact HB9.out | exact HB10.out | exact bel_drew HB9.out | exact bel_drew HB10.out); rintro _ w18 ⟨rfl, h18⟩; have HB18 : Aside (Below w3.heap.size w3 w18) := (by first | exact (H10.out.trans (HB9.out.mono H10.out.size)).grown h18 (Nat.le_trans H10.out.size HB9.out.size) G1.out | exact (H10.out.trans (HB10.out.mono H10.out.size)).grown h18 (Nat.le_trans H10.out.size HB10.out.size) G1.out); clear h18))
    rename_i hH
    clear hH
    clear F1 F2 F3 T3 T18 C9 C10 K9 K10 CE10 n0 n1 m0 m1 G1 hza10 hzb10 hFl
    clear H4 H5 H6 H7 H8 H9 H10
    have H18 : Aside (Below w3.heap.size w3 w18) := HB18
    obtain ⟨n0, n1, m0, m1⟩ := four_cells H18.out hza hzb CE.out
    have hnx := pathIds_any _ V E u v w18 (MM.out w18 H18.out) hu hv
    go_wp2_with fail
    refine hnx.mono ?_
    rintro _ w19 ⟨L, c, hP, hLl, p1, rfl, ho1, hb19⟩
    have H19 := aside' (H18.out.trans (hb19.mono H18.out.size))
    have hLw : ∀ x ∈ L.map Edg.id, wf64 x := fun x hx => by
      obtain ⟨e, he, rfl⟩ := List.mem_map.1 hx
      exact (A.out.2.2 e (pathA_sub hP e he)).1
    have hil : (L.map Edg.id).length ≤ 2048 := by rw [List.length_map]; exact hLl
    obtain ⟨J, hJ⟩ : ∃ J, L.map Edg.id = J := ⟨_, rfl⟩
    rw [hJ] at ho1 hLw hil
    have P1 := aside' (And.intro ho1 hb19)
    have PP := aside' (And.intro hP (And.intro hLw hJ))
    obtain ⟨pa, pac, rfl, -⟩ := owns_form ho1
    clear n0 n1 m0 m1 hb19 hnx ho1 hP hLw hJ hLl
    obtain ⟨n0, n1, m0, m1⟩ := four_cells H19.out hza hzb CE.out
    have hnx := pathIds_any _ V E u v w19 (MM.out w19 H19.out) hu hv
    go_wp2_with fail
    refine hnx.mono ?_
    rintro _ w20 ⟨L2, c2, hP2, -, p2, rfl, ho2, hb20⟩
    obtain ⟨rfl, rfl⟩ := pathA_one PP.out.1 hP2
    rw [PP.out.2.2] at ho2
    have H20 := aside' (H19.out.trans (hb20.mono H19.out.size))
    have P2 := aside' (And.intro ho2 hb20)
    obtain ⟨pb, pbc, rfl, -⟩ := owns_form ho2
    clear n0 n1 m0 m1 hb20 hnx ho2 hP2
    obtain ⟨n0, n1, m0, m1⟩ := four_cells H20.out hza hzb CE.out
    have hnx := rpathIds_any _ V E u v w20 (NN.out w20 H20.out) hu hv
    go_wp2_with fail
    refine hnx.mono ?_
    rintro _ w21 ⟨L3, c3, hP3, -, p3, rfl, ho3, hb21⟩
    obtain ⟨rfl, rfl⟩ := pathA_one PP.out.1 hP3
    rw [PP.out.2.2] at ho3
    have H21 := aside' (H20.out.trans (hb21.mono H20.out.size))
    have P3 := aside' (And.intro ho3 hb21)
    obtain ⟨pc, pcc, rfl, -⟩ := owns_form ho3
    clear n0 n1 m0 m1 hb21 hnx ho3 hP3
    obtain ⟨n0, n1, m0, m1⟩ := four_cells H21.out hza hzb CE.out
    obtain ⟨mx, x, y, g, hal, hox, hoy⟩ := alongA_form PP.out.1
    have hne50 := neq50 mx hox hoy
    have hnx := along_any _ V E u v w21 (MM.out w21 H21.out) hu hv
    go_wp2_with fail
    refine hnx.mono ?_
    rintro e0 w22 ⟨L4, c4, hP4, -, he4, hb22⟩
    obtain ⟨rfl, rfl⟩ := pathA_one PP.out.1 hP4
    rw [hal] at he4
    dsimp only at he4
    unfold cells5 at he4
    subst he4
    have H22 := aside' (H21.out.trans (hb22.mono H21.out.size))
    have K22 := aside' hb22
    have hB22 : BoxA (w22.alloc (.cells #[.int .i64 mx.id, .int .i64 mx.u, .int .i64 mx.v, .int .i64 mx.w, .complex .f64 x y] 50)) w22.heap.size mx x y := World.alloc_heap_new _ _
    have hwb : Below w22.heap.size w22 (w22.alloc (.cells #[.int .i64 mx.id, .int .i64 mx.u, .int .i64 mx.v, .int .i64 mx.w, .complex .f64 x y] 50)) := (Below.refl _ _).alloc (Nat.le_refl _) _
    have H23 := aside' (H22.out.trans (hwb.mono H22.out.size))
    have K23 := aside' (And.intro hB22 (hb22.trans (hwb.mono hb22.size)))
    clear n0 n1 m0 m1 hb22 hnx hP4 hwb hB22
    obtain ⟨n0, n1, m0, m1⟩ := four_cells H23.out hza hzb CE.out
    have hnx := ralong_any _ V E u v _ (NN.out _ H23.out) hu hv
    go_wp2_with fail
    refine hnx.mono ?_
    rintro e0 w24 ⟨L5, c5, hP5, -, he5, hb24⟩
    obtain ⟨rfl, rfl⟩ := pathA_one PP.out.1 hP5
    rw [hal] at he5
    dsimp only at he5
    unfold cells5 at he5
    subst he5
    have H24 := aside' (H23.out.trans (hb24.mono H23.out.size))
    have hB24 : BoxA (w24.alloc (.cells #[.int .i64 mx.id, .int .i64 mx.u, .int .i64 mx.v, .int .i64 mx.w, .complex .f64 x y] 50)) w24.heap.size mx x y := World.alloc_heap_new _ _
    have hwb : Below w24.heap.size w24 (w24.alloc (.cells #[.int .i64 mx.id, .int .i64 mx.u, .int .i64 mx.v, .int .i64 mx.w, .complex .f64 x y] 50)) := (Below.refl _ _).alloc (Nat.le_refl _) _
    have hlt2 : w22.heap.size < w24.heap.size := by have := hb24.size; simp at this; omega
    have hB22 : BoxA (w24.alloc (.cells #[.int .i64 mx.id, .int .i64 mx.u, .int .i64 mx.v, .int .i64 mx.w, .complex .f64 x y] 50)) w22.heap.size mx x y := (hwb.block _ hlt2).trans ((hb24.block _ (by simp)).trans K23.out.1)
    have hb21 : Below w21.heap.size w21 (w24.alloc (.cells #[.int .i64 mx.id, .int .i64 mx.u, .int .i64 mx.v, .int .i64 mx.w, .complex .f64 x y] 50)) := K23.out.2.trans ((hb24.trans (hwb.mono hb24.size)).mono K23.out.2.size)
    have H25 := aside' (H24.out.trans (hwb.mono H24.out.size))
    have K25 := aside' (And.intro hB22 (And.intro hB24 (And.intro hb21 hlt2)))
    clear n0 n1 m0 m1 hb24 hnx hP5 hwb hB22 hB24 hb21 hlt2 hal hox hoy
    obtain ⟨n0, n1, m0, m1⟩ := four_cells H25.out hza hzb CE.out
    have hnx := span_any _ V E u _ (MM.out _ H25.out) hu
    go_wp2_with fail
    refine hnx.mono ?_
    rintro _ w26 ⟨s, sc, rfl, hS, hb26⟩
    have H26 := aside' (H25.out.trans (hb26.mono H25.out.size))
    have K26 := aside' (And.intro hb26 hS)
    clear n0 n1 m0 m1 hb26 hnx hS
    obtain ⟨n0, n1, m0, m1⟩ := four_cells H26.out hza hzb CE.out
    have hnx := rspan_any _ V E u w26 (NN.out w26 H26.out) hu
    go_wp2_with fail
    refine hnx.mono ?_
    rintro _ w27 ⟨s2, sc2, rfl, hS2, hb27⟩
    have hone := rspan_one K26.out.2 hS2
    obtain ⟨rfl, rfl⟩ := hone
    have H27 := aside' (H26.out.trans (hb27.mono H26.out.size))
    have b27 : Below (w24.heap.size + 1) (w24.alloc (.cells #[.int .i64 mx.id, .int .i64 mx.u, .int .i64 mx.v, .int .i64 mx.w, .complex .f64 x y] 50)) w27 := by
      have h1 := K26.out.1.trans (hb27.mono K26.out.1.size)
      rw [World.size_alloc] at h1
      exact h1
    have hA27 : BoxA w27 w22.heap.size mx x y := (b27.block _ (by have := K25.out.2.2.2; omega)).trans K25.out.1
    have hC27 : BoxA w27 w24.heap.size mx x y := (b27.block _ (by omega)).trans K25.out.2.1
    have hz27 : w24.heap.size < w27.heap.size := by have := b27.size; simp at this; omega
    have e21 : Below w21.heap.size w21 w27 := K25.out.2.2.1.trans (b27.mono (by have := K25.out.2.2.1.size; simpa using this))
    have e20 : Below w20.heap.size w20 w27 := P3.out.2.trans (e21.mono P3.out.2.size)
    have e19 : Below w19.heap.size w19 w27 := P2.out.2.trans (e20.mono P2.out.2.size)
    have s18 := P1.out.2.size
    have s19 := P2.out.2.size
    have s20 := P3.out.2.size
    have s21 := K22.out.size
    have l1 : ∀ b, (Value.slice pa J.length pac).ownBlock = some b → b < w19.heap.size := fun b h => (P1.out.1.lt b h).2
    have g1 : ∀ b, (Value.slice pa J.length pac).ownBlock = some b → w18.heap.size ≤ b := fun b h => (P1.out.1.lt b h).1
    have g2 : ∀ b, (Value.slice pb J.length pbc).ownBlock = some b → w19.heap.size ≤ b := fun b h => (P2.out.1.lt b h).1
    have g3 : ∀ b, (Value.slice pc J.length pcc).ownBlock = some b → w20.heap.size ≤ b := fun b h => (P3.out.1.lt b h).1
    have apart : ∀ (x y : Option Nat) (B : Nat), (∀ b, x = some b → b < B) → (∀ b, y = some b → B ≤ b) → (y = none ∨ y ≠ x) := fun x y B h1 h2 => by
      cases y with
      | none => exact .inl rfl
      | some b => exact .inr fun h => by have := h1 b h.symm; have := h2 b rfl; omega
    have T18 := twice_any _ _ _ J w18.heap.size w27 ⟨owns_belowW P1.out.1 e19, owns_mono (owns_belowW P2.out.1 e20) s18, owns_mono (owns_belowW P3.out.1 e21) (Nat.le_trans s18 s19), apart _ _ _ l1 g2, apart _ _ _ l1 (fun b h => Nat.le_trans s19 (g3 b h))⟩ PP.out.2.1 hil
    have G1 := aside' (And.intro (show ∀ b, (Value.slice pa J.length pac).ownBlock = some b → w3.heap.size ≤ b from fun b h => Nat.le_trans H18.out.size (g1 b h)) (show ∀ b, (Value.slice pa J.length pac).ownBlock = some b → b < w22.heap.size from fun b h => by have := l1 b h; omega))
    have X27 := aside' (And.intro hA27 (And.intro hC27 (And.intro hz27 K25.out.2.2.2)))
    clear n0 n1 m0 m1 hb27 hnx hS2 hA27 hC27 hz27 e21 e20 e19 s18 s19 s20 s21 l1 g1 g2 g3 apart b27
    go_wp2_with fail
    refine T18.mono ?_
    rintro _ w28 ⟨rfl, h28⟩
    have H28 := aside' (H27.out.grown h28 H27.out.size G1.out.1)
    have hbA : BoxA w28 w22.heap.size mx x y := (h28.block _ (by have := X27.out.2.2.1; have := X27.out.2.2.2; omega) (fun h => by have := G1.out.2 _ h.symm; omega)).trans X27.out.1
    have hbC : BoxA w28 w24.heap.size mx x y := (h28.block _ X27.out.2.2.1 (fun h => by have := G1.out.2 _ h.symm; have := X27.out.2.2.2; omega)).trans X27.out.2.1
    obtain ⟨⟨x0, x1, x2, x3, x4⟩, -⟩ := hbA.cells
    obtain ⟨⟨y0, y1, y2, y3, y4⟩, -⟩ := hbC.cells
    have q7 : (c != c) = false := by simp
    have q8 : (g != g) = false := by simp
    have q9 : (s2 != s2) = false := by simp
    have q10 : (sc2 != sc2) = false := by simp
    clear h28 T18 hbA hbC
    obtain ⟨n0, n1, m0, m1⟩ := four_cells H28.out hza hzb CE.out
    have hnx := trees_any _ V E w28 (MM.out w28 H28.out)
    unfold TreesPost at hnx
    rw [CN.out.1] at hnx
    go_wp2_with fail
    refine hnx.mono ?_
    rintro _ w29 ⟨⟨outv, svs, rfl, hts⟩, hb29⟩
    have H29 := aside' (H28.out.trans (hb29.mono H28.out.size))
    obtain ⟨gs, hgs⟩ : ∃ gs, (if Right V E then treesOf E V else []) = gs := ⟨_, rfl⟩
    have hgl : gs.length ≤ 2048 := by
      rw [← hgs]
      split
      · rename_i hR
        rw [treesOf_length]
        exact Nat.le_trans (firsts_le E V) hR.1
      · simp
    have hgw : ∀ g ∈ gs, (∀ x ∈ g, wf64 x) ∧ g.length ≤ 2048 := by
      rw [← hgs]
      split
      · rename_i hR
        intro g hg
        obtain ⟨k, hk⟩ := List.mem_iff_getElem?.1 hg
        have hsub := tr_sub (E := E) (l := V) (i := k) (g := g) hk
        exact ⟨fun x hx => (hR.2.2.1.1 x (hsub.mem hx)).wf, Nat.le_trans hsub.length_le hR.1⟩
      · simp
    rw [hgs] at hts
    have TT := aside' (And.intro hts (And.intro hgs hgw))
    obtain ⟨oa, ocap, rfl, hgb⟩ := owns_form hts.outer
    clear n0 n1 m0 m1 hnx hts hgs hgw x0 x1 x2 x3 x4 y0 y1 y2 y3 y4
    have K29 := aside' hb29
    clear hb29
    obtain ⟨n0, n1, m0, m1⟩ := four_cells H29.out hza hzb CE.out
    have hnx := rtrees_any _ V E w29 (NN.out w29 H29.out)
    unfold TreesPost at hnx
    rw [CN.out.1] at hnx
    go_wp2_with fail
    refine hnx.mono ?_
    rintro _ w30 ⟨⟨outv2, svs2, rfl, hts2⟩, hb30⟩
    rw [TT.out.2.1] at hts2
    have H30 := aside' (H29.out.trans (hb30.mono H29.out.size))
    have T2 := aside' (And.intro hts2 hb30)
    obtain ⟨oa2, ocap2, rfl, hgb2⟩ := owns_form hts2.outer
    have q11 : ((gs.length : Int) != gs.length) = false := by simp
    clear n0 n1 m0 m1 hnx hts2 hb30
    obtain ⟨n0, n1, m0, m1⟩ := four_cells H30.out hza hzb CE.out
    go_wp2_with fail
    go_loopg [235] gs.length (fun g i wx => ∃ (k q : Nat), k + g = gs.length ∧ i = .int .i64 k ∧ wx = w30.drewN q)
    case atStart => exact ⟨0, 0, by omega, rfl, rfl⟩
    case round =>
      obtain ⟨k, q, hk, rfl, rfl⟩ := hrel
      by_cases hlt : k < gs.length
      · obtain ⟨gb, rfl⟩ := hgb (by omega)
        obtain ⟨gb2, rfl⟩ := hgb2 (by omega)
        have hts := TT.out.1
        have hts2 := T2.out.1
        obtain ⟨g, hg⟩ : ∃ g, gs[k]? = some g := ⟨_, List.getElem?_eq_getElem hlt⟩
        obtain ⟨s1, hs1⟩ : ∃ s, svs[k]? = some s := ⟨_, List.getElem?_eq_getElem (by rw [hts.len]; exact hlt)⟩
        obtain ⟨s2, hs2⟩ : ∃ s, svs2[k]? = some s := ⟨_, List.getElem?_eq_getElem (by rw [hts2.len]; exact hlt)⟩
        have g0 : w30.cell? ⟨gb, k, none⟩ = some s1 := (bcell T2.out.2 _ _ (hts.outer.lt gb rfl).2).trans ((hts.outer.cellAt k (by omega)).trans hs1)
        have g1 : w30.cell? ⟨gb2, k, none⟩ = some s2 := (hts2.outer.cellAt k (by omega)).trans hs2
        have hgm := TT.out.2.2 g (List.mem_iff_getElem?.2 ⟨k, hg⟩)
        have r1 := (rdI_own (hts.inner k s1 g hs1 hg) hgm.1 (by have := hgm.2; omega)).below T2.out.2
        have r2 := rdI_own (hts2.inner k s2 g hs2 hg) hgm.1 (by have := hgm.2; omega)
        have SR : Aside (∀ W, Below w30.heap.size w30 W → Calls Tryz.prog 27 #[s1, s2] W fun e w' => e = .returned (.bool true) ∧ ∃ q, w' = W.drewN q) := fun W hW => by
          refine (same_ref s1 s2 g g W (r1.below hW) (r2.below hW)).mono ?_
          rintro _ _ ⟨rfl, h⟩
          exact ⟨by simp, h⟩
        clear r1 r2 hgm hts hts2 hg hs1 hs2 n0 n1 m0 m1
        go_wp2_with fail
        go_big_quiet ((go_at_call 27; refine q_drew (SR.out _ ?hw) ?_; (case hw => exact ⟨rfl, rfl, rfl, Nat.le_refl _, fun _ _ => rfl⟩); exact fun q2 => ⟨_, by rw [World.drewN_drewN, Nat.add_assoc]⟩))
        go_wp2_with fail
        go_roundg (gk - 1)
        case rel => exact ⟨k + 1, _, by omega, by go_num, rfl⟩
        case measure => omega
      · have hwd : Below w30.heap.size w30 (w30.drewN q) := bel_drewN (Below.refl _ _) q
        obtain ⟨wd, hwde⟩ : ∃ wd, w30.drewN q = wd := ⟨_, rfl⟩
        rw [hwde] at hwd ⊢
        have H31 := aside' (H30.out.trans (hwd.mono H30.out.size))
        clear hwd hwde n0 n1 m0 m1
        obtain ⟨n0, n1, m0, m1⟩ := four_cells H31.out hza hzb CE.out
        have hnx := sameNet_any _ _ V E wd (MM.out wd H31.out) (NN.out wd H31.out)
        go_wp2_with fail
        refine hnx.mono ?_
        rintro _ w32 ⟨rfl, hb32⟩
        have H32 := aside' (H31.out.trans (hb32.mono H31.out.size))
        clear hb32 hnx n0 n1 m0 m1
        go_wp2_with fail
        go_ret
        exact ⟨rfl, D.out.1.trans (H32.out.mono D.out.1.size)⟩

end Go.Proofs.YthidhdffiebbgaaGreatDoor
