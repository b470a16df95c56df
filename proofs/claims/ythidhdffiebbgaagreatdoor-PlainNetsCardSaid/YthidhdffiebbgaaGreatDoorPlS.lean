/- The walk of alive: the document's example. -/
import Derived.Test.YthidhdffiebbgaaGreatDoorPlR
import Derived.Test.YthidhdffiebbgaaGreatDoorSmallA
namespace Go.Proofs.YthidhdffiebbgaaGreatDoor
open Go.RowKit Go.Proofs.YthidhdffiebbgaaGreatDoor.Sk

attribute [local go_sem] run_store_complex

instance (k : Int) : Decidable (wf64 k) := by unfold wf64; infer_instance

theorem small_s (w : World) : Calls Tryz.prog 32 #[] w fun e w' => ∃ n, e = .returned n ∧ NetAt w' n sV sE ∧ Below w.heap.size w w' := small_any w

theorem ids_s {w w' : World} {zs : List Int} {c : Int} {e : Ending} (h : IdsPost w zs c e w') (hz : ∀ x ∈ zs, wf64 x) (hl : zs.length ≤ 4096) : ∃ v, e = .returned (.tuple #[v, .int .i64 c]) ∧ RdI w' v zs ∧ Below w.heap.size w w' := by
  obtain ⟨v, h1, h2, h3⟩ := h
  exact ⟨v, h1, rdI_own h2 hz (by omega), h3⟩

theorem BoxA.below {w w' : World} {B : Nat} {m : Edg} {a b : Nat} (h : BoxA w B m a b) (hb : Below w.heap.size w w') : BoxA w' B m a b := by
  have hlt : B < w.heap.size := by
    rcases Nat.lt_or_ge B w.heap.size with h' | h'
    · exact h'
    · have h2 : w.heap[B]? = _ := h
      rw [Array.getElem?_eq_none h'] at h2; cases h2
  exact (hb.block B hlt).trans h

theorem field83_1 (w : World) : (Instr.field 83 ans1 1).run Tryz.prog w = .ok (.bool true) w := by kernel_rfl

set_option maxRecDepth 100000 in
set_option maxHeartbeats 2000000 in
theorem alive_any (w : World) : Calls Tryz.prog 8 #[] w fun e w' => e = .returned (.bool true) ∧ Below w.heap.size w w' := by
  go_enter Tryz.func8, Tryz.ntmps8
  go_wp2_with fail
  refine (small_s _).mono ?_
  rintro _ w1 ⟨n1, rfl, hn1, hb1⟩
  go_wp2_with fail
  refine (forestIds_any n1 sV sE w1 hn1).mono ?_
  intro e w2 hp
  rw [s_ids, s_check] at hp
  obtain ⟨fv, rfl, hf, hb2⟩ := ids_s hp (by decide) (by decide)
  have I2 : Below w.heap.size w w2 ∧ RdI w2 fv [2, 3] := ⟨hb1.trans (hb2.mono hb1.size), hf⟩
  clear hp hf hb1 hb2 hn1
  have I := aside' I2
  clear I2
  go_wp2_with fail
  refine (small_s _).mono ?_
  rintro _ w3 ⟨n3, rfl, hn3, hb3⟩
  go_wp2_with fail
  refine (weight_any n3 sV sE w3 hn3).mono ?_
  rw [s_weight]
  rintro _ w4 ⟨rfl, hb4⟩
  have hb24 : Below w2.heap.size w2 w4 := hb3.trans (hb4.mono hb3.size)
  have I4 := aside' (And.intro (I.out.1.trans (hb24.mono I.out.1.size)) (I.out.2.below hb24))
  clear I hb3 hb4 hb24 hn3
  go_wp2_with fail
  refine (small_s _).mono ?_
  rintro _ w5 ⟨n5, rfl, hn5, hb5⟩
  go_wp2_with fail
  refine (pathIds_any n5 sV sE 1 2 w5 hn5 (by unfold wf64; omega) (by unfold wf64; omega)).mono ?_
  rintro e w6 ⟨L, c, hPA, _, hp⟩
  obtain ⟨rfl, rfl⟩ := s_path12 hPA
  obtain ⟨pv, rfl, hpv, hb6⟩ := ids_s hp (by decide) (by decide)
  have hb46 : Below w4.heap.size w4 w6 := hb5.trans (hb6.mono hb5.size)
  have hpv' : RdI w6 pv [3, 2] := hpv
  have I6 := aside' (And.intro (I4.out.1.trans (hb46.mono I4.out.1.size)) (And.intro (I4.out.2.below hb46) hpv'))
  clear I4 hb5 hb6 hb46 hn5 hp hpv hpv' hPA
  go_wp2_with fail
  refine (small_s _).mono ?_
  rintro _ w7 ⟨n7, rfl, hn7, hb7⟩
  go_wp2_with fail
  refine (along_any n7 sV sE 1 2 w7 hn7 (by unfold wf64; omega) (by unfold wf64; omega)).mono ?_
  rintro e w8 ⟨L, c, hPA, _, rfl, hb8⟩
  obtain ⟨rfl, rfl⟩ := s_path12 hPA
  rw [s_along12]
  have hb68 : Below w6.heap.size w6 w8 := hb7.trans (hb8.mono hb7.size)
  have hb68' := hb68.alloc hb68.size (.cells (cells5 s3 4620693217682128896 4611686018427387904) 50)
  have hbx : BoxA (w8.alloc (.cells (cells5 s3 4620693217682128896 4611686018427387904) 50)) w8.heap.size s3 4620693217682128896 4611686018427387904 := World.alloc_heap_new _ _
  have I8 := aside' (And.intro (I6.out.1.trans (hb68'.mono I6.out.1.size)) (And.intro (I6.out.2.1.below hb68') (And.intro (I6.out.2.2.below hb68') hbx)))
  clear I6 hb7 hb8 hb68 hb68' hbx hn7 hPA
  unfold cells5 s3
  go_wp2_with fail
  refine (small_s _).mono ?_
  rintro _ w9 ⟨n9, rfl, hn9, hb9⟩
  have I9 := aside' (And.intro (I8.out.1.trans (hb9.mono I8.out.1.size)) (And.intro (I8.out.2.1.below hb9) (And.intro (I8.out.2.2.1.below hb9) (I8.out.2.2.2.below hb9))))
  clear I8 hb9
  go_wp2_with fail
  refine (span_any n9 sV sE 1 w9 hn9 (by unfold wf64; omega)).mono ?_
  rintro e w10 ⟨s, c, rfl, hsp, hb10⟩
  obtain ⟨rfl, rfl⟩ := s_span hsp
  have I10 := aside' (And.intro (I9.out.1.trans (hb10.mono I9.out.1.size)) (And.intro (I9.out.2.1.below hb10) (And.intro (I9.out.2.2.1.below hb10) (I9.out.2.2.2.below hb10))))
  clear I9 hb10 hn9 hsp
  go_wp2_with fail
  refine (small_s _).mono ?_
  rintro _ w11 ⟨n11, rfl, hn11, hb11⟩
  have I11 := aside' (And.intro (I10.out.1.trans (hb11.mono I10.out.1.size)) (And.intro (I10.out.2.1.below hb11) (And.intro (I10.out.2.2.1.below hb11) (I10.out.2.2.2.below hb11))))
  clear I10 hb11
  go_wp2_with fail
  refine (along_any n11 sV sE 1 4 w11 hn11 (by unfold wf64; omega) (by unfold wf64; omega)).mono ?_
  rintro e w12 ⟨L, c, hPA, _, rfl, hb12⟩
  obtain ⟨rfl, rfl⟩ := s_path14 hPA
  rw [s_along14]
  have hb12' := hb12.alloc hb12.size (.cells (cells5 zE 0 0) 50)
  have I12 := aside' (And.intro (I11.out.1.trans (hb12'.mono I11.out.1.size)) (And.intro (I11.out.2.1.below hb12') (And.intro (I11.out.2.2.1.below hb12') (I11.out.2.2.2.below hb12'))))
  clear I11 hb12 hb12' hn11 hPA
  unfold cells5 zE
  go_wp2_with fail
  refine (small_s _).mono ?_
  rintro _ w13 ⟨n13, rfl, hn13, hb13⟩
  have I13 := aside' (And.intro (I12.out.1.trans (hb13.mono I12.out.1.size)) (And.intro (I12.out.2.1.below hb13) (And.intro (I12.out.2.2.1.below hb13) (I12.out.2.2.2.below hb13))))
  clear I12 hb13
  go_wp2_with fail
  refine (trees_any n13 sV sE w13 hn13).mono ?_
  rintro e w14 ⟨⟨tv, svs, rfl, hts⟩, hb14⟩
  rw [s_check]
  rw [if_pos s_right] at hts
  have I14 := aside' (And.intro (I13.out.1.trans (hb14.mono I13.out.1.size)) (And.intro (I13.out.2.1.below hb14) (And.intro (I13.out.2.2.1.below hb14) (I13.out.2.2.2.below hb14))))
  obtain ⟨ta, tcap, htv, _⟩ := owns_form hts.outer
  rw [s_trees] at htv
  subst htv
  clear I13 hb14 hn13 hts
  go_wp2_with fail
  refine (small_s _).mono ?_
  rintro _ w15 ⟨n15, rfl, hn15, hb15⟩
  have I15 := aside' (And.intro (I14.out.1.trans (hb15.mono I14.out.1.size)) (And.intro (I14.out.2.1.below hb15) (And.intro (I14.out.2.2.1.below hb15) (I14.out.2.2.2.below hb15))))
  clear I14 hb15
  go_wp2_with fail
  refine (joined_any n15 sV sE 1 3 w15 hn15 (by unfold wf64; omega) (by unfold wf64; omega)).mono ?_
  rw [s_joined, s_check13]
  rintro e w16 ⟨rfl, hb16⟩
  have I16 := aside' (And.intro (I15.out.1.trans (hb16.mono I15.out.1.size)) (And.intro (I15.out.2.1.below hb16) (And.intro (I15.out.2.2.1.below hb16) (I15.out.2.2.2.below hb16))))
  clear I15 hb16 hn15
  go_wp2_with fail
  refine (small_s _).mono ?_
  rintro _ w17 ⟨n17, rfl, hn17, hb17⟩
  have I17 := aside' (And.intro (I16.out.1.trans (hb17.mono I16.out.1.size)) (And.intro (I16.out.2.1.below hb17) (And.intro (I16.out.2.2.1.below hb17) (I16.out.2.2.2.below hb17))))
  clear I16 hb17
  go_wp2_with fail
  refine (check_any n17 sV sE w17 hn17).mono ?_
  rw [s_check]
  rintro e w18 ⟨rfl, hb18⟩
  have I18 := aside' (And.intro (I17.out.1.trans (hb18.mono I17.out.1.size)) (And.intro (I17.out.2.1.below hb18) (And.intro (I17.out.2.2.1.below hb18) (I17.out.2.2.2.below hb18))))
  clear I17 hb18 hn17
  go_wp2_with fail
  refine (new_any _).mono ?_
  rintro e _ ⟨rfl, rfl⟩
  obtain ⟨wg, hwg⟩ : ∃ wg, (((w18.alloc (.map #[] 0)).alloc (.map #[] 0)).alloc (.map #[] 0)).alloc (.cells #[.map (some w18.heap.size), .map (some (w18.heap.size + 1)), .map (some (w18.heap.size + 2))] 125) = wg := ⟨_, rfl⟩
  have hbg : Below w18.heap.size w18 wg := by
    rw [← hwg]
    exact ((((Below.refl _ _).alloc (Nat.le_refl _) _).alloc (by simp) _).alloc (by simp; omega) _).alloc (by simp; omega) _
  have hgr : Gr0 wg (w18.heap.size + 3) w18.heap.size (w18.heap.size + 1) (w18.heap.size + 2) := by
    refine ⟨?_, ?_⟩
    · rw [← hwg]
      have := World.alloc_heap_new (((w18.alloc (.map #[] 0)).alloc (.map #[] 0)).alloc (.map #[] 0)) (.cells #[.map (some w18.heap.size), .map (some (w18.heap.size + 1)), .map (some (w18.heap.size + 2))] 125)
      simpa using this
    · refine ownsMap_block (World.ownsMap_made w18 _ _ _) ?_
      rw [← hwg, (World.grownBy_alloc _ _ none).block _ (by simp; omega) (by simp), (World.grownBy_alloc _ _ none).block _ (by simp; omega) (by simp), (World.grownBy_alloc _ _ none).block _ (by simp) (by simp)]
  rw [hwg]
  have I19 := aside' (And.intro (I18.out.1.trans (hbg.mono I18.out.1.size)) (And.intro (I18.out.2.1.below hbg) (And.intro (I18.out.2.2.1.below hbg) (And.intro (I18.out.2.2.2.below hbg) (And.intro hbg (And.intro hgr I18.out))))))
  clear I18 hbg hgr hwg
  have hdo := do_any _ _ _ _ _ I19.out.2.2.2.2.2.1
  unfold write1 at hdo
  go_wp2_with fail
  refine hdo.mono ?_
  rintro e w20 ⟨rfl, ⟨mb, hgb, hMb⟩, hb20⟩
  clear hdo
  have hb20' : Below w18.heap.size w18 w20 := I19.out.2.2.2.2.1.trans (hb20.mono (by omega))
  have hcg := hgb.trans I19.out.2.2.2.2.2.1.1
  have J18 := I19.out.2.2.2.2.2.2
  have I20 := aside' (And.intro (J18.1.trans (hb20'.mono J18.1.size)) (And.intro (J18.2.1.below hb20') (And.intro (J18.2.2.1.below hb20') (J18.2.2.2.below hb20'))))
  have hask := ask_any _ _ _ _ _ _ w20 hcg hMb
  unfold query1 ans1 at hask
  clear I19 hb20 hb20' hgb hMb hcg J18
  go_wp2_with fail
  refine hask.mono ?_
  rintro e w21 ⟨rfl, hb21⟩
  clear hask
  have J := I20.out
  have hf := J.2.1.below hb21
  have hp := J.2.2.1.below hb21
  have hx := J.2.2.2.below hb21
  have hbl := J.1.trans (hb21.mono J.1.size)
  have I21 : Aside (Below w.heap.size w w21) := hbl
  obtain ⟨fa, fcap, rfl, _, _, hff⟩ := hf
  obtain ⟨fb, foff, rfl, _, hfc⟩ := hff (by decide)
  have f0 := hfc 0 (by decide)
  obtain ⟨pa, pcap, rfl, _, _, hpp⟩ := hp
  obtain ⟨pb, poff, rfl, _, hpc⟩ := hpp (by decide)
  have p0 := hpc 0 (by decide)
  obtain ⟨⟨x0, x1, x2, x3, x4⟩, _⟩ := hx.cells
  simp only [List.getElem_cons_zero, Nat.add_zero, s3] at f0 p0 x0 x4
  clear I20 J hff hfc hpp hpc hx hbl hb21
  have hfl := field83_1
  unfold ans1 at hfl
  go_wp2_with fail
  go_ret
  exact ⟨rfl, I21.out⟩

end Go.Proofs.YthidhdffiebbgaaGreatDoor
