/- The law FindWays walked: it returns true. -/
import Derived.Test.YtfaoillnakhejaaGreatH32
import Derived.Test.YtfaoillnakhejaaGreatH19
import Derived.Test.YtfaoillnakhejaaGreatH29
namespace Go.Proofs.YtfaoillnakhejaaGreat
set_option maxRecDepth 100000
open Go.RowKit
/-- What ParcelOf hands back, in one form. -/
theorem parcel_form {L : List Ent} {K p : Int} {e : Ending} (h : (∃ en, FailsBy L K [p] en ∧ e = .returned (.tuple #[zp.val, .int .i64 en])) ∨ (Valid (reps L) ∧ ∃ ids, IdsOf (countE L K) ids ∧ p ∈ ids ∧ e = .returned (.tuple #[(parcelF (countE L K) p).val, .int .i64 0]))) :
  ∃ q en, e = .returned (.tuple #[Pcl.val q, .int .i64 en]) ∧ (en = 0 → Valid (reps L) ∧ (∃ ids, IdsOf (countE L K) ids ∧ p ∈ ids) ∧ q = parcelF (countE L K) p) := by
 rcases h with ⟨en, hf, he⟩ | ⟨hv, ids, hi, hp, he⟩
 ·exact ⟨zp, en, he, fun h => absurd h hf.ne⟩
 ·exact ⟨_, 0, he, fun _ => ⟨hv, ⟨ids, hi, hp⟩, rfl⟩⟩
set_option maxHeartbeats 16000000 in
theorem findWays_any (A : Option Addr) (cap : Nat) (L : List Ent) (K f p : Int) (w : World) (hA : RepsAt w A L) (hcap : L.length ≤ cap) :
  Calls Tryz.prog 5 #[.slice A L.length cap, .int .i64 K, .int .i64 f, .int .i64 p] w fun e w' => e = .returned (.bool true) ∧ Below w.heap.size w w' := by
 have hfw := few_any A cap L 15 w hA.rows (by omega) (by omega)
 obtain ⟨b, hb⟩ : ∃ b, fewB (reps L) 15 = b := ⟨_, rfl⟩
 rw [hb] at hfw
 have HF := hid hfw
 have HB := hid hb
 have HA := hid hA
 have HCAP := hid hcap
 clear hA hb hfw hcap
 go_enter Tryz.func5, Tryz.ntmps5
 go_wp2_with fail
 refine HF.out.mono ?_
 rintro e w1 ⟨rfl, rfl⟩
 clear HF
 rcases b with _ | _
 ·go_wp2_with fail
  refine (sane_any w1).mono ?_
  rintro e w2 ⟨rfl, hb2⟩
  have HB2 := hid hb2
  clear hb2
  go_wp2_with fail
  go_ret
  exact ⟨rfl, HB2.out⟩
 have hfs := few_small HB.out (by omega)
 have HL : Hid (L.length ≤ 210) := hid (by have := hfs.1; rw [List.length_map] at this; omega)
 have HE : Hid (EntsAt w1 A L) := hid (HA.out.ents (fun e he => by have := hfs.2 e.1 (List.mem_map_of_mem (f := Prod.fst) he); omega))
 have HC1 := hid (parcelOf_any A cap L K f w1 HE.out HL.out HCAP.out)
 clear hfs HA
 go_wp2_with fail
 refine HC1.out.mono ?_
 rintro e w2 ⟨hb2, hpost⟩
 obtain ⟨q1, en1, rfl, hq1⟩ := parcel_form hpost
 have HQ1 := hid hq1
 have HB2 := hid hb2
 have HE2 := hid (HE.out.below hb2)
 clear hb2 hpost hq1 HC1
 go_upto_region 4 with (refine store_pcl_new rfl _ _ rfl rfl rfl (q := q1) rfl rfl ?_; intro W3 hbx3 hb3 hlt3; have HX3 := hid hbx3; have HB3 := hid (HB2.out.trans (hb3.mono HB2.out.size)); have HE3 := hid (HE2.out.below hb3); clear hbx3 hb3)
 have HC2 := hid (parcelOf_any A cap L K p W3 HE3.out HL.out HCAP.out)
 go_wp2_with fail
 refine HC2.out.mono ?_
 rintro e w4 ⟨hb4, hpost⟩
 obtain ⟨q2, en2, rfl, hq2⟩ := parcel_form hpost
 have HQ2 := hid hq2
 have HB4 := hid (HB3.out.trans (hb4.mono HB3.out.size))
 have HE4 := hid (HE3.out.below hb4)
 have HX4 := hid (HX3.out.below hb4)
 clear hb4 hpost hq2 HC2 HX3
 go_upto_region 5 with (refine store_pcl_new rfl _ _ rfl rfl rfl (q := q2) rfl rfl ?_; intro W5 hbx5 hb5 hlt5; have HY5 := hid hbx5; have HB5 := hid (HB4.out.trans (hb5.mono HB4.out.size)); have HE5 := hid (HE4.out.below hb5); have HX5 := hid (HX4.out.below hb5); clear hbx5 hb5)
 clear HX4
 by_cases he1 : en1 = 0
 rotate_left
 ·have d1 : (en1 != 0) = true := bne_iff_ne.2 he1
  clear he1
  go_wp2_with fail
  refine (sane_any W5).mono ?_
  rintro e w6 ⟨rfl, hb6⟩
  have HB6 := hid (HB5.out.trans (hb6.mono HB5.out.size))
  clear hb6
  go_wp2_with fail
  go_ret
  exact ⟨rfl, HB6.out⟩
 by_cases he2 : en2 = 0
 rotate_left
 ·have d1 : (en2 != 0) = true := bne_iff_ne.2 he2
  clear he2
  subst he1
  go_wp2_with fail
  refine (sane_any W5).mono ?_
  rintro e w6 ⟨rfl, hb6⟩
  have HB6 := hid (HB5.out.trans (hb6.mono HB5.out.size))
  clear hb6
  go_wp2_with fail
  go_ret
  exact ⟨rfl, HB6.out⟩
 subst he1
 subst he2
 obtain ⟨hv, ⟨ids, hi, hfi⟩, hq1⟩ := HQ1.out rfl
 obtain ⟨_, ⟨ids2, hi2, hpi⟩, hq2⟩ := HQ2.out rfl
 have hii := hi2.same hi
 subst hii
 have hsound : Sound (reps (countE L K)) := by rw [countE_reps]; exact hv.sound K
 have hcl : (countE L K).length ≤ 100 := by have := few_valid HB.out hv; have := countE_len L K; omega
 obtain ⟨R, hR, hRB⟩ := chain_ok hsound hcl (a := f) (t := p) (made_isSome.1 ((hi.2 p).1 hpi).1)
 have HR := hid hR
 have HRB := hid hRB
 have HV := hid hv
 have HI := hid hi
 have HFI := hid hfi
 have HPI := hid hpi
 have HSO := hid hsound
 have HQE := hid (And.intro hq1 hq2)
 have HRL : Hid (∀ l, R = some l → l.length ≤ 210) := hid (fun l hl => by
  rcases hRB with ⟨h, _⟩ | ⟨l2, h, h2⟩
  ·rw [h] at hl; cases hl
  ·rw [h] at hl
   cases hl
   have := ch_len hsound h2.ch
   omega)
 clear hv hi hfi hpi hsound hcl hR hRB HQ1 HQ2 hq1 hq2 hi2
 have HC3 := hid (origins_any A cap L K p W5 HE5.out HL.out HCAP.out)
 go_upto_region 7 with fail
 go_wp2_with fail
 refine HC3.out.mono ?_
 rintro e w6 ⟨hb6, hpost⟩
 rcases hpost with ⟨en, hf, _⟩ | ⟨_, ids3, hi3, _, ys, v, rfl, ho6, hys6, hys⟩
 ·exact absurd hf (no_fails HV.out HI.out (by intro x hx; rw [List.mem_singleton] at hx; rw [hx]; exact HPI.out))
 have hii := hi3.same HI.out
 subst hii
 obtain ⟨A6, k6, rfl, hxf⟩ := ownsRow.form ho6
 clear hxf
 have HI6 := hid (ownsRow_ints ho6)
 have HLY : Hid (ys.length ≤ 1000000) := hid (by
  have h1 := nodup_le (ys := ids3) (hys6.imp (fun h => by omega)) (fun x hx => back_reach_in HSO.out HI.out ((hys x).1 hx).1 HPI.out)
  have h2 := ids_few HSO.out (by have := countE_len L K; have := HL.out; omega) HI.out
  omega)
 clear hys6
 have HYS := hid hys
 have HB6 := hid (HB5.out.trans (hb6.mono HB5.out.size))
 have HE6 := hid (HE5.out.below hb6)
 have HX6 := hid (HX5.out.below hb6)
 have HY6 := hid (HY5.out.below hb6)
 clear hb6 ho6 hys hi3 HC3 HX5 HY5
 have HC4 := hid (remains_any A cap L K f w6 HE6.out HL.out HCAP.out)
 go_wp2_with fail
 refine HC4.out.mono ?_
 rintro e w7 ⟨hb7, hpost⟩
 rcases hpost with ⟨en, hf, _⟩ | ⟨_, ids3, hi3, _, zs, v, rfl, ho7, hzs7, hzs⟩
 ·exact absurd hf (no_fails HV.out HI.out (by intro x hx; rw [List.mem_singleton] at hx; rw [hx]; exact HFI.out))
 have hii := hi3.same HI.out
 subst hii
 obtain ⟨A7, k7, rfl, hxf⟩ := ownsRow.form ho7
 clear hxf
 have HI7 := hid (ownsRow_ints ho7)
 have HI67 := hid (HI6.out.kept (Kept.of_below hb7))
 have HLZ : Hid (zs.length ≤ 1000000) := hid (by
  have h1 := nodup_le (ys := ids3) (hzs7.imp (fun h => by omega)) (fun x hx => on_reach_in HSO.out HI.out ((hzs x).1 hx).1 HFI.out)
  have h2 := ids_few HSO.out (by have := countE_len L K; have := HL.out; omega) HI.out
  omega)
 clear hzs7
 have HZS := hid hzs
 have HB7 := hid (HB6.out.trans (hb7.mono HB6.out.size))
 have HE7 := hid (HE6.out.below hb7)
 have HX7 := hid (HX6.out.below hb7)
 have HY7 := hid (HY6.out.below hb7)
 clear hb7 ho7 hzs hi3 HC4 HX6 HY6 HI6
 obtain ⟨hy0, hz0, hlaw⟩ := ways_hold HSO.out HI.out HFI.out HPI.out HYS.out HZS.out HRB.out
 have hyl : ((ys.length : Int) == 0) = false := beq_eq_false_iff_ne.2 (fun h => hy0 (List.length_eq_zero_iff.1 (by omega)))
 have hzl : ((zs.length : Int) == 0) = false := beq_eq_false_iff_ne.2 (fun h => hz0 (List.length_eq_zero_iff.1 (by omega)))
 have HLAW := hid hlaw
 clear hy0 hz0 hlaw
 have HC5 := hid (chain_any A cap L K f p w7 HE7.out HL.out HCAP.out (R := R) (fun _ _ => HR.out))
 go_wp2_with fail
 refine HC5.out.mono ?_
 rintro e w8 ⟨hb8, hpost⟩
 rcases hpost with ⟨en, hf, _⟩ | ⟨_, ids3, hi3, _, _, hm⟩
 ·exact absurd hf (no_fails HV.out HI.out (by
   intro x hx
   rcases List.mem_cons.1 hx with rfl | hx
   ·exact HFI.out
   ·rw [List.mem_singleton] at hx; rw [hx]; exact HPI.out))
 have HM := hid hm
 have HB8 := hid (HB7.out.trans (hb8.mono HB7.out.size))
 have HE8 := hid (HE7.out.below hb8)
 have HX8 := hid (HX7.out.below hb8)
 have HY8 := hid (HY7.out.below hb8)
 have HI68 := hid (HI67.out.kept (Kept.of_below hb8))
 have HI78 := hid (HI7.out.kept (Kept.of_below hb8))
 clear hb8 hi3 hm HC5 HX7 HY7 HI67 HI7
 obtain ⟨fnd, hfnd⟩ : ∃ t, q1.found = t := ⟨_, rfl⟩
 have HQF := hid hfnd
 obtain ⟨into, hinto⟩ : ∃ t, q2.into = t := ⟨_, rfl⟩
 have HQI := hid hinto
 obtain ⟨B1, hB1⟩ : ∃ t, decide (f ∈ ys) = t := ⟨_, rfl⟩
 obtain ⟨B2, hB2⟩ : ∃ t, decide (p ∈ zs) = t := ⟨_, rfl⟩
 have HBL : Hid (fnd = true → into = 0 → B1 = B2 ∧ B1 = R.isSome) := hid (fun h1 h2 => by
  have := HLAW.out (by rw [← HQE.out.1, HQF.out]; exact h1) (by rw [← HQE.out.2, HQI.out]; exact h2)
  rw [hB1, hB2] at this
  exact this)
 have HD1 := hid hB1
 have HD2 := hid hB2
 clear hfnd hinto hB1 hB2 HLAW HQE
 rcases HRB.out with ⟨hrn, _⟩ | ⟨l, hrs, hbest⟩
 ·subst hrn
  have hm := HM.out
  dsimp only at hm
  subst hm
  clear HM HRL HRB HR
  go_upto_region 16 with fail
  have xa := HX8.out.at_.2.2.2.2.2.2.2.2.2.2.1
  rw [HQF.out] at xa
  have ya := HY8.out.at_.2.2.1
  rw [HQI.out] at ya
  rcases fnd with _ | _
  ·clear ya
   go_wp2_with fail
   refine (sane_any w8).mono ?_
   rintro e ws ⟨rfl, hbs⟩
   have HBS := hid (HB8.out.trans (hbs.mono HB8.out.size))
   clear hbs
   go_wp2_with fail
   go_ret
   exact ⟨rfl, HBS.out⟩
  by_cases hin : into = 0
  rotate_left
  ·have d1 : (into != 0) = true := bne_iff_ne.2 hin
   clear hin
   go_wp2_with fail
   refine (sane_any w8).mono ?_
   rintro e ws ⟨rfl, hbs⟩
   have HBS := hid (HB8.out.trans (hbs.mono HB8.out.size))
   clear hbs
   go_wp2_with fail
   go_ret
   exact ⟨rfl, HBS.out⟩
  subst hin
  obtain ⟨e1, e2⟩ := HBL.out rfl rfl
  have e3 : B2 = false := e1.symm.trans e2
  have e4 : B1 = false := e2
  subst e3
  subst e4
  clear e1 e2
  go_wp2_with fail
  refine (sane_any w8).mono ?_
  rintro e w9 ⟨rfl, hb9⟩
  have HB9 := hid (HB8.out.trans (hb9.mono HB8.out.size))
  have HS1 := hid (has_any A6 k6 ys f w9 HLY.out (HI68.out.kept (Kept.of_below hb9)))
  have HS2 := hid (has_any A7 k7 zs p w9 HLZ.out (HI78.out.kept (Kept.of_below hb9)))
  rw [HD1.out] at HS1
  rw [HD2.out] at HS2
  clear hb9 xa ya
  go_wp2_with fail
  refine HS1.out.mono ?_
  rintro e w9 ⟨rfl, rfl⟩
  go_wp2_with fail
  refine HS2.out.mono ?_
  rintro e w9 ⟨rfl, rfl⟩
  go_wp2_with fail
  refine HS1.out.mono ?_
  rintro e w9 ⟨rfl, rfl⟩
  go_wp2_with fail
  go_ret
  exact ⟨rfl, HB9.out⟩
 ·subst hrs
  obtain ⟨v, hm, ho8⟩ := HM.out
  subst hm
  obtain ⟨A8, k8, rfl, hxf⟩ := ownsRow.form ho8
  clear hxf
  have hl8 := HRL.out l rfl
  have HC6 := hid (checkChain_any A cap L K f p A8 k8 l w8 HE8.out HL.out HCAP.out (ownsRow_ints ho8) (by omega))
  have HIN := hid (And.intro HFI.out hbest.ch)
  clear ho8 HM HRL HRB HR hbest
  go_upto_region 13 with fail
  go_wp2_with fail
  refine HC6.out.mono ?_
  rintro e w10 ⟨hb10, hpost⟩
  rcases hpost with ⟨en, hf, _⟩ | ⟨_, ids3, hi3, _, _, rfl⟩
  ·exact absurd hf (no_fails HV.out HI.out (by
    intro x hx
    rcases List.mem_cons.1 hx with rfl | hx
    ·exact HFI.out
    ·rw [List.mem_singleton] at hx; rw [hx]; exact HPI.out))
  have hdec : decide (p ∈ hereF (countE L K) l [f]) = true := decide_eq_true ((here_iff l [f]).2 ⟨f, by simp, HIN.out.2⟩)
  rw [hdec]
  have HB10 := hid (HB8.out.trans (hb10.mono HB8.out.size))
  have HX10 := hid (HX8.out.below hb10)
  have HY10 := hid (HY8.out.below hb10)
  have HI610 := hid (HI68.out.kept (Kept.of_below hb10))
  have HI710 := hid (HI78.out.kept (Kept.of_below hb10))
  clear hb10 hi3 hdec HC6 HX8 HY8 HI68 HI78
  go_upto_region 16 with fail
  have xa := HX10.out.at_.2.2.2.2.2.2.2.2.2.2.1
  rw [HQF.out] at xa
  have ya := HY10.out.at_.2.2.1
  rw [HQI.out] at ya
  rcases fnd with _ | _
  ·clear ya
   go_wp2_with fail
   refine (sane_any w10).mono ?_
   rintro e ws ⟨rfl, hbs⟩
   have HBS := hid (HB10.out.trans (hbs.mono HB10.out.size))
   clear hbs
   go_wp2_with fail
   go_ret
   exact ⟨rfl, HBS.out⟩
  by_cases hin : into = 0
  rotate_left
  ·have d1 : (into != 0) = true := bne_iff_ne.2 hin
   clear hin
   go_wp2_with fail
   refine (sane_any w10).mono ?_
   rintro e ws ⟨rfl, hbs⟩
   have HBS := hid (HB10.out.trans (hbs.mono HB10.out.size))
   clear hbs
   go_wp2_with fail
   go_ret
   exact ⟨rfl, HBS.out⟩
  subst hin
  obtain ⟨e1, e2⟩ := HBL.out rfl rfl
  have e3 : B2 = true := e1.symm.trans e2
  have e4 : B1 = true := e2
  subst e3
  subst e4
  clear e1 e2
  go_wp2_with fail
  refine (sane_any w10).mono ?_
  rintro e w9 ⟨rfl, hb9⟩
  have HB9 := hid (HB10.out.trans (hb9.mono HB10.out.size))
  have HS1 := hid (has_any A6 k6 ys f w9 HLY.out (HI610.out.kept (Kept.of_below hb9)))
  have HS2 := hid (has_any A7 k7 zs p w9 HLZ.out (HI710.out.kept (Kept.of_below hb9)))
  rw [HD1.out] at HS1
  rw [HD2.out] at HS2
  clear hb9 xa ya
  go_wp2_with fail
  refine HS1.out.mono ?_
  rintro e w9 ⟨rfl, rfl⟩
  go_wp2_with fail
  refine HS2.out.mono ?_
  rintro e w9 ⟨rfl, rfl⟩
  go_wp2_with fail
  refine HS1.out.mono ?_
  rintro e w9 ⟨rfl, rfl⟩
  go_wp2_with fail
  go_ret
  exact ⟨rfl, HB9.out⟩
end Go.Proofs.YtfaoillnakhejaaGreat
