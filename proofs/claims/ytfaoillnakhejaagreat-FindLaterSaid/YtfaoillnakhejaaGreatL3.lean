/- The law FindLater walked: it returns true. -/
import Derived.Test.YtfaoillnakhejaaGreatL1
import Derived.Test.YtfaoillnakhejaaGreatL2
import Derived.Test.YtfaoillnakhejaaGreatH19
import Derived.Test.YtfaoillnakhejaaGreatH29
import Derived.Test.YtfaoillnakhejaaGreatH4
namespace Go.Proofs.YtfaoillnakhejaaGreat
set_option maxRecDepth 100000
open Go.RowKit
theorem weight_form {L : List Ent} {K p lo hi en : Int} {ids : List Int} (hv : Valid (reps L)) (hi' : IdsOf (countE L K) ids) {w w' : World} {e : Ending}
  (h : Below w.heap.size w w' ∧ ((∃ er, FailsBy L K [p] er ∧ e = .returned (.tuple #[.int .i64 0, .int .i64 0, .int .i64 er])) ∨ (Valid (reps L) ∧ ∃ ids, IdsOf (countE L K) ids ∧ p ∈ ids ∧ e = .returned (.tuple #[.int .i64 lo, .int .i64 hi, .int .i64 en])))) :
  e = .returned (.tuple #[.int .i64 (if p ∈ ids then lo else 0), .int .i64 (if p ∈ ids then hi else 0), .int .i64 (if p ∈ ids then en else 30)]) := by
 rcases h.2 with ⟨er, hf, rfl⟩ | ⟨_, ids2, h2, hp, rfl⟩
 ·obtain ⟨hn, rfl⟩ := fails_one hv hi' hf
  rw [if_neg hn, if_neg hn, if_neg hn]
 ·rw [h2.same hi'] at hp
  rw [if_pos hp, if_pos hp, if_pos hp]
theorem at_in {C : List Ent} {ids : List Int} {x i : Int} (h : AtIs (pclsF C ids) x i) (hx : x ∈ ids) : ∃ j : Nat, ∃ hj : j < (pclsF C ids).length, i = j ∧ (pclsF C ids)[j] = parcelF C x := by
 rcases h with ⟨_, hno⟩ | ⟨j, hj, rfl, hid⟩
 ·exact absurd rfl (hno (parcelF C x) (List.mem_map_of_mem hx))
 ·refine ⟨j, hj, rfl, ?_⟩
  have hl : j < ids.length := by
   unfold pclsF at hj
   rwa [List.length_map] at hj
  have hq : (pclsF C ids)[j] = parcelF C ids[j] := by simp [pclsF]
  rw [hq] at hid ⊢
  have : ids[j] = x := hid
  rw [this]
set_option maxHeartbeats 32000000 in
theorem findLater_any (A : Option Addr) (cap : Nat) (L : List Ent) (K p hour : Int) (w : World) (hA : RepsAt w A L) (hcap : L.length ≤ cap) :
  Calls Tryz.prog 6 #[.slice A L.length cap, .int .i64 K, .int .i64 p, .int .i64 hour] w fun e w' => e = .returned (.bool true) ∧ Below w.heap.size w w' := by
 have hfw := few_any A cap L 15 w hA.rows (by omega) (by omega)
 obtain ⟨b, hb⟩ : ∃ b, fewB (reps L) 15 = b := ⟨_, rfl⟩
 rw [hb] at hfw
 have HF := hid hfw
 have HB := hid hb
 have HA := hid hA
 have HCAP := hid hcap
 clear hA hb hfw hcap
 go_enter Tryz.func6, Tryz.ntmps6
 go_wp2_with fail
 refine HF.out.mono ?_
 rintro e w1 ⟨rfl, rfl⟩
 clear HF
 rcases b with _ | _
 ·go_wp2_with fail
  refine (sane_any w1).mono ?_
  rintro e w2 ⟨rfl, hb2⟩
  have HB2 := hid hb2
  clear hb2
  go_wp2_with fail
  go_ret
  exact ⟨rfl, HB2.out⟩
 have hfs := few_small HB.out (by omega)
 have HL : Hid (L.length ≤ 210) := hid (by have := hfs.1; rw [List.length_map] at this; omega)
 have HE : Hid (EntsAt w1 A L) := hid (HA.out.ents (fun e he => by have := hfs.2 e.1 (List.mem_map_of_mem (f := Prod.fst) he); omega))
 have HC1 := hid (check_any A cap L w1 HE.out HL.out HCAP.out)
 clear hfs HA
 go_wp2_with fail
 refine HC1.out.mono ?_
 rintro e w2 ⟨⟨i, en, rfl, hck⟩, hb2⟩
 have HB2 := hid hb2
 have HE2 := hid (HE.out.below hb2)
 by_cases hen : en = 0
 rotate_left
 ·have d1 : (en != 0) = true := bne_iff_ne.2 hen
  clear hen hck hb2 HC1
  go_wp2_with fail
  refine (sane_any w2).mono ?_
  rintro e ws ⟨rfl, hbs⟩
  have HBS := hid (HB2.out.trans (hbs.mono HB2.out.size))
  clear hbs
  go_wp2_with fail
  go_ret
  exact ⟨rfl, HBS.out⟩
 subst hen
 have hv := check_valid hck
 have HV := hid hv
 have hll : L.length ≤ 200 := by have := hv.len; rw [List.length_map] at this; omega
 clear hck hb2 HC1 hv
 go_upto_region 8 with fail
 go_loopg [11, 12] (L.length) (fun g v iv wr => ∃ k : Nat, k ≤ L.length ∧ g = L.length - k ∧ iv = .int .i64 k ∧ Hid (wr.ownsRow w2.heap.size 46 15 v (earlyL (L.take k) K).length (flat (earlyL (L.take k) K))) ∧ Hid (Below w2.heap.size w2 wr))
 case atStart => exact ⟨0, by omega, by omega, rfl, hid (World.ownsRow_nil _ _ _ _), hid (Below.refl _ _)⟩
 case round =>
  obtain ⟨k, hk, hgk, rfl, hown, hbw⟩ := hrel
  by_cases hkl : k < L.length
  ·obtain ⟨b, off, hAe, hc⟩ := ((HE2.out.below hbw.out).rows) (by omega)
   subst hAe
   have hrange := hc k hkl
   have hsn := early_snoc L K k hkl
   have hel : (earlyL (L.take k) K).length ≤ 200 := by
    have h1 := early_len (L.take k) K
    rw [List.length_take] at h1
    omega
   obtain ⟨⟨x, P, c⟩, hx⟩ : ∃ y, L[k] = y := ⟨_, rfl⟩
   rw [hx] at hrange hsn
   dsimp only at hrange hsn
   obtain ⟨es, hes⟩ : ∃ l, earlyL (L.take k) K = l := ⟨_, rfl⟩
   rw [hes] at hsn hown hel
   have hkn : wr.cell? ⟨b, off + k * 15 + 1, none⟩ = some (.int .i64 x.known) := hrange 1 _ rfl
   have HR := hid hrange
   have i0 : (0 : Int) ≤ k := by omega
   have i1 : (k : Int) < L.length := by omega
   by_cases hkk : x.known ≤ K
   ·have dk : decide (x.known ≤ K) = true := decide_eq_true hkk
    rw [if_pos hkk] at hsn
    obtain ⟨v4, w4, hr4, ho4, hb4⟩ := app_rep (x, P, c) hown.out (by omega) hbw.out.size
    have HR4 := hid hr4
    have HO4 := hid ho4
    have HB4 := hid (hbw.out.trans hb4)
    have HSN := hid hsn
    clear hc hrange hx hes hsn hkk hr4 ho4 hb4
    go_wp2_with (first | refine load_rep_mid rfl _ rfl _ _ rfl HR.out ?_ | refine build_rep rfl _ rfl rfl ?_ | (at_builtin; refine wpList_app rfl rfl rfl rfl rfl HR4.out ?_))
    go_roundg (L.length - (k + 1))
    case measure => omega
    case rel => exact ⟨k + 1, by omega, rfl, by go_num, hid (by rw [HSN.out]; exact HO4.out), HB4⟩
   ·have dk : decide (x.known ≤ K) = false := decide_eq_false hkk
    rw [if_neg hkk, List.append_nil] at hsn
    have HSN := hid hsn
    clear hc hrange hx hes hsn hkk
    go_wp2_with fail
    go_roundg (L.length - (k + 1))
    case measure => omega
    case rel => exact ⟨k + 1, by omega, rfl, by go_num, hid (by rw [HSN.out]; exact hown.out), hbw⟩
  ·obtain rfl : k = L.length := by omega
   have hown2 := hown.out
   rw [List.take_length] at hown2
   obtain ⟨A5, k5, rfl, hx5, hc5, hz5⟩ := ownsRow.form hown2
   have hve := early_valid HV.out K
   have hce := early_count L K
   have hel := early_len L K
   have hsub := fun e => early_sub (L := L) (K := K) (e := e)
   obtain ⟨E, hE⟩ : ∃ E, earlyL L K = E := ⟨_, rfl⟩
   rw [hE] at hown2 hx5 hc5 hve hce hel ⊢
   simp only [hE] at hsub
   have HVE := hid hve
   have HCE := hid hce
   have HEL : Hid (E.length ≤ 210) := hid (by omega)
   have HC5 := hid hc5
   have HE3 := hid (HE2.out.below hbw.out)
   have HE5 : Hid (EntsAt wr A5 E) := hid ⟨rows_of_cells hx5, fun e he => HE3.out.parts e (hsub e he)⟩
   have HB3 := hid (HB2.out.trans (hbw.out.mono HB2.out.size))
   have HP1 := hid (parcels_any A cap L K wr HE3.out HL.out HCAP.out)
   clear hown hown2 hx5 hc5 hz5 hve hce hel hsub hE hbw hkl
   go_wp2_with fail
   refine HP1.out.mono ?_
   rintro e w6 ⟨hb6, hcase⟩
   rcases hcase with ⟨en, hf, _⟩ | ⟨_, ids, v6, hi, rfl, ho6⟩
   ·exact absurd hf (fails_nil HV.out)
   have HI := hid hi
   have hnp : (pclsF (countE L K) ids).length ≤ 2000 := by
    have hs : Sound (reps (countE L K)) := by rw [countE_reps]; exact HV.out.sound K
    have := ids_few hs (by have := countE_len L K; omega) hi
    unfold pclsF
    rw [List.length_map]
    omega
   have hwx : ∃ lo hi en, p ∈ ids → weightF (countE L K) ids p = some (lo, hi, en) := by
    by_cases hp : p ∈ ids
    ·obtain ⟨lo, h2, en, h⟩ := weight_is HV.out hi hp
     exact ⟨lo, h2, en, fun _ => h⟩
    ·exact ⟨0, 0, 0, fun h => absurd h hp⟩
   obtain ⟨lo, hi2, en, hw⟩ := hwx
   have HW := hid hw
   obtain ⟨C, hC⟩ : ∃ C, countE L K = C := ⟨_, rfl⟩
   have HCC := hid hC
   obtain ⟨D, hD⟩ : ∃ D, pclsF C ids = D := ⟨_, rfl⟩
   rw [hC, hD] at ho6
   rw [hC, hD] at hnp
   have HD := hid hD
   obtain ⟨A6, k6, rfl, hx6, hc6, hz6⟩ := ownsRow.form ho6
   have HPA := hid (pcls_of_cells hx6)
   have HB6 := hid (HB3.out.trans (hb6.mono HB3.out.size))
   have HE6 := hid (HE3.out.below hb6)
   have HEE6 := hid (HE5.out.below hb6)
   have HP2 := hid (parcels_any A5 k5 E K w6 HEE6.out HEL.out HC5.out)
   clear hb6 hi hw hC hD ho6 hx6 hc6 hz6 HP1
   go_wp2_with fail
   refine HP2.out.mono ?_
   rintro e w7 ⟨hb7, hcase⟩
   rcases hcase with ⟨en, hf, _⟩ | ⟨_, ids2, v7, hi3, rfl, ho7⟩
   ·exact absurd hf (fails_nil HVE.out)
   have hii : ids2 = ids := by
    rw [HCE.out] at hi3
    exact hi3.same HI.out
   subst hii
   rw [HCE.out, HCC.out, HD.out] at ho7
   obtain ⟨A7, k7, rfl, hx7, hc7, hz7⟩ := ownsRow.form ho7
   have HPB := hid (pcls_of_cells hx7)
   have HPA7 := hid (HPA.out.kept (Kept.of_below hb7))
   have HB7 := hid (HB6.out.trans (hb7.mono HB6.out.size))
   have HE7 := hid (HE6.out.below hb7)
   have HEE7 := hid (HEE6.out.below hb7)
   have HW1 := hid (weight_any A cap L K p w7 HE7.out HL.out HCAP.out (lo := lo) (hi := hi2) (en := en) (fun ids3 h3 hp => by rw [h3.same HI.out] at hp ⊢; exact HW.out hp))
   clear hb7 hi3 ho7 hx7 hc7 hz7 HP2
   go_wp2_with fail
   refine HW1.out.mono ?_
   rintro e w8 hpost
   have hb8 := hpost.1
   have hwf := weight_form HV.out HI.out hpost
   subst hwf
   obtain ⟨l1, hl1⟩ : ∃ x, (if p ∈ ids2 then lo else 0) = x := ⟨_, rfl⟩
   obtain ⟨l2, hl2⟩ : ∃ x, (if p ∈ ids2 then hi2 else 0) = x := ⟨_, rfl⟩
   obtain ⟨l3, hl3⟩ : ∃ x, (if p ∈ ids2 then en else 30) = x := ⟨_, rfl⟩
   rw [hl1, hl2, hl3]
   have HLS := hid (And.intro hl1 (And.intro hl2 hl3))
   have HB8 := hid (HB7.out.trans (hb8.mono HB7.out.size))
   have HE8 := hid (HE7.out.below hb8)
   have HEE8 := hid (HEE7.out.below hb8)
   have HPA8 := hid (HPA7.out.kept (Kept.of_below hb8))
   have HPB8 := hid (HPB.out.kept (Kept.of_below hb8))
   have HW2 := hid (weight_any A5 k5 E K p w8 HEE8.out HEL.out HC5.out (lo := lo) (hi := hi2) (en := en) (fun ids3 h3 hp => by
    rw [HCE.out] at h3 ⊢
    rw [h3.same HI.out] at hp ⊢
    exact HW.out hp))
   clear hpost hb8 hl1 hl2 hl3 HW1 HPA7 HPB
   go_wp2_with fail
   refine HW2.out.mono ?_
   rintro e w9 hpost
   have hb9 := hpost.1
   have hwf := weight_form HVE.out (ids := ids2) (by rw [HCE.out]; exact HI.out) hpost
   subst hwf
   rw [HLS.out.1, HLS.out.2.1, HLS.out.2.2]
   have HB9 := hid (HB8.out.trans (hb9.mono HB8.out.size))
   have HE9 := hid (HE8.out.below hb9)
   have HPA9 := hid (HPA8.out.kept (Kept.of_below hb9))
   have HPB9 := hid (HPB8.out.kept (Kept.of_below hb9))
   have HSP := hid (sameParcels_t A6 k6 A7 k7 D w9 (by omega) HPA9.out HPB9.out)
   have z1 : (l1 != l1) = false := by simp
   have z2 : (l2 != l2) = false := by simp
   have z3 : (l3 != l3) = false := by simp
   clear hpost hb9 HW2 HPA8 HPB8
   go_wp2_with fail
   refine HSP.out.mono ?_
   rintro e w10 ⟨rfl, hb10⟩
   have HB10 := hid (HB9.out.trans (hb10.mono HB9.out.size))
   have HE10 := hid (HE9.out.below hb10)
   have HPA10 := hid (HPA9.out.kept (Kept.of_below hb10))
   have HPR := hid (present_any A cap L K hour w10 HE10.out HL.out HCAP.out)
   clear hb10 HSP HPA9 HPB9
   go_wp2_with fail
   refine HPR.out.mono ?_
   rintro e w11 ⟨hb11, hcase⟩
   rcases hcase with ⟨en, hf, _⟩ | ⟨_, ids4, v11, ys, hi4, rfl, ho11, hys⟩
   ·exact absurd hf (fails_nil HV.out)
   have hii := hi4.same HI.out
   subst hii
   obtain ⟨A11, k11, rfl, hx11, hc11, hz11⟩ := ownsRow.form ho11
   have hyl : ys.length ≤ 2000 := by
    have h1 : ys.length ≤ ids4.length := by rw [hys]; exact List.length_filter_le _ _
    have h2 : D.length = ids4.length := by rw [← HD.out]; unfold pclsF; rw [List.length_map]
    omega
   have HIY := hid (ownsRow_ints ho11)
   have HYS : Hid (∀ x ∈ ys, x ∈ ids4 ∧ (parcelF C x).hour ≤ hour) := hid (fun x hx => by
    rw [hys] at hx
    unfold dropQ at hx
    obtain ⟨h1, h2⟩ := List.mem_filter.1 hx
    have h2 : (!(!presB (countE L K) hour (pclOr (countE L K) ids4 x))) = true := h2
    rw [pclOr_in h1] at h2
    refine ⟨h1, ?_⟩
    unfold presB at h2
    simp only [Bool.not_not, Bool.and_eq_true, decide_eq_true_eq] at h2
    rw [← HCC.out]
    exact h2.1)
   have HB11 := hid (HB10.out.trans (hb11.mono HB10.out.size))
   have HPA11 := hid (HPA10.out.kept (Kept.of_below hb11))
   clear hb11 hi4 hys ho11 hx11 hc11 hz11 HPR HPA10
   go_upto_region 20 with fail
   go_loopg [25, 26] (ys.length) (fun g iv av wq => ∃ k2 : Nat, k2 ≤ ys.length ∧ g = ys.length - k2 ∧ iv = .int .i64 k2 ∧ w11 = wq)
   case atStart => exact ⟨0, by omega, by omega, rfl, rfl⟩
   case round =>
    obtain ⟨k2, hk2, hgk2, rfl, rfl⟩ := hrel
    by_cases hk2l : k2 < ys.length
    ·obtain ⟨b7, off7, hA7, hc7⟩ := HIY.out (by omega)
     subst hA7
     have hck2 := hc7 k2 hk2l
     have hin := HYS.out _ (List.getElem_mem hk2l)
     obtain ⟨x, hx⟩ : ∃ x, ys[k2] = x := ⟨_, rfl⟩
     rw [hx] at hck2 hin
     have HIN := hid hin
     have j0 : (0 : Int) ≤ k2 := by omega
     have j1 : (k2 : Int) < ys.length := by omega
     have HIX := hid (lindex_any A6 k6 D x w11 HPA11.out (by omega))
     clear hc7 hx hin
     go_wp2_with fail
     refine HIX.out.mono ?_
     rintro e w11 ⟨⟨i, rfl, hat⟩, rfl⟩
     rw [← HD.out] at hat
     obtain ⟨j, hj, rfl, hdj⟩ := at_in hat HIN.out.1
     have hj2 : j < D.length := by rw [← HD.out]; exact hj
     obtain ⟨b8, off8, hA8, hc8⟩ := HPA11.out (by omega)
     subst hA8
     have hrg := hc8 j hj2
     have hdj2 : D[j] = parcelF C x := by rw [← hdj]; congr 1; exact HD.out.symm
     rw [hdj2] at hrg
     have hhr : w11.cell? ⟨b8, off8 + j * 12 + 9, none⟩ = some (.int .i64 (parcelF C x).hour) := hrg 9 _ rfl
     have hho := HIN.out.2
     obtain ⟨h, hh⟩ : ∃ h, (parcelF C x).hour = h := ⟨_, rfl⟩
     rw [hh] at hhr hho
     have dh : decide (hour < h) = false := decide_eq_false (by omega)
     have l0 : (0 : Int) ≤ j := by omega
     have l4 : (j : Int) < D.length := by omega
     have l5 : ¬ (j : Int) < 0 := by omega
     clear hat hj hdj hc8 hrg hdj2 hh hho HIX hj2
     go_wp2_with fail
     go_roundg (ys.length - (k2 + 1))
     case measure => omega
     case rel => exact ⟨k2 + 1, by omega, rfl, by go_num, rfl⟩
    ·obtain rfl : k2 = ys.length := by omega
     go_wp2_with fail
     refine (sane_any w11).mono ?_
     rintro e ws ⟨rfl, hbs⟩
     have HBS := hid (HB11.out.trans (hbs.mono HB11.out.size))
     clear hbs
     go_wp2_with fail
     go_ret
     exact ⟨rfl, HBS.out⟩
end Go.Proofs.YtfaoillnakhejaaGreat
