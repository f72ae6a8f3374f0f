/- The reference: admitted. -/
import Derived.Test.YtfaoillnakhejaaGreatH10
namespace Go.Proofs.YtfaoillnakhejaaGreat
set_option maxRecDepth 100000
open Go.RowKit
theorem enters_rhidden : Enters 124 := fun args w => by kernel_rfl
def bad1R (L : List Rep) (x : Rep) (p : Int) : Bool := !thereB L p || (decide (x.kind = 7) && !foundB L p)
def bad2R (L : List Rep) (x : Rep) (p : Int) : Bool := hiddenB L p != decide (x.kind = 6)
def lateR (x : Rep) (p : Int) (y : Rep) : Bool := decide (y.names p) && decide (x.hour < y.hour)
def bad3R (L : List Rep) (x : Rep) (p : Int) : Bool := L.any (lateR x p)
theorem any_same {α : Type} {l m : List α} (h : ∀ p, p ∈ l ↔ p ∈ m) (f : α → Bool) : l.any f = m.any f := by
 rw [Bool.eq_iff_iff, List.any_eq_true, List.any_eq_true]
 simp only [h]
theorem admitsT {L : List Rep} {x : Rep} (hx : x.Wf) : admits L x = if (takesL x).any (bad1R L x) = true then 30 else if (takesL x).any (bad2R L x) = true then 31 else if (takesL x).any (bad3R L x) = true then 7 else if x.kind = 7 ∧ goodsAt L x.parcel ≠ goodsAt L x.other then 8 else 0 := by
 have hm := takes_mem (wf_pos hx)
 have h3 : (L.any fun y => decide (x.hour < y.hour) && x.touches.any (fun p => decide (y.names p))) = (takesL x).any (bad3R L x) := by
  rw [Bool.eq_iff_iff, List.any_eq_true, List.any_eq_true]
  constructor
  ·rintro ⟨y, hy, h⟩
   rw [Bool.and_eq_true, List.any_eq_true] at h
   obtain ⟨h1, p, hp, h2⟩ := h
   exact ⟨p, (hm p).2 hp, List.any_eq_true.2 ⟨y, hy, by unfold lateR; rw [h1, h2]; rfl⟩⟩
  ·rintro ⟨p, hp, h⟩
   obtain ⟨y, hy, h2⟩ := List.any_eq_true.1 h
   unfold lateR at h2
   rw [Bool.and_eq_true] at h2
   refine ⟨y, hy, ?_⟩
   rw [h2.2, Bool.true_and]
   exact List.any_eq_true.2 ⟨p, (hm p).1 hp, h2.1⟩
 unfold admits
 rw [h3, any_same hm (bad1R L x), any_same hm (bad2R L x)]
 rfl
theorem goodsR (C : List Ent) (p : Int) : goodsAt (reps C) p = (entOr (makerR C p)).1.goods := by
 unfold goodsAt
 rw [makerR_reps]
 cases makerR C p <;> rfl
/-- What admitted says. -/
def admE (L : List Rep) (x : Rep) : Int := if x.kind = 8 then releases (counting L x.known) x.of else admits (counting L x.known) x
theorem rthere_t (A : Option Addr) (cap : Nat) (C : List Ent) (p : Int) (w : World) (hA : EntsAt w A C) (hl : C.length ≤ 1000) (hw : ∀ e ∈ C, e.1.Wf) {t : Bool} (ht : thereB (reps C) p = t) :
  Calls Tryz.prog 158 #[.slice A C.length cap, .int .i64 p] w fun e w' => e = .returned (.bool t) ∧ Below w.heap.size w w' := by
 subst ht
 exact rthere_any A cap C p w hA hl hw
theorem rfound_t (A : Option Addr) (cap : Nat) (C : List Ent) (p : Int) (w : World) (hA : EntsAt w A C) (hl : C.length ≤ 1000) (hw : ∀ e ∈ C, e.1.Wf) {t : Bool} (ht : foundB (reps C) p = t) :
  Calls Tryz.prog 159 #[.slice A C.length cap, .int .i64 p] w fun e w' => e = .returned (.bool t) ∧ Below w.heap.size w w' := by
 subst ht
 exact rfound_any A cap C p w hA hl hw
set_option maxHeartbeats 16000000 in
theorem radmitted_any (A : Option Addr) (cap : Nat) (L : List Ent) (x : Rep) (P : Option Addr) (c : Nat) (w : World) (hA : EntsAt w A L) (hl : L.length ≤ 900) (hv : Valid (reps L)) (hx : x.Wf) (hP : PartsAt w (x, P, c)) :
  Calls Tryz.prog 119 #[.slice A L.length cap, x.val P c] w fun e w' => e = .returned (.int .i64 (admE (reps L) x)) ∧ Below w.heap.size w w' := by
 obtain ⟨W, hW, hbx, hbW, hlt⟩ := boxC x P c w
 have HBW := hid hbW
 have HX := hid hbx
 have HPW := hid (hP.kept (Kept.of_below hbW))
 obtain ⟨C, hC⟩ : ∃ C, countE L x.known = C := ⟨_, rfl⟩
 have hrc : reps C = counting (reps L) x.known := by rw [← hC]; exact countE_reps L x.known
 have hsub : ∀ e ∈ C, e ∈ L := by rw [← hC]; exact countE_sub L x.known
 have hcl : C.length ≤ 900 := by rw [← hC]; exact Nat.le_trans (countE_len L x.known) hl
 have hsound : Sound (reps C) := by rw [hrc]; exact hv.sound x.known
 have hct := rcounting_any A cap L x.known W (hA.below hbW) hl
 rw [hC] at hct
 have HCT := hid hct
 have HAP := hid (fun e he => (hA.parts e (hsub e he)).kept (Kept.of_below hbW))
 have HSO := hid hsound
 have HWC : Hid (∀ e ∈ C, e.1.Wf) := hid (fun e he => hsound.wfs _ (List.mem_map_of_mem (f := Prod.fst) he))
 have hR : admE (reps L) x = if x.kind = 8 then releases (reps C) x.of else if (takesL x).any (bad1R (reps C) x) = true then 30 else if (takesL x).any (bad2R (reps C) x) = true then 31 else if (takesL x).any (bad3R (reps C) x) = true then 7 else if x.kind = 7 ∧ goodsAt (reps C) x.parcel ≠ goodsAt (reps C) x.other then 8 else 0 := by
  unfold admE
  rw [← hrc, admitsT hx]
 obtain ⟨R, hRR⟩ : ∃ R, admE (reps L) x = R := ⟨_, rfl⟩
 rw [hRR] at hR ⊢
 have HR := hid hR
 obtain ⟨_, c1, _, c3, _⟩ := hbx.at_
 clear hRR hR hA hv hP hbx hbW hrc hsub hsound hct hC
 go_enter Tryz.func119, Tryz.ntmps119
 go_wp2_with fail
 refine HCT.out.mono ?_
 rintro e w1 ⟨v, rfl, ho, hb⟩
 obtain ⟨A1, k1, rfl, hx1⟩ := ownsRow.form ho
 have hrows : RowsAt w1 A1 C := rows_of_cells hx1.1
 have HE1 : Hid (EntsAt w1 A1 C) := hid ⟨hrows, fun e he => (HAP.out e he).kept (Kept.of_below hb)⟩
 have HX1 := hid (HX.out.below hb)
 have HP1 := hid (HPW.out.kept (Kept.of_below hb))
 have HB1 := hid (HBW.out.trans (hb.mono HBW.out.size))
 clear ho hx1 hrows hb c1 c3 hW HCT HX HPW
 obtain ⟨_, _, _, c3, _⟩ := HX1.out.at_
 by_cases h8 : x.kind = 8
 ·have d8 : (x.kind == 8) = true := beq_iff_eq.2 h8
  have HRR : Hid (releases (reps C) x.of = R) := hid (by rw [HR.out, if_pos h8])
  clear h8
  go_wp2_with (refine load_rep rfl _ rfl _ rfl HX1.out ?_)
  refine (rvoided_any A1 k1 C x P c w1 HE1.out HSO.out hcl).mono ?_
  rintro e w2 ⟨rfl, hb⟩
  rw [HRR.out]
  have HB2 := hid (HB1.out.trans (hb.mono HB1.out.size))
  clear hb
  go_wp2_with fail
  go_ret
  exact ⟨rfl, HB2.out⟩
 have d8 : (x.kind == 8) = false := beq_eq_false_iff_ne.2 h8
 have hR := HR.out
 rw [if_neg h8] at hR
 have HR := hid hR
 clear h8 hR
 go_upto_region 4 with fail
 obtain ⟨T, hT⟩ : ∃ T, takesL x = T := ⟨_, rfl⟩
 have hto := takes_any x P c w1 HP1.out.len HP1.out.ints
 have htl := takes_len x
 have hpl : x.parts.length ≤ 100 := HP1.out.len
 rw [hT] at hto htl HR
 have HTO := hid hto
 clear hto hT
 go_wp2_with (refine load_rep rfl _ rfl _ rfl HX1.out ?_)
 refine HTO.out.mono ?_
 rintro e w2 ⟨v, rfl, ho, hb⟩
 obtain ⟨A2, k2, rfl, hx1⟩ := ownsRow.form ho
 have HI2 := hid (ownsRow_ints ho)
 have HE2 := hid (HE1.out.below hb)
 have HX2 := hid (HX1.out.below hb)
 have HB2 := hid (HB1.out.trans (hb.mono HB1.out.size))
 clear hx1 ho hb c3 HTO HX1 HP1 HE1
 have htl2 : T.length ≤ 200 := by omega
 clear htl hpl
 obtain ⟨t7, ht7⟩ : ∃ t, decide (x.kind = 7) = t := ⟨_, rfl⟩
 obtain ⟨t6, ht6⟩ : ∃ t, decide (x.kind = 6) = t := ⟨_, rfl⟩
 have d7 : (x.kind == 7) = t7 := by rw [← ht7, Bool.eq_iff_iff]; simp
 have d6 : (x.kind == 6) = t6 := by rw [← ht6, Bool.eq_iff_iff]; simp
 have HT7 := hid ht7
 have HT6 := hid ht6
 clear ht7 ht6
 go_upto_region 6 with fail
 go_loopg [7] (T.length) (fun g i wr => ∃ k : Nat, k ≤ T.length ∧ g = T.length - k ∧ i = .int .i64 k ∧ Hid ((T.take k).any (bad1R (reps C) x) = false) ∧ Hid (Below w2.heap.size w2 wr))
 case atStart => exact ⟨0, by omega, by omega, rfl, hid (by simp), hid (Below.refl _ _)⟩
 case round =>
  obtain ⟨k, hk, hgk, rfl, hno, hbw⟩ := hrel
  by_cases hkl : k < T.length
  ·obtain ⟨b, off, hAe, hc⟩ := (HI2.out.kept (Kept.of_below hbw.out)) (by omega)
   subst hAe
   have hck := hc k hkl
   have i0 : (0 : Int) ≤ k := by omega
   have i1 : (k : Int) < T.length := by omega
   have hsn := any_take_snoc (bad1R (reps C) x) T k hkl
   rw [hno.out, Bool.false_or] at hsn
   have hmem := List.getElem_mem hkl
   obtain ⟨p, hp⟩ : ∃ p, T[k] = p := ⟨_, rfl⟩
   rw [hp] at hck hsn hmem
   obtain ⟨t1, ht1⟩ : ∃ t, thereB (reps C) p = t := ⟨_, rfl⟩
   obtain ⟨t2, ht2⟩ : ∃ t, foundB (reps C) p = t := ⟨_, rfl⟩
   have hbad : bad1R (reps C) x p = (!t1 || (t7 && !t2)) := by unfold bad1R; rw [ht1, ht2, HT7.out]
   rw [hbad] at hsn
   have HYES : Hid ((!t1 || (t7 && !t2)) = true → R = 30) := hid (fun h => by rw [HR.out, if_pos (List.any_eq_true.2 ⟨p, hmem, by rw [hbad]; exact h⟩)])
   have HSN := hid hsn
   have HT1 := hid ht1
   have HT2 := hid ht2
   have HEr := hid (HE2.out.below hbw.out)
   have HTH := hid (rthere_t A1 k1 C p wr HEr.out (by omega) HWC.out ht1)
   have HFO := hid (fun v (hb : Below wr.heap.size wr v) => rfound_t A1 k1 C p v (HEr.out.below hb) (by omega) HWC.out ht2)
   have HX3 := hid (HX2.out.below hbw.out)
   have HCK := hid hck
   clear hc hsn hmem hp hbad ht1 ht2
   go_wp2_with fail
   refine HTH.out.mono ?_
   rintro e w3 ⟨rfl, hb3⟩
   have HB3 := hid (hbw.out.trans (hb3.mono hbw.out.size))
   have HB3' := hid hb3
   have hck3 := Kept.of_below hb3 _ _ HCK.out
   obtain ⟨_, _, _, c3, _⟩ := (HX3.out.below hb3).at_
   clear hb3 hck
   rcases t1 with _ | _
   ·go_wp2_with fail
    go_ret
    exact ⟨ret_int (HYES.out (by simp)).symm, HB2.out.trans (HB3.out.mono HB2.out.size)⟩
   ·rcases t7 with _ | _
    ·go_wp2_with fail
     go_roundg (T.length - (k + 1))
     case measure => omega
     case rel => exact ⟨k + 1, by omega, rfl, by go_num, hid HSN.out, HB3⟩
    ·go_wp2_with fail
     refine (HFO.out w3 HB3'.out).mono ?_
     rintro e w4 ⟨rfl, hb4⟩
     have HB4 := hid (HB3.out.trans (hb4.mono HB3.out.size))
     clear hb4
     rcases t2 with _ | _
     ·go_wp2_with fail
      go_ret
      exact ⟨ret_int (HYES.out (by simp)).symm, HB2.out.trans (HB4.out.mono HB2.out.size)⟩
     ·go_wp2_with fail
      go_roundg (T.length - (k + 1))
      case measure => omega
      case rel => exact ⟨k + 1, by omega, rfl, by go_num, hid HSN.out, HB4⟩
  ·obtain rfl : k = T.length := by omega
   have h1 := hno.out
   rw [List.take_length] at h1
   have h2 := HR.out
   rw [h1, if_neg (by simp)] at h2
   have HR1 := hid h2
   obtain ⟨w3, hw3⟩ : ∃ V, V = wr := ⟨_, rfl⟩
   subst hw3
   have HE3 := hid (HE2.out.below hbw.out)
   have HX3 := hid (HX2.out.below hbw.out)
   have HI3 := hid (HI2.out.kept (Kept.of_below hbw.out))
   have HB3 := hid (HB2.out.trans (hbw.out.mono HB2.out.size))
   clear h1 h2 hno HR HE2 HX2 HI2 hgk hk hkl
   go_upto_region 11 with fail
   go_loopg [8] (T.length) (fun g i wr => ∃ k : Nat, k ≤ T.length ∧ g = T.length - k ∧ i = .int .i64 k ∧ Hid ((T.take k).any (bad2R (reps C) x) = false) ∧ Hid (Below w3.heap.size w3 wr))
   case atStart => exact ⟨0, by omega, by omega, rfl, hid (by simp), hid (Below.refl _ _)⟩
   case round =>
    obtain ⟨k, hk, hgk, rfl, hno, hbw⟩ := hrel
    by_cases hkl : k < T.length
    ·obtain ⟨b, off, hAe, hc⟩ := (HI3.out.kept (Kept.of_below hbw.out)) (by omega)
     subst hAe
     have hck := hc k hkl
     have i0 : (0 : Int) ≤ k := by omega
     have i1 : (k : Int) < T.length := by omega
     have hsn := any_take_snoc (bad2R (reps C) x) T k hkl
     rw [hno.out, Bool.false_or] at hsn
     have hmem := List.getElem_mem hkl
     obtain ⟨p, hp⟩ : ∃ p, T[k] = p := ⟨_, rfl⟩
     rw [hp] at hck hsn hmem
     obtain ⟨t1, ht1⟩ : ∃ t, hiddenB (reps C) p = t := ⟨_, rfl⟩
     have hbad : bad2R (reps C) x p = (t1 != t6) := by unfold bad2R; rw [ht1, HT6.out]
     rw [hbad] at hsn
     have HYES : Hid ((t1 != t6) = true → R = 31) := hid (fun h => by rw [HR1.out, if_pos (List.any_eq_true.2 ⟨p, hmem, by rw [hbad]; exact h⟩)])
     have HSN := hid hsn
     have hhi := rhidden_any A1 k1 C p wr.drew (HE3.out.below hbw.out.drew) (by omega)
     rw [ht1] at hhi
     have HHI := hid hhi
     have HX4 := hid (HX3.out.below hbw.out.drew)
     have HCK := hid (Kept.of_below (Below.refl _ wr).drew _ _ hck)
     clear hc hsn hmem hp hbad ht1 hhi hck
     go_upto_region 13 with fail
     refine wp_region_noPanic ?_
     refine wp_region_held_drew (S := fun w' => w'.cell? ⟨b, off + k, none⟩ = some (.int .i64 p) ∧ w'.cell? ⟨w.heap.size, 3, none⟩ = some (.int .u8 x.kind)) (by kernel_rfl) (⟨HCK.out, HX4.out.at_.2.2.2.1⟩) (fun hHeld => ?_)
     refine tk 0 (fun _ _ _ _ _ h => h) (by kernel_rfl) ‹_› ⟨_, ?_, by simp only [zz1, zz2]; rfl, .inl ⟨by rfl, ?_⟩, ?_⟩; rotate_left; · (intro w hSw; (try dsimp only at hSw); go_simp; all_goals with_reducible rfl)
     simp only [Act.put, zz4, zz5, zz6]
     refine tk 1 (fun _ _ _ _ _ h => h) (by kernel_rfl) ‹_› ⟨_, ?_, by simp only [zz1, zz2, zz3]; rfl, .inl ⟨by rfl, ?_⟩, ?_⟩; rotate_left; · (intro w hSw; (try dsimp only at hSw); go_simp; all_goals with_reducible rfl)
     simp only [Act.put, zz4, zz5, zz6]
     refine tk 2 (fun _ _ _ _ _ h => h) (by kernel_rfl) ‹_› ⟨_, ?_, by simp only [zz1, zz2, zz3]; rfl, .inl ⟨by rfl, ?_⟩, ?_⟩; rotate_left; · (intro w hSw; (try dsimp only at hSw); go_simp; all_goals with_reducible rfl)
     simp only [Act.put, zz4, zz5, zz6]
     refine tk 3 (fun _ _ _ _ _ h => h) (by kernel_rfl) ‹_› ⟨_, ?_, by simp only [zz1, zz2, zz3]; rfl, .inl ⟨by rfl, ?_⟩, ?_⟩; rotate_left; · (intro w hSw; (try dsimp only at hSw); go_simp; all_goals with_reducible rfl)
     simp only [Act.put, zz4, zz5, zz6]
     refine tk 4 (fun _ _ _ _ _ h => h) (by kernel_rfl) ‹_› ⟨_, ?_, by simp only [zz1, zz2, zz3]; rfl, .inl ⟨by rfl, ?_⟩, ?_⟩; rotate_left; · (intro w hSw; (try dsimp only at hSw); go_simp; all_goals with_reducible rfl)
     simp only [Act.put, zz4, zz5, zz6]
     refine tk 6 (fun _ _ _ _ _ h => h) (by kernel_rfl) ‹_› ⟨_, ?_, by simp only [zz1, zz2, zz3]; rfl, .inl ⟨by rfl, ?_⟩, ?_⟩; rotate_left; · (intro w hSw; (try dsimp only at hSw); go_simp; all_goals with_reducible rfl)
     simp only [Act.put, zz4, zz5, zz6]
     refine tk 7 (fun _ _ _ _ _ h => h) (by kernel_rfl) ‹_› ⟨_, ?_, by simp only [zz1, zz2, zz3]; rfl, .inl ⟨by rfl, ?_⟩, ?_⟩; rotate_left; · (intro w hSw; (try dsimp only at hSw); go_simp; all_goals with_reducible rfl)
     simp only [Act.put, zz4, zz5, zz6]
     refine tk 8 (fun _ _ _ _ _ h => h) (by kernel_rfl) ‹_› ⟨_, ?_, by simp only [zz1, zz2, zz3]; rfl, .inl ⟨by rfl, ?_⟩, ?_⟩; rotate_left; · (intro w hSw; (try dsimp only at hSw); go_simp; all_goals with_reducible rfl)
     simp only [Act.put, zz4, zz5, zz6]
     refine wpAnyH_ready (rs := [5]) (by kernel_rfl) (by simp) ?_
     refine cons_one (i := 5) ⟨_, by simp only [zz1, zz2, zz3]; rfl, fun K hK => ?_⟩ ?_
     rotate_left
     ·exact AllReadyH.nil
     refine step_call rfl #[.tmp 60, .tmp 64] 124 _ rfl enters_rhidden #[.slice A1 C.length k1, .int .i64 p] ?hs (fun u w' => u = .bool t1 ∧ w' = wr.drew) (HHI.out.mono (fun e w' h => ⟨_, h.1, rfl, h.2⟩)) ?_
     case hs => simp [Act.eval]
     rintro _ _ ⟨rfl, rfl⟩
     clear hHeld
     refine hK.out _ _ (⟨HCK.out, HX4.out.at_.2.2.2.1⟩) (fun hHeld => ?_)
     clear hK K
     try simp only [Act.put, zz4, zz5, zz6]
     refine tk 9 (fun _ _ _ _ _ h => h) (by kernel_rfl) ‹_› ⟨_, ?_, by simp only [zz1, zz2, zz3]; rfl, .inl ⟨by rfl, ?_⟩, ?_⟩; rotate_left; · (intro w hSw; (try dsimp only at hSw); go_simp; all_goals with_reducible rfl)
     simp only [Act.put, zz4, zz5, zz6]
     refine wpAnyH_done (by kernel_rfl) ?_ _
     refine NoPanic.normal ?_
     rcases t1 with _ | _ <;> rcases t6 with _ | _
     ·go_wp2_with fail
      go_roundg (T.length - (k + 1))
      case measure => omega
      case rel => exact ⟨k + 1, by omega, rfl, by go_num, hid HSN.out, hid hbw.out.drew⟩
     ·go_wp2_with fail
      go_ret
      exact ⟨ret_int (HYES.out rfl).symm, HB3.out.trans (hbw.out.drew.mono HB3.out.size)⟩
     ·go_wp2_with fail
      go_ret
      exact ⟨ret_int (HYES.out rfl).symm, HB3.out.trans (hbw.out.drew.mono HB3.out.size)⟩
     ·go_wp2_with fail
      go_roundg (T.length - (k + 1))
      case measure => omega
      case rel => exact ⟨k + 1, by omega, rfl, by go_num, hid HSN.out, hid hbw.out.drew⟩
    ·obtain rfl : k = T.length := by omega
     have h1 := hno.out
     rw [List.take_length] at h1
     have h2 := HR1.out
     rw [h1, if_neg (by simp)] at h2
     have HR2 := hid h2
     obtain ⟨w4, hw4⟩ : ∃ V, V = wr := ⟨_, rfl⟩
     subst hw4
     have HE4 := hid (HE3.out.below hbw.out)
     have HX4 := hid (HX3.out.below hbw.out)
     have HI4 := hid (HI3.out.kept (Kept.of_below hbw.out))
     have HB4 := hid (HB3.out.trans (hbw.out.mono HB3.out.size))
     clear h1 h2 hno HR1 HE3 HX3 HI3 hgk hk hkl
     go_upto_region 16 with fail
     go_loopg [9] (T.length) (fun g i wr => ∃ k : Nat, k ≤ T.length ∧ g = T.length - k ∧ i = .int .i64 k ∧ Hid ((T.take k).any (bad3R (reps C) x) = false) ∧ Hid (Below w4.heap.size w4 wr))
     case atStart => exact ⟨0, by omega, by omega, rfl, hid (by simp), hid (Below.refl _ _)⟩
     case round =>
      obtain ⟨k, hk, hgk, rfl, hno, hbw⟩ := hrel
      by_cases hkl : k < T.length
      ·obtain ⟨V, hV⟩ : ∃ V, V = wr := ⟨_, rfl⟩
       subst hV
       obtain ⟨b, off, hAe, hc⟩ := (HI4.out.kept (Kept.of_below hbw.out)) (by omega)
       subst hAe
       have hck := hc k hkl
       have i0 : (0 : Int) ≤ k := by omega
       have i1 : (k : Int) < T.length := by omega
       have hsn := any_take_snoc (bad3R (reps C) x) T k hkl
       rw [hno.out, Bool.false_or] at hsn
       have hmem := List.getElem_mem hkl
       obtain ⟨p, hp⟩ : ∃ p, T[k] = p := ⟨_, rfl⟩
       rw [hp] at hck hsn hmem
       have HYES : Hid ((reps C).any (lateR x p) = true → R = 7) := hid (fun h => by rw [HR2.out, if_pos (List.any_eq_true.2 ⟨p, hmem, h⟩)])
       have HSN : Hid ((T.take (k + 1)).any (bad3R (reps C) x) = (reps C).any (lateR x p)) := hid hsn
       have HEV := hid (HE4.out.below hbw.out)
       have HXV := hid (HX4.out.below hbw.out)
       have HCK := hid hck
       have i9 : k ≤ T.length := by omega
       clear hc hsn hmem hp hck
       go_upto_region 19 with fail
       go_loopg [10] (C.length) (fun g i wq => ∃ m : Nat, m ≤ C.length ∧ g = C.length - m ∧ i = .int .i64 m ∧ Hid (((reps C).take m).any (lateR x p) = false) ∧ Hid (Below V.heap.size V wq))
       case atStart => exact ⟨0, by omega, by omega, rfl, hid (by simp), hid (Below.refl _ _)⟩
       case round =>
        obtain ⟨m, hm, hgm, rfl, hnm, hbq⟩ := hrel
        by_cases hml : m < C.length
        ·have hEw := HEV.out.below hbq.out
         obtain ⟨b2, off2, hAe, hc⟩ := hEw.rows (by omega)
         subst hAe
         have hrange := hc m hml
         have hmr : m < (reps C).length := by simpa using hml
         have hsn := any_take_snoc (lateR x p) (reps C) m hmr
         rw [hnm.out, Bool.false_or] at hsn
         have hmem := List.getElem_mem hmr
         have hry : (reps C)[m] = C[m].1 := by simp
         rw [hry] at hsn hmem
         have hwz := HWC.out _ (List.getElem_mem hml)
         have hpz := hEw.parts _ (List.getElem_mem hml)
         obtain ⟨⟨z, P2, c2⟩, hz⟩ : ∃ y, C[m] = y := ⟨_, rfl⟩
         rw [hz] at hrange hsn hmem hwz hpz
         dsimp only at hrange hsn hmem hwz
         obtain ⟨t, ht⟩ : ∃ t, decide (z.names p) = t := ⟨_, rfl⟩
         obtain ⟨u, hu⟩ : ∃ u, decide (x.hour < z.hour) = u := ⟨_, rfl⟩
         have hlate : lateR x p z = (t && u) := by unfold lateR; rw [ht, hu]
         have HYS : Hid ((t && u) = true → R = 7) := hid (fun h => HYES.out (List.any_eq_true.2 ⟨z, hmem, by rw [hlate]; exact h⟩))
         rw [hlate] at hsn
         have HSM := hid hsn
         have hnz := rnames_any z P2 c2 p wr.drew hwz hpz.len (hpz.ints.kept (Kept.of_below (Below.refl _ wr).drew))
         rw [ht] at hnz
         have HNZ := hid hnz
         have HRZ := hid hrange
         have HXQ := hid (HXV.out.below hbq.out)
         have HCQ := hid (Kept.of_below hbq.out _ _ HCK.out)
         have hzh : wr.cell? ⟨b2, off2 + m * 15 + 2, none⟩ = some (.int .i64 z.hour) := (range_at hrange).2.2.1
         have HZH := hid hzh
         have i2 : (0 : Int) ≤ m := by omega
         have i3 : (m : Int) < C.length := by omega
         clear hEw hc hrange hmr hsn hmem hry hwz hpz hz ht hlate hnz hzh
         have du : decide (x.hour < z.hour) = u := hu
         clear hu
         go_upto_region 21 with fail
         refine wp_region_noPanic ?_
         refine wp_region_held_drew (S := fun w' => w'.rangeAt b2 (off2 + m * 15) (z.cells P2 c2).toList ∧ w'.cell? ⟨b, off + k, none⟩ = some (.int .i64 p) ∧ w'.cell? ⟨b2, off2 + m * 15 + 2, none⟩ = some (.int .i64 z.hour) ∧ w'.cell? ⟨w.heap.size, 2, none⟩ = some (.int .i64 x.hour)) (by kernel_rfl) (⟨rangeAt_kept HRZ.out (Kept.of_below ((Below.refl _ wr).drew)), Kept.of_below ((Below.refl _ wr).drew) _ _ HCQ.out, Kept.of_below ((Below.refl _ wr).drew) _ _ HZH.out, (HXQ.out.below ((Below.refl _ wr).drew)).at_.2.2.1⟩) (fun hHeld => ?_)
         refine tk 0 (fun _ _ _ _ _ h => h) (by kernel_rfl) ‹_› ⟨_, ?_, by simp only [zz1, zz2]; rfl, .inl ⟨by rfl, ?_⟩, ?_⟩; rotate_left; · (intro w hSw; (try dsimp only at hSw); go_simp; all_goals with_reducible rfl)
         simp only [Act.put, zz4, zz5, zz6]
         refine tk 1 (fun _ _ _ _ _ h => h) (by kernel_rfl) ‹_› ⟨_, ?_, by simp only [zz1, zz2, zz3]; rfl, .inl ⟨by rfl, ?_⟩, ?_⟩; rotate_left; · (intro w hSw; (try dsimp only at hSw); go_simp; all_goals with_reducible rfl)
         simp only [Act.put, zz4, zz5, zz6]
         refine tk 2 (fun _ _ _ _ _ h => h) (by kernel_rfl) ‹_› ⟨_, ?_, by simp only [zz1, zz2, zz3]; rfl, .inl ⟨by rfl, ?_⟩, ?_⟩; rotate_left; · (intro w hSw; (try dsimp only at hSw); go_simp; all_goals with_reducible rfl)
         simp only [Act.put, zz4, zz5, zz6]
         refine tk 3 (fun _ _ _ _ _ h => h) (by kernel_rfl) ‹_› ⟨_, _, by simp only [zz1, zz2, zz3]; rfl, yields_rep rfl (.tmp 84) rfl b2 (off2 + m * 15) rfl (fun _ h => h.1), ?_⟩
         simp only [Act.put, zz4, zz5, zz6]
         refine tk 4 (fun _ _ _ _ _ h => h) (by kernel_rfl) ‹_› ⟨_, ?_, by simp only [zz1, zz2, zz3]; rfl, .inl ⟨by rfl, ?_⟩, ?_⟩; rotate_left; · (intro w hSw; (try dsimp only at hSw); go_simp; all_goals with_reducible rfl)
         simp only [Act.put, zz4, zz5, zz6]
         refine tk 5 (fun _ _ _ _ _ h => h) (by kernel_rfl) ‹_› ⟨_, ?_, by simp only [zz1, zz2, zz3]; rfl, .inl ⟨by rfl, ?_⟩, ?_⟩; rotate_left; · (intro w hSw; (try dsimp only at hSw); go_simp; all_goals with_reducible rfl)
         simp only [Act.put, zz4, zz5, zz6]
         refine tk 6 (fun _ _ _ _ _ h => h) (by kernel_rfl) ‹_› ⟨_, ?_, by simp only [zz1, zz2, zz3]; rfl, .inl ⟨by rfl, ?_⟩, ?_⟩; rotate_left; · (intro w hSw; (try dsimp only at hSw); go_simp; all_goals with_reducible rfl)
         simp only [Act.put, zz4, zz5, zz6]
         refine tk 7 (fun _ _ _ _ _ h => h) (by kernel_rfl) ‹_› ⟨_, ?_, by simp only [zz1, zz2, zz3]; rfl, .inl ⟨by rfl, ?_⟩, ?_⟩; rotate_left; · (intro w hSw; (try dsimp only at hSw); go_simp; all_goals with_reducible rfl)
         simp only [Act.put, zz4, zz5, zz6]
         refine wpAnyH_ready (rs := [8]) (by kernel_rfl) (by simp) ?_
         refine cons_one (i := 8) ⟨_, by simp only [zz1, zz2, zz3]; rfl, fun K hK => ?_⟩ ?_
         rotate_left
         ·exact AllReadyH.nil
         refine step_call rfl #[.tmp 85, .tmp 89] 160 _ rfl enters_rnames #[z.val P2 c2, .int .i64 p] ?hs (fun u w' => u = .bool t ∧ Below wr.drew.heap.size wr.drew w') (HNZ.out.mono (fun e w' h => ⟨_, h.1, rfl, h.2⟩)) ?_
         case hs => simp [Act.eval, Rep.val, Rep.cells]
         rintro _ w6 ⟨rfl, hb6⟩
         have HB6 := hid (hbq.out.drew.trans (hb6.mono hbq.out.size))
         have HB6' : Hid (Below wr.heap.size wr w6) := hid ((Below.refl _ wr).drew.trans hb6)
         clear hb6
         clear hHeld
         refine hK.out _ _ (⟨rangeAt_kept HRZ.out (Kept.of_below HB6'.out), Kept.of_below HB6'.out _ _ HCQ.out, Kept.of_below HB6'.out _ _ HZH.out, (HXQ.out.below (HB6'.out)).at_.2.2.1⟩) (fun hHeld => ?_)
         clear hK K
         try simp only [Act.put, zz4, zz5, zz6]
         refine tk 9 (fun _ _ _ _ _ h => h) (by kernel_rfl) ‹_› ⟨_, ?_, by simp only [zz1, zz2, zz3]; rfl, .inl ⟨by rfl, ?_⟩, ?_⟩; rotate_left; · (intro w hSw; (try dsimp only at hSw); go_simp; all_goals with_reducible rfl)
         simp only [Act.put, zz4, zz5, zz6]
         rcases t with _ | _
         ·refine take_one (i := 10) (fun _ _ _ _ _ h => h) (by kernel_rfl) (by kernel_rfl) (by kernel_rfl) (by assumption) ?_
          refine ⟨_, _, by simp only [zz1, zz2, zz3]; rfl, Or.inr ⟨by rfl, rfl⟩, ?_⟩
          simp only [Act.put, zz4, zz5, zz6]
          refine tk 11 (fun _ _ _ _ _ h => h) (by kernel_rfl) ‹_› ⟨_, _, by simp only [zz1, zz2, zz3]; rfl, Or.inr ⟨by rfl, rfl⟩, ?_⟩
          simp only [Act.put, zz4, zz5, zz6]
          refine tk 12 (fun _ _ _ _ _ h => h) (by kernel_rfl) ‹_› ⟨_, _, by simp only [zz1, zz2, zz3]; rfl, Or.inr ⟨by rfl, rfl⟩, ?_⟩
          simp only [Act.put, zz4, zz5, zz6]
          refine tk 13 (fun _ _ _ _ _ h => h) (by kernel_rfl) ‹_› ⟨_, _, by simp only [zz1, zz2, zz3]; rfl, Or.inr ⟨by rfl, rfl⟩, ?_⟩
          simp only [Act.put, zz4, zz5, zz6]
          refine tk 14 (fun _ _ _ _ _ h => h) (by kernel_rfl) ‹_› ⟨_, _, by simp only [zz1, zz2, zz3]; rfl, Or.inr ⟨by rfl, rfl⟩, ?_⟩
          simp only [Act.put, zz4, zz5, zz6]
          refine tk 15 (fun _ _ _ _ _ h => h) (by kernel_rfl) ‹_› ⟨_, _, by simp only [zz1, zz2, zz3]; rfl, Or.inr ⟨by rfl, rfl⟩, ?_⟩
          simp only [Act.put, zz4, zz5, zz6]
          refine tk 16 (fun _ _ _ _ _ h => h) (by kernel_rfl) ‹_› ⟨_, _, by simp only [zz1, zz2, zz3]; rfl, Or.inr ⟨by rfl, rfl⟩, ?_⟩
          simp only [Act.put, zz4, zz5, zz6]
          refine tk 17 (fun _ _ _ _ _ h => h) (by kernel_rfl) ‹_› ⟨_, _, by simp only [zz1, zz2, zz3]; rfl, Or.inr ⟨by rfl, rfl⟩, ?_⟩
          simp only [Act.put, zz4, zz5, zz6]
          refine tk 18 (fun _ _ _ _ _ h => h) (by kernel_rfl) ‹_› ⟨_, ?_, by simp only [zz1, zz2, zz3]; rfl, .inl ⟨by rfl, ?_⟩, ?_⟩; rotate_left; · (intro w hSw; (try dsimp only at hSw); go_simp; all_goals with_reducible rfl)
          simp only [Act.put, zz4, zz5, zz6]
          refine wpAnyH_done (by kernel_rfl) ?_ _
          refine NoPanic.normal ?_
          go_wp2_with fail
          go_roundg (C.length - (m + 1))
          case measure => omega
          case rel => exact ⟨m + 1, by omega, rfl, by go_num, hid HSM.out, HB6⟩
         ·refine take_one (i := 10) (fun _ _ _ _ _ h => h) (by kernel_rfl) (by kernel_rfl) (by kernel_rfl) (by assumption) ?_
          refine ⟨_, ?_, by simp only [zz1, zz2, zz3]; rfl, Or.inl ⟨by rfl, ?_⟩, ?_⟩
          rotate_left
          ·intro w hSw; (try dsimp only at hSw); go_simp
           all_goals with_reducible rfl
          simp only [Act.put, zz4, zz5, zz6]
          refine tk 11 (fun _ _ _ _ _ h => h) (by kernel_rfl) ‹_› ⟨_, ?_, by simp only [zz1, zz2, zz3]; rfl, .inl ⟨by rfl, ?_⟩, ?_⟩; rotate_left; · (intro w hSw; (try dsimp only at hSw); go_simp; all_goals with_reducible rfl)
          simp only [Act.put, zz4, zz5, zz6]
          refine tk 12 (fun _ _ _ _ _ h => h) (by kernel_rfl) ‹_› ⟨_, ?_, by simp only [zz1, zz2, zz3]; rfl, .inl ⟨by rfl, ?_⟩, ?_⟩; rotate_left; · (intro w hSw; (try dsimp only at hSw); go_simp; all_goals with_reducible rfl)
          simp only [Act.put, zz4, zz5, zz6]
          refine tk 13 (fun _ _ _ _ _ h => h) (by kernel_rfl) ‹_› ⟨_, ?_, by simp only [zz1, zz2, zz3]; rfl, .inl ⟨by rfl, ?_⟩, ?_⟩; rotate_left; · (intro w hSw; (try dsimp only at hSw); go_simp; all_goals with_reducible rfl)
          simp only [Act.put, zz4, zz5, zz6]
          refine tk 14 (fun _ _ _ _ _ h => h) (by kernel_rfl) ‹_› ⟨_, ?_, by simp only [zz1, zz2, zz3]; rfl, .inl ⟨by rfl, ?_⟩, ?_⟩; rotate_left; · (intro w hSw; (try dsimp only at hSw); go_simp; all_goals with_reducible rfl)
          simp only [Act.put, zz4, zz5, zz6]
          refine tk 15 (fun _ _ _ _ _ h => h) (by kernel_rfl) ‹_› ⟨_, ?_, by simp only [zz1, zz2, zz3]; rfl, .inl ⟨by rfl, ?_⟩, ?_⟩; rotate_left; · (intro w hSw; (try dsimp only at hSw); go_simp; all_goals with_reducible rfl)
          simp only [Act.put, zz4, zz5, zz6]
          refine tk 16 (fun _ _ _ _ _ h => h) (by kernel_rfl) ‹_› ⟨_, ?_, by simp only [zz1, zz2, zz3]; rfl, .inl ⟨by rfl, ?_⟩, ?_⟩; rotate_left; · (intro w hSw; (try dsimp only at hSw); go_simp; all_goals with_reducible rfl)
          simp only [Act.put, zz4, zz5, zz6]
          refine tk 17 (fun _ _ _ _ _ h => h) (by kernel_rfl) ‹_› ⟨_, ?_, by simp only [zz1, zz2, zz3]; rfl, .inl ⟨by rfl, ?_⟩, ?_⟩; rotate_left; · (intro w hSw; (try dsimp only at hSw); go_simp; all_goals with_reducible rfl)
          simp only [Act.put, zz4, zz5, zz6]
          refine tk 18 (fun _ _ _ _ _ h => h) (by kernel_rfl) ‹_› ⟨_, ?_, by simp only [zz1, zz2, zz3]; rfl, .inl ⟨by rfl, ?_⟩, ?_⟩; rotate_left; · (intro w hSw; (try dsimp only at hSw); go_simp; all_goals with_reducible rfl)
          simp only [Act.put, zz4, zz5, zz6]
          refine wpAnyH_done (by kernel_rfl) ?_ _
          refine NoPanic.normal ?_
          rcases u with _ | _
          ·go_wp2_with fail
           go_roundg (C.length - (m + 1))
           case measure => omega
           case rel => exact ⟨m + 1, by omega, rfl, by go_num, hid HSM.out, HB6⟩
          ·go_wp2_with fail
           go_ret
           exact ⟨ret_int (HYS.out rfl).symm, HB4.out.trans ((hbw.out.trans (HB6.out.mono hbw.out.size)).mono HB4.out.size)⟩
        ·obtain rfl : m = C.length := by omega
         have hn2 := hnm.out
         rw [List.take_of_length_le (by simp)] at hn2
         have HN2 := hid hn2
         clear hn2
         go_wp2_with fail
         go_roundg (T.length - (k + 1))
         case measure => omega
         case rel => exact ⟨k + 1, by omega, rfl, by go_num, hid (by rw [HSN.out, HN2.out]), hid (hbw.out.trans (hbq.out.mono hbw.out.size))⟩
      ·obtain rfl : k = T.length := by omega
       have h1 := hno.out
       rw [List.take_length] at h1
       have h2 := HR2.out
       rw [h1, if_neg (by simp)] at h2
       rw [goodsR, goodsR] at h2
       have HR3 := hid h2
       obtain ⟨w5, hw5⟩ : ∃ V, V = wr := ⟨_, rfl⟩
       subst hw5
       have HE5 := hid (HE4.out.below hbw.out)
       have HX5 := hid (HX4.out.below hbw.out)
       have HB5 := hid (HB4.out.trans (hbw.out.mono HB4.out.size))
       clear h1 h2 hno HR2 HE4 HX4 HI4 hgk hk hkl hbw HB4
       obtain ⟨_, _, _, c3, c4, _, _, _, _, _, _, _, _, c13, _⟩ := HX5.out.at_
       rcases t7 with _ | _
       ·go_wp2_with fail
        go_ret
        exact ⟨ret_int (by rw [HR3.out, if_neg (fun h => of_decide_eq_false HT7.out h.1)]), HB5.out⟩
       have HR4 : Hid (R = if (entOr (makerR C x.parcel)).1.goods ≠ (entOr (makerR C x.other)).1.goods then 8 else 0) := hid (by
        rw [HR3.out]
        simp only [of_decide_eq_true HT7.out, true_and])
       have HM1 := hid (rmaker_any A1 k1 C x.parcel w5 HE5.out (by omega) HWC.out)
       have HM2 := hid (fun v (hb : Below w5.heap.size w5 v) => rmaker_any A1 k1 C x.other v (HE5.out.below hb) (by omega) HWC.out)
       obtain ⟨⟨y1, P1, k3⟩, hy1⟩ : ∃ y, entOr (makerR C x.parcel) = y := ⟨_, rfl⟩
       obtain ⟨⟨y2, P2, k4⟩, hy2⟩ : ∃ y, entOr (makerR C x.other) = y := ⟨_, rfl⟩
       have hy1' : entOr (C.find? fun e => decide (x.parcel ∈ e.1.makes)) = (y1, P1, k3) := hy1
       have hy2' : entOr (C.find? fun e => decide (x.other ∈ e.1.makes)) = (y2, P2, k4) := hy2
       rw [hy1'] at HM1
       simp only [hy2'] at HM2
       rw [hy1, hy2] at HR4
       clear hy1 hy2 hy1' hy2' HR3
       go_wp2_with fail
       refine HM1.out.mono ?_
       rintro e w6 ⟨hb6, rfl⟩
       have HB6 := hid hb6
       have HX6 := hid (HX5.out.below hb6)
       clear hb6 c3 c4 c13
       go_upto_region 25 with (refine store_rep_new rfl _ _ rfl rfl rfl rfl rfl ?_; intro W7 hbx7 hb7 hlt7; have HB7 := hid (HB6.out.trans (hb7.mono HB6.out.size)); have HX7 := hid (HX6.out.below hb7); have HY7 := hid hbx7; clear hbx7 hb7)
       obtain ⟨_, _, _, _, _, _, _, _, _, _, _, _, _, c13, _⟩ := HX7.out.at_
       go_wp2_with fail
       refine (HM2.out _ HB7.out).mono ?_
       rintro e w8 ⟨hb8, rfl⟩
       have HB8 := hid (HB7.out.trans (hb8.mono HB7.out.size))
       have HY8 := hid (HY7.out.below hb8)
       clear hb8 c13
       go_upto_region 26 with (refine store_rep_new rfl _ _ rfl rfl rfl rfl rfl ?_; intro W9 hbx9 hb9 hlt9; have HB9 := hid (HB5.out.trans ((HB8.out.trans (hb9.mono HB8.out.size)).mono HB5.out.size)); have HY9 := hid (HY8.out.below hb9); have HZ9 := hid hbx9; clear hbx9 hb9)
       obtain ⟨_, _, _, _, _, _, _, _, _, g1, _⟩ := HY9.out.at_
       obtain ⟨_, _, _, _, _, _, _, _, _, g2, _⟩ := HZ9.out.at_
       by_cases hg : y1.goods = y2.goods
       ·have HG : Hid (R = 0) := hid (by rw [HR4.out, if_neg (by simp [hg])])
        rw [hg] at g1
        clear hg
        go_wp2_with fail
        go_ret
        exact ⟨ret_int HG.out.symm, HB9.out⟩
       ·have HG : Hid (R = 8) := hid (by rw [HR4.out, if_pos (by simp [hg])])
        have hgl : ¬ y1.goods.toList = y2.goods.toList := fun h => hg (ba_inj h)
        have hgb : (y1.goods.toList == y2.goods.toList) = false := beq_eq_false_iff_ne.2 hgl
        clear hg
        go_wp2_with fail
        go_ret
        exact ⟨ret_int HG.out.symm, HB9.out⟩
end Go.Proofs.YtfaoillnakhejaaGreat
