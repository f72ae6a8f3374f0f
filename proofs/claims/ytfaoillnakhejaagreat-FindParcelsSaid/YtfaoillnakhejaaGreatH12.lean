/- The reference: Check, Counting; The reference: Sorted. -/
import Derived.Test.YtfaoillnakhejaaGreatH8
import Derived.Test.YtfaoillnakhejaaGreatH11
import Derived.Test.YtfaoillnakhejaaGreatH4
import Derived.Test.YtfaoillnakhejaaGreatH10
import Derived.Deep.CutRange
import Derived.BigQuiet
namespace Go.Proofs.YtfaoillnakhejaaGreat
set_option maxRecDepth 100000
open Go.RowKit
theorem enters_radmitted : Enters 119 := fun args w => by kernel_rfl
theorem follows_adm {l : List Rep} {x : Rep} {k : Nat} (hk : l.length = k) : follows l x = if 200 ≤ k then 2 else if x.wfB = false then 1 else if l.any (fun y => decide (y.id = x.id)) then 6 else if lateB l x then 7 else admE l x := by
 subst hk
 rfl
def sameId (x : Rep) (y : Rep) : Bool := decide (y.id = x.id)
set_option maxHeartbeats 16000000 in
theorem rcheck_any (A : Option Addr) (cap : Nat) (L : List Ent) (w : World) (hA : EntsAt w A L) (hl : L.length ≤ 210) (hcap : L.length ≤ cap) (hz : ∀ e ∈ L, e.1.mark.size ≤ 1000000 ∧ e.1.goods.size ≤ 1000000) :
  Calls Tryz.prog 81 #[.slice A L.length cap] w fun e w' => (∃ i en, e = .returned (.tuple #[.int .i64 i, .int .i64 en]) ∧ CheckIs (reps L) i en) ∧ Below w.heap.size w w' := by
 have HE := hid hA
 have HCAP := hid hcap
 have HSZ := hid hz
 clear hA hcap hz
 go_enter Tryz.func81, Tryz.ntmps81
 go_upto_region 2 with fail
 go_loopg [4] (L.length) (fun g i wr => ∃ k : Nat, k ≤ L.length ∧ k ≤ 200 ∧ g = L.length - k ∧ i = .int .i64 k ∧ Hid (Valid ((reps L).take k)) ∧ Hid (Below w.heap.size w wr))
 case atStart => exact ⟨0, by omega, by omega, by omega, rfl, hid (by rw [List.take_zero]; exact Valid.nil), hid (Below.refl _ _)⟩
 case round =>
  obtain ⟨k, hk, hk2, hgk, rfl, hv, hbw⟩ := hrel
  by_cases hlt : k < L.length
  ·have hE := HE.out.below hbw.out
   obtain ⟨b, off, hAe, hc⟩ := hE.rows (by omega)
   subst hAe
   have hrange := hc k hlt
   have i0 : (0 : Int) ≤ k := by omega
   have i1 : (k : Int) < L.length := by omega
   have i2 : (k : Int) ≤ L.length := by omega
   have i3 : (k : Int) ≤ cap := by have := HCAP.out; omega
   have hkr : k < (reps L).length := by simpa using hlt
   have hpt := hE.parts L[k] (List.getElem_mem hlt)
   have hsz := HSZ.out L[k] (List.getElem_mem hlt)
   have hrx : (reps L)[k] = L[k].1 := by simp
   have hsn := hv.out.take_snoc hkr
   have hbad : ∀ e, follows ((reps L).take k) (reps L)[k] = e → e ≠ 0 → CheckIs (reps L) k e := fun e h1 h2 => .inr ⟨k, hkr, hv.out, h1, h2, rfl⟩
   rw [hrx] at hsn hbad
   have htk : (L.take k).length = k := by simp; omega
   have hrt : reps (L.take k) = (reps L).take k := by simp [List.map_take]
   have hft := follows_adm (l := (reps L).take k) (x := L[k].1) (k := k) (by simp; omega)
   obtain ⟨⟨x, P, c⟩, hx⟩ : ∃ y, L[k] = y := ⟨_, rfl⟩
   rw [hx] at hrange hsn hbad hpt hft hsz
   dsimp only at hrange hsn hbad hft hsz
   obtain ⟨E, hE2⟩ : ∃ E, follows ((reps L).take k) x = E := ⟨_, rfl⟩
   rw [hE2] at hsn hbad hft
   have HSN := hid hsn
   have HBAD : Hid (E ≠ 0 → CheckIs (reps L) k E) := hid (hbad E rfl)
   have HR := hid hrange
   have HFT := hid hft
   have HPT := hid hpt
   have HTK := hid htk
   have HRT := hid hrt
   have HAK := hid (hE.take k)
   have HC := hid hc
   clear hE hrange hkr hpt hrx hsn hbad htk hrt hx hE2 hft hc
   by_cases h200 : k = 200
   ·have d2 : ((k : Int) == 200) = true := by rw [beq_iff_eq]; omega
    have HEE : Hid (E = 2) := hid (by rw [HFT.out, if_pos (by omega)])
    clear h200
    go_wp2_with fail
    go_ret2
    exact ⟨⟨_, _, rfl, by have := HBAD.out; rw [HEE.out] at this; exact this (by decide)⟩, hbw.out⟩
   have d2 : ((k : Int) == 200) = false := by rw [beq_eq_false_iff_ne]; omega
   have hft := HFT.out
   rw [if_neg (by omega)] at hft
   have HFT2 := hid hft
   have HCR := hid (rcheckReport_any x P c wr HPT.out.ints HPT.out.len hsz.1 hsz.2)
   clear hft HFT hsz
   go_wp2_with (refine load_rep_mid rfl _ rfl _ _ rfl HR.out ?_)
   refine HCR.out.mono ?_
   rintro e w1 ⟨rfl, hb1⟩
   have HB1 := hid (hbw.out.trans (hb1.mono hbw.out.size))
   have HR1 := hid (rangeAt_kept HR.out (Kept.of_below hb1))
   have HC1 : Hid (∀ i (h : i < L.length), w1.rangeAt b (off + i * 15) (L[i].1.cells L[i].2.1 L[i].2.2).toList) := hid (fun i h => rangeAt_kept (HC.out i h) (Kept.of_below hb1))
   have HAK1 := hid (HAK.out.below hb1)
   have HPT1 := hid (HPT.out.kept (Kept.of_below hb1))
   clear hb1 HR HC HAK HPT HCR
   rcases hwf : x.wfB with _ | _
   ·have hwe : wfE x = 1 := by unfold wfE; rw [hwf]; rfl
    have HEE : Hid (E = 1) := hid (by rw [HFT2.out, if_pos hwf])
    rw [hwe]
    clear hwe hwf
    go_wp2_with fail
    go_ret2
    exact ⟨⟨_, _, rfl, by have := HBAD.out; rw [HEE.out] at this; exact this (by decide)⟩, HB1.out⟩
   have hwe : wfE x = 0 := by unfold wfE; rw [hwf]; rfl
   rw [hwe]
   have hft := HFT2.out
   rw [if_neg (by rw [hwf]; decide)] at hft
   have HFT3 := hid hft
   have HWF := hid (Rep.wf hwf)
   clear hft HFT2 hwf hwe
   go_upto_region 10 with fail
   go_loopg [6] (k) (fun g i wq => ∃ m : Nat, m ≤ k ∧ g = k - m ∧ i = .int .i64 m ∧ Hid (((reps L).take m).any (sameId x) = false) ∧ Hid (Below w1.heap.size w1 wq))
   case atStart => exact ⟨0, by omega, by omega, rfl, hid (by simp), hid (Below.refl _ _)⟩
   case round =>
    obtain ⟨m, hm, hgm, rfl, hnm, hbq⟩ := hrel
    by_cases hml : m < k
    ·have hmL : m < L.length := by omega
     obtain ⟨c0, _⟩ := range_at (rangeAt_kept (HC1.out m hmL) (Kept.of_below hbq.out))
     obtain ⟨e0, _⟩ := range_at (rangeAt_kept HR1.out (Kept.of_below hbq.out))
     have hmr : m < (reps L).length := by simpa using hmL
     have hsn := any_take_snoc (sameId x) (reps L) m hmr
     rw [hnm.out, Bool.false_or] at hsn
     have hry : (reps L)[m] = L[m].1 := by simp
     rw [hry] at hsn
     have htm : L[m].1 ∈ (reps L).take k := by rw [← hry]; exact take_mem hmr hml
     have HTM := hid htm
     have HSM := hid hsn
     have j0 : (0 : Int) ≤ m := by omega
     have j1 : (m : Int) < L.length := by omega
     have j2 : (m : Int) < k := by omega
     clear hmr hsn hry htm
     obtain ⟨y, hy⟩ : ∃ y, L[m].1 = y := ⟨_, rfl⟩
     rw [hy] at c0 HSM HTM
     clear hy
     by_cases he : y.id = x.id
     ·have de : (y.id == x.id) = true := beq_iff_eq.2 he
      have HEE : Hid (E = 6) := hid (by rw [HFT3.out, if_pos (List.any_eq_true.2 ⟨y, HTM.out, decide_eq_true he⟩)])
      clear he
      go_upto_region 12 with fail
      go_quiet (fail)
      go_wp2_with fail
      go_ret2
      exact ⟨⟨_, _, rfl, by have := HBAD.out; rw [HEE.out] at this; exact this (by decide)⟩, HB1.out.trans ((Below.drewN' hbq.out _).mono HB1.out.size)⟩
     ·have de : (y.id == x.id) = false := beq_eq_false_iff_ne.2 he
      have HEE : Hid (sameId x y = false) := hid (decide_eq_false he)
      clear he
      go_upto_region 12 with fail
      go_quiet (fail)
      go_wp2_with fail
      go_roundg (k - (m + 1))
      case measure => omega
      case rel => exact ⟨m + 1, by omega, rfl, by go_num, hid (by rw [HSM.out, HEE.out]), hid (Below.drewN' hbq.out _)⟩
    ·obtain rfl : m = k := by omega
     have hft := HFT3.out
     rw [if_neg (by have := hnm.out; unfold sameId at this; rw [this]; decide)] at hft
     have HFT4 := hid hft
     obtain ⟨w2, hw2⟩ : ∃ V, V = wr := ⟨_, rfl⟩
     subst hw2
     have HB2 := hid (HB1.out.trans (hbq.out.mono HB1.out.size))
     have HR2 := hid (rangeAt_kept HR1.out (Kept.of_below hbq.out))
     have HAK2 := hid (HAK1.out.below hbq.out)
     have HPT2 := hid (HPT1.out.kept (Kept.of_below hbq.out))
     have HC2 : Hid (∀ i (h : i < L.length), w2.rangeAt b (off + i * 15) (L[i].1.cells L[i].2.1 L[i].2.2).toList) := hid (fun i h => rangeAt_kept (HC1.out i h) (Kept.of_below hbq.out))
     obtain ⟨bl, hbl⟩ : ∃ bl, lateB ((reps L).take m) x = bl := ⟨_, rfl⟩
     have HBL := hid hbl
     rw [hbl] at HFT4
     clear hft HFT3 hnm HR1 HAK1 HPT1 HC1 HB1 hbl hgm hm hml
     go_upto_region 14 with fail
     go_cut [57] from 7 to 70 (fun s57 wx => s57 = .bool bl ∧ Below w2.heap.size w2 wx)
     case first =>
      rcases m with _ | n
      ·have HBF : Hid (bl = false) := hid (by rw [← HBL.out]; rfl)
       go_quiet (fail)
       go_wp2_with fail
       go_meet
       case rel => exact ⟨by rw [HBF.out], Below.drewN' (Below.refl _ _) _⟩
      ·have hnL : n < L.length := by omega
       obtain ⟨_, e1, _⟩ := range_at HR2.out
       obtain ⟨_, c1, _⟩ := range_at (HC2.out n hnL)
       have hlb : bl = decide (x.known < L[n].1.known) := by
        rw [← HBL.out]
        unfold lateB
        have : ((reps L).take (n + 1)).getLast? = some L[n].1 := by
         rw [← HRT.out]
         have := last_of (L := L.take (n + 1)) (m := n) HTK.out (by rw [HTK.out]; omega)
         simpa using this
        rw [this]
       obtain ⟨y, hy⟩ : ∃ y, L[n].1 = y := ⟨_, rfl⟩
       rw [hy] at c1 hlb
       have HLB := hid hlb
       have j0 : (0 : Int) ≤ n := by omega
       have j1 : (n : Int) < L.length := by omega
       have j2 : ((n : Int) + 1 - 1) = n := by omega
       have j3 : (0 : Int) < (n : Int) + 1 := by omega
       clear hy hlb
       by_cases hk3 : x.known < y.known
       ·have dk : decide (x.known < y.known) = true := decide_eq_true hk3
        have HBF : Hid (bl = true) := hid (by rw [HLB.out, dk])
        clear hk3
        go_quiet (fail)
        go_wp2_with fail
        go_meet
        case rel => exact ⟨by rw [HBF.out], Below.drewN' (Below.refl _ _) _⟩
       ·have dk : decide (x.known < y.known) = false := decide_eq_false hk3
        have HBF : Hid (bl = false) := hid (by rw [HLB.out, dk])
        clear hk3
        go_quiet (fail)
        go_wp2_with fail
        go_meet
        case rel => exact ⟨by rw [HBF.out], Below.drewN' (Below.refl _ _) _⟩
     case rest =>
      obtain ⟨rfl, hb3⟩ := hcut
      have HB3 := hid (HB2.out.trans (hb3.mono HB2.out.size))
      rcases bl with _ | _
      case true =>
       have HEE : Hid (E = 7) := hid (by rw [HFT4.out, if_pos rfl])
       go_wp2_with fail
       go_ret2
       exact ⟨⟨_, _, rfl, by have := HBAD.out; rw [HEE.out] at this; exact this (by decide)⟩, HB3.out⟩
      case false =>
       have HEE : Hid (E = admE ((reps L).take m) x) := hid (by rw [HFT4.out, if_neg (by decide)])
       have had := radmitted_any (some ⟨b, off, none⟩) cap (L.take m) x P c wc.drew ((HAK2.out.below hb3).kept (Kept.of_below (Below.refl _ wc).drew)) (by rw [HTK.out]; omega) (by rw [HRT.out]; exact hv.out) HWF.out ((HPT2.out.kept (Kept.of_below hb3)).kept (Kept.of_below (Below.refl _ wc).drew))
       simp only [HTK.out, HRT.out, ← HEE.out] at had
       have HAD := hid had
       have HR3 := hid (rangeAt_kept HR2.out (Kept.of_below hb3))
       clear had hb3 HB2 HR2 HAK2 HPT2 HC2 HBL HFT4
       go_upto_region 16 with fail
       go_cut [5] from 7 to 70 (fun s5 wx => s5 = .int .i64 E ∧ Below wc.heap.size wc wx)
       case first =>
        refine wp_region_noPanic ?_
        refine wp_region_held_drew (S := fun w' => w'.rangeAt b (off + m * 15) (x.cells P c).toList) (by kernel_rfl) (rangeAt_kept HR3.out (Kept.of_below (Below.refl _ wc).drew)) (fun hHeld => ?_)
        refine tk 0 (fun _ _ _ _ _ h => h) (by kernel_rfl) ‹_› ⟨_, ?_, by simp only [zz1, zz2]; rfl, .inl ⟨by rfl, ?_⟩, ?_⟩; rotate_left; · (intro w hSw; (try dsimp only at hSw); go_simp; all_goals with_reducible rfl)
        simp only [Act.put, zz4, zz5, zz6]
        refine tk 1 (fun _ _ _ _ _ h => h) (by kernel_rfl) ‹_› ⟨_, ?_, by simp only [zz1, zz2, zz3]; rfl, .inl ⟨by rfl, ?_⟩, ?_⟩; rotate_left; · (intro w hSw; (try dsimp only at hSw); go_simp; all_goals with_reducible rfl)
        simp only [Act.put, zz4, zz5, zz6]
        refine tk 2 (fun _ _ _ _ _ h => h) (by kernel_rfl) ‹_› ⟨_, ?_, by simp only [zz1, zz2, zz3]; rfl, .inl ⟨by rfl, ?_⟩, ?_⟩; rotate_left; · (intro w hSw; (try dsimp only at hSw); go_simp; all_goals with_reducible rfl)
        simp only [Act.put, zz4, zz5, zz6]
        refine tk 3 (fun _ _ _ _ _ h => h) (by kernel_rfl) ‹_› ⟨_, ?_, by simp only [zz1, zz2, zz3]; rfl, .inl ⟨by rfl, ?_⟩, ?_⟩; rotate_left; · (intro w hSw; (try dsimp only at hSw); go_simp; all_goals with_reducible rfl)
        simp only [Act.put, zz4, zz5, zz6]
        refine tk 4 (fun _ _ _ _ _ h => h) (by kernel_rfl) ‹_› ⟨_, ?_, by simp only [zz1, zz2, zz3]; rfl, .inl ⟨by rfl, ?_⟩, ?_⟩; rotate_left; · (intro w hSw; (try dsimp only at hSw); go_simp; all_goals with_reducible rfl)
        simp only [Act.put, zz4, zz5, zz6]
        refine tk 5 (fun _ _ _ _ _ h => h) (by kernel_rfl) ‹_› ⟨_, ?_, by simp only [zz1, zz2, zz3]; rfl, .inl ⟨by rfl, ?_⟩, ?_⟩; rotate_left; · (intro w hSw; (try dsimp only at hSw); go_simp; all_goals with_reducible rfl)
        simp only [Act.put, zz4, zz5, zz6]
        refine tk 6 (fun _ _ _ _ _ h => h) (by kernel_rfl) ‹_› ⟨_, _, by simp only [zz1, zz2, zz3]; rfl, yields_rep rfl (.tmp 64) rfl b (off + m * 15) rfl (fun _ h => h), ?_⟩
        simp only [Act.put, zz4, zz5, zz6]
        refine wpAnyH_ready (rs := [7]) (by kernel_rfl) (by simp) ?_
        refine cons_one (i := 7) ⟨_, by simp only [zz1, zz2, zz3]; rfl, fun K hK => ?_⟩ ?_
        rotate_left
        ·exact AllReadyH.nil
        refine step_call rfl #[.tmp 61, .tmp 65] 119 _ rfl enters_radmitted #[.slice (some ⟨b, off, none⟩) m cap, x.val P c] ?hs (fun u w' => u = .int .i64 E ∧ Below wc.drew.heap.size wc.drew w') (HAD.out.mono (fun e w' h => ⟨_, h.1, rfl, h.2⟩)) ?_
        case hs => simp [Act.eval, Rep.val, Rep.cells]
        rintro _ w6 ⟨rfl, hb6⟩
        have HB6 : Hid (Below wc.heap.size wc w6) := hid ((Below.refl _ wc).drew.trans hb6)
        clear hb6
        clear hHeld
        refine hK.out _ _ (rangeAt_kept HR3.out (Kept.of_below HB6.out)) (fun hHeld => ?_)
        clear hK K
        try simp only [Act.put, zz4, zz5, zz6]
        refine tk 8 (fun _ _ _ _ _ h => h) (by kernel_rfl) ‹_› ⟨_, ?_, by simp only [zz1, zz2, zz3]; rfl, .inl ⟨by rfl, ?_⟩, ?_⟩; rotate_left; · (intro w hSw; (try dsimp only at hSw); go_simp; all_goals with_reducible rfl)
        simp only [Act.put, zz4, zz5, zz6]
        refine wpAnyH_done (by kernel_rfl) ?_ _
        refine NoPanic.normal ?_
        go_wp2_with fail
        go_meet
        case rel => exact ⟨rfl, HB6.out⟩
       case rest =>
        obtain ⟨rfl, hb4⟩ := hcut
        have HB4 := hid (HB3.out.trans (hb4.mono HB3.out.size))
        clear hb4
        by_cases h0 : E = 0
        ·subst h0
         go_wp2_with fail
         go_roundg (L.length - (m + 1))
         case measure => omega
         case rel => exact ⟨m + 1, by omega, by omega, rfl, by go_num, hid (HSN.out trivial), HB4⟩
        ·have d0 : (E != 0) = true := bne_iff_ne.2 h0
         have HBX := hid (HBAD.out h0)
         clear h0
         go_wp2_with fail
         go_ret2
         exact ⟨⟨_, _, rfl, HBX.out⟩, HB4.out⟩
  ·obtain rfl : k = L.length := by omega
   have hv2 := hv.out
   rw [List.take_of_length_le (by simp)] at hv2
   have HV := hid hv2
   clear hv2
   go_wp2_with fail
   go_ret2
   exact ⟨⟨_, _, rfl, .inl ⟨HV.out, rfl, rfl⟩⟩, hbw.out⟩
theorem CheckIs.valid {l : List Rep} {i : Int} (h : CheckIs l i 0) : Valid l := by
 rcases h with ⟨h, _, _⟩ | ⟨k, _, _, _, h, _⟩
 ·exact h
 ·exact absurd rfl h
/-- What the reference's Counting hands back. -/
def RCountPost (L : List Ent) (K : Int) (w : World) (e : Ending) (w' : World) : Prop :=
 Below w.heap.size w w' ∧ ((∃ i en, CheckIs (reps L) i en ∧ en ≠ 0 ∧ e = .returned (.tuple #[.slice none 0 0, .int .i64 en])) ∨
  (Valid (reps L) ∧ ∃ v, e = .returned (.tuple #[v, .int .i64 0]) ∧ w'.ownsRow w.heap.size 46 15 v (countE L K).length (flat (countE L K))))
set_option maxHeartbeats 4000000 in
theorem rCounting_any (A : Option Addr) (cap : Nat) (L : List Ent) (K : Int) (w : World) (hA : EntsAt w A L) (hl : L.length ≤ 210) (hcap : L.length ≤ cap) (hz : ∀ e ∈ L, e.1.mark.size ≤ 1000000 ∧ e.1.goods.size ≤ 1000000) :
  Calls Tryz.prog 37 #[.slice A L.length cap, .int .i64 K] w (RCountPost L K w) := by
 have HCK := hid (rcheck_any A cap L w hA hl hcap hz)
 have HA := hid hA
 clear hA
 go_enter Tryz.func37, Tryz.ntmps37
 go_wp2_with fail
 refine HCK.out.mono ?_
 rintro e w1 ⟨⟨i, en, rfl, hck⟩, hb⟩
 have HB := hid hb
 have HCI := hid hck
 by_cases h0 : en = 0
 ·subst h0
  have HCC := hid (rcounting_any A cap L K w1 (HA.out.below hb) (by omega))
  clear hb hck
  go_wp2_with fail
  refine HCC.out.mono ?_
  rintro e w2 ⟨v, rfl, ho, hb2⟩
  have HO := hid (own_lo ho HB.out.size)
  have HB2 := hid (HB.out.trans (hb2.mono HB.out.size))
  clear ho hb2
  go_wp2_with fail
  go_ret2
  unfold RCountPost
  exact ⟨HB2.out, .inr ⟨HCI.out.valid, _, rfl, HO.out⟩⟩
 ·have d0 : (en != 0) = true := bne_iff_ne.2 h0
  have H0 := hid h0
  clear hb hck h0
  go_wp2_with fail
  go_ret2
  unfold RCountPost
  exact ⟨HB.out, .inl ⟨_, _, HCI.out, H0.out, rfl⟩⟩
theorem IntsAt.drop {w : World} {b off : Nat} {xs : List Int} (h : IntsAt w (some ⟨b, off, none⟩) xs) (k : Nat) : IntsAt w (some ⟨b, off + k, none⟩) (xs.drop k) := fun h0 => by
 obtain ⟨b', off', e, hc⟩ := h (by simp at h0; omega)
 cases e
 refine ⟨b, _, rfl, fun j hj => ?_⟩
 have hj2 : k + j < xs.length := by simp at hj; omega
 have := hc (k + j) hj2
 rw [show off + k + j = off + (k + j) by omega, List.getElem_drop]
 exact this
/-- A number put where it belongs. -/
theorem ins_sorted {o : List Int} {y : Int} {at_ : Nat} (ho : o.Pairwise (· < ·)) (h1 : ∀ j (h : j < o.length), j < at_ → o[j] < y) (h2 : ∀ (h : at_ < o.length), y < o[at_]) : (o.take at_ ++ [y] ++ o.drop at_).Pairwise (· < ·) := by
 rw [List.pairwise_iff_getElem] at ho
 have ht : ∀ x ∈ o.take at_, x < y := fun x hx => by
  obtain ⟨j, hj, rfl⟩ := List.getElem_of_mem hx
  have hj2 : j < o.length := by simp at hj; omega
  have := h1 j hj2 (by simp at hj; omega)
  simpa using this
 have hd : ∀ x ∈ o.drop at_, y < x := fun x hx => by
  obtain ⟨j, hj, rfl⟩ := List.getElem_of_mem hx
  have hj2 : at_ + j < o.length := by simp at hj; omega
  have h3 := h2 (by omega)
  rw [List.getElem_drop]
  rcases Nat.eq_zero_or_pos j with rfl | h0
  ·simpa using h3
  ·exact Int.lt_trans h3 (ho at_ (at_ + j) (by omega) hj2 (by omega))
 rw [List.pairwise_append, List.pairwise_append]
 refine ⟨⟨?_, by simp, fun a ha b hb => ?_⟩, ?_, fun a ha b hb => ?_⟩
 ·exact (List.pairwise_iff_getElem.2 ho).sublist (List.take_sublist _ _)
 ·rw [List.mem_singleton] at hb
  subst hb
  exact ht a ha
 ·exact (List.pairwise_iff_getElem.2 ho).sublist (List.drop_sublist _ _)
 ·rcases List.mem_append.1 ha with h | h
  ·exact Int.lt_trans (ht a h) (hd b hb)
  ·rw [List.mem_singleton] at h
   subst h
   exact hd b hb
theorem ins_mem {o : List Int} {y : Int} {at_ : Nat} (x : Int) : x ∈ o.take at_ ++ [y] ++ o.drop at_ ↔ x ∈ o ∨ x = y := by
 conv => rhs; rw [← List.take_append_drop at_ o]
 simp only [List.mem_append, List.mem_singleton]
 constructor
 ·rintro ((h | h) | h)
  ·exact .inl (.inl h)
  ·exact .inr h
  ·exact .inl (.inr h)
 ·rintro ((h | h) | h)
  ·exact .inl (.inl h)
  ·exact .inr h
  ·exact .inl (.inr h)
/-- A slice of numbers whose address is known. -/
def Addrd (v : Value) (o : List Int) : Prop := (o = [] ∧ v = .slice none 0 0) ∨ ∃ g cap, v = .slice (some ⟨g, 0, none⟩) o.length cap ∧ 0 < o.length ∧ o.length ≤ cap
set_option maxHeartbeats 16000000 in
theorem rsorted_any (A : Option Addr) (cap : Nat) (l : List Int) (w : World) (hA : IntsAt w A l) (hl : l.length ≤ 100000) :
  Calls Tryz.prog 53 #[.slice A l.length cap] w fun e w' => ∃ o v, e = .returned v ∧ w'.ownsRow w.heap.size 3 1 v o.length (ints o) ∧ Below w.heap.size w w' ∧ o.Pairwise (· < ·) ∧ ∀ x, x ∈ o ↔ x ∈ l := by
 have HA := hid hA
 clear hA
 go_enter Tryz.func53, Tryz.ntmps53
 go_upto_region 3 with fail
 go_loopg [3, 4] (l.length) (fun g v i wr => ∃ (k : Nat) (o : List Int), k ≤ l.length ∧ g = l.length - k ∧ i = .int .i64 k ∧ o.length ≤ k ∧ Hid (wr.ownsRow w.heap.size 3 1 v o.length (ints o)) ∧ Hid (Addrd v o) ∧ Hid (o.Pairwise (· < ·) ∧ ∀ x, x ∈ o ↔ x ∈ l.take k) ∧ Hid (Below w.heap.size w wr))
 case atStart => exact ⟨0, [], by omega, by omega, rfl, by simp, hid (World.ownsRow_nil _ _ _ _), hid (.inl ⟨rfl, rfl⟩), hid ⟨List.Pairwise.nil, by simp⟩, hid (Below.refl _ _)⟩
 case round =>
  obtain ⟨k, o, hk, hgk, rfl, hol, hown, had, hso, hbw⟩ := hrel
  by_cases hkl : k < l.length
  ·obtain ⟨V, hV⟩ : ∃ V, V = wr := ⟨_, rfl⟩
   subst hV
   obtain ⟨b, off, hAe, hc⟩ := (HA.out.kept (Kept.of_below hbw.out)) (by omega)
   subst hAe
   have hck := hc k hkl
   have i0 : (0 : Int) ≤ k := by omega
   have i1 : (k : Int) < l.length := by omega
   have hsn : l.take (k + 1) = l.take k ++ [l[k]] := List.take_succ_eq_append_getElem hkl
   obtain ⟨y, hy⟩ : ∃ y, l[k] = y := ⟨_, rfl⟩
   rw [hy] at hck hsn
   have HSN := hid hsn
   have HCK := hid hck
   clear hc hy hsn hck
   rcases had.out with ⟨rfl, rfl⟩ | ⟨g, cp, rfl, ho0, hocp⟩
   ·go_upto_region 6 with fail
    go_loopg [5] (0) (fun g at_ wq => g = 0 ∧ at_ = .int .i64 0 ∧ Hid (Below V.heap.size V wq))
    case atStart => exact ⟨rfl, rfl, hid (Below.refl _ _)⟩
    case round =>
     obtain ⟨_, rfl, hbq⟩ := hrel
     go_upto_region 6 with fail
     go_quiet (fail)
     go_upto_region 8 with fail
     obtain ⟨Wa, hWWa⟩ : ∃ W, wr.drewN nq = W := ⟨_, rfl⟩
     have hba : Below wr.heap.size wr Wa := by rw [← hWWa]; exact Below.drewN' (Below.refl _ _) _
     rw [hWWa]
     clear hWWa
     go_quiet (fail)
     go_upto_region 10 with fail
     obtain ⟨Wb, hWWb⟩ : ∃ W, Wa.drewN nq = W := ⟨_, rfl⟩
     have hbb : Below Wa.heap.size Wa Wb := by rw [← hWWb]; exact Below.drewN' (Below.refl _ _) _
     rw [hWWb]
     clear hWWb
     have HBb : Hid (Below w.heap.size w Wb) := hid (hbw.out.trans ((hbq.out.trans ((hba.trans (hbb.mono hba.size)).mono hbq.out.size)).mono hbw.out.size))
     have HCKb := hid (Kept.of_below (hbq.out.trans ((hba.trans (hbb.mono hba.size)).mono hbq.out.size)) _ _ HCK.out)
     obtain ⟨o, hoo⟩ : ∃ o : List Int, o = [] := ⟨_, rfl⟩
     have HTK : Hid (IntsAt Wb none (o.take 0)) := hid (fun h => absurd h (by simp))
     have HDR : Hid (∀ w9, IntsAt w9 none (o.drop 0)) := hid (fun w9 h => absurd h (by simp [hoo]))
     have HTL : Hid ((o.take 0).length = 0) := hid (by simp)
     have HDL : Hid ((o.drop 0).length = 0) := hid (by simp [hoo])
     clear hba hbb
     obtain ⟨v1, w1, hr1, ho1, hg1⟩ := app_ints (w := Wb) (base := Wb.heap.size) (v := .slice none 0 0) (xs := []) (ys := o.take 0) (A := none) (c := 0) (World.ownsRow_nil _ _ _ _) HTK.out (by have := HTL.out; rw [List.length_nil]; omega) (Nat.le_refl _)
     rw [List.nil_append] at ho1
     rw [HTL.out] at hr1
     have HB1 : Hid (Below Wb.heap.size Wb w1) := hid ((Below.refl _ _).grown hg1 (Nat.le_refl _) (fun j e => by simp [Value.ownBlock] at e))
     obtain ⟨v2, w2, hr2, ho2, hb2⟩ := app_big y ho1 (by have := HTL.out; omega) HB1.out.size
     have HB2 := hid (HB1.out.trans hb2)
     obtain ⟨v3, w3, hr3, ho3, hg3⟩ := app_ints (w := w2) (base := Wb.heap.size) (ys := o.drop 0) (A := none) (c := 0) ho2 (HDR.out _) (by have := HTL.out; have := HDL.out; rw [List.length_append, List.length_singleton]; omega) HB2.out.size
     rw [HDL.out] at hr3
     have HB3 : Hid (Below w.heap.size w w3) := hid (HBb.out.trans ((HB2.out.grown hg3 HB2.out.size (fun j e => (ho2.lt j e).1)).mono HBb.out.size))
     have hck2 := Kept.of_below HB1.out _ _ HCKb.out
     have HR1 := hid hr1
     have HR2 := hid hr2
     have HR3 := hid hr3
     have HO3 := hid (own_lo ho3 HBb.out.size)
     clear hr1 hr2 hr3 ho1 ho2 ho3 hg1 hg3 hb2
     go_upto_region 11 with (at_builtin; refine wpList_app rfl rfl rfl rfl rfl HR1.out ?_)
     go_upto_region 12 with (at_builtin; refine wpList_app rfl rfl rfl rfl rfl HR2.out ?_)
     go_wp2_with (at_builtin; refine wpList_app rfl rfl rfl rfl rfl HR3.out ?_)
     go_roundg (l.length - (k + 1))
     case measure => omega
     case rel =>
      subst hoo
      have hm := hso.out.2
      refine ⟨k + 1, [y], by omega, rfl, by go_num, by simp, hid (by simpa using HO3.out), hid ?_, hid ⟨by simp, fun x => ?_⟩, HB3⟩
      ·obtain ⟨g3, c3, e3, _, h3⟩ := own_slice HO3.out (by simp)
       exact .inr ⟨g3, c3, by simpa using e3, by simp, by simpa using h3⟩
      ·rw [HSN.out, List.mem_append, ← hm x]
       simp
   ·have HIO := hid (ownsRow_ints hown.out)
    have HC0 := hid (fun (w9 : World) (h9 : Below V.heap.size V w9) j (hj : j < o.length) => by
     obtain ⟨b9, f9, e9, hc9⟩ := HIO.out.kept (Kept.of_below h9) ho0
     cases e9
     have := hc9 j hj
     rwa [Nat.zero_add] at this)
    have c1 : (o.length : Int) ≤ cp := by omega
    go_upto_region 6 with fail
    go_loopg [5] (o.length) (fun gm v5 wq => ∃ at_ : Nat, at_ ≤ o.length ∧ gm = o.length - at_ ∧ v5 = .int .i64 at_ ∧ Hid (∀ j (h : j < o.length), j < at_ → o[j] < y) ∧ Hid (Below V.heap.size V wq))
    case atStart => exact ⟨0, by omega, by omega, rfl, hid (fun j _ h => by omega), hid (Below.refl _ _)⟩
    case round =>
     obtain ⟨at_, hat, hgm, rfl, hbf, hbq⟩ := hrel
     have hck := Kept.of_below hbq.out _ _ HCK.out
     have a0 : (0 : Int) ≤ at_ := by omega
     have a1 : (at_ : Int) ≤ o.length := by omega
     have a2 : (at_ : Int) ≤ cp := by omega
     by_cases hlt : at_ < o.length
     ·have hca := HC0.out wr hbq.out at_ hlt
      have a3 : (at_ : Int) < o.length := by omega
      have hsm := hso.out.2
      obtain ⟨z, hz⟩ : ∃ z, o[at_] = z := ⟨_, rfl⟩
      rw [hz] at hca
      have HZ := hid hz
      have HCA := hid hca
      clear hz hsm
      rcases Int.lt_trichotomy z y with h3 | h3 | h3
      ·have dz : decide (z < y) = true := decide_eq_true h3
       have HBF : Hid (∀ j (h : j < o.length), j < at_ + 1 → o[j] < y) := hid (fun j hj h => by
        rcases Nat.lt_or_ge j at_ with h5 | h5
        ·exact hbf.out j hj h5
        ·obtain rfl : j = at_ := by omega
         rw [HZ.out]
         exact h3)
       clear h3
       go_upto_region 6 with fail
       go_quiet (fail)
       go_wp2_with fail
       go_roundg (o.length - (at_ + 1))
       case measure => omega
       case rel => exact ⟨at_ + 1, by omega, rfl, by go_num, HBF, hid (Below.drewN' hbq.out _)⟩
      ·have dz : decide (z < y) = false := decide_eq_false (by omega)
       have dy : (z == y) = true := beq_iff_eq.2 h3
       have HY : Hid (y ∈ o) := hid (by rw [← h3, ← HZ.out]; exact List.getElem_mem hlt)
       clear h3
       go_upto_region 6 with fail
       go_quiet (fail)
       go_upto_region 8 with fail
       obtain ⟨Wa, hWWa⟩ : ∃ W, wr.drewN nq = W := ⟨_, rfl⟩
       have hba : Below wr.heap.size wr Wa := by rw [← hWWa]; exact Below.drewN' (Below.refl _ _) _
       rw [hWWa]
       clear hWWa
       have hca := Kept.of_below hba _ _ HCA.out
       have hck := Kept.of_below hba _ _ hck
       have HBA := hid (hbq.out.trans (hba.mono hbq.out.size))
       go_quiet (fail)
       go_wp2_with fail
       go_roundg (l.length - (k + 1))
       case measure => omega
       case rel =>
        have hm := hso.out.2
        refine ⟨k + 1, o, by omega, rfl, by go_num, by omega, hid (own_lo (own_below hown.out (Below.drewN' HBA.out _)) (Nat.le_refl _)), hid (.inr ⟨g, cp, rfl, ho0, hocp⟩), hid ⟨hso.out.1, fun x => ?_⟩, hid (hbw.out.trans ((Below.drewN' HBA.out _).mono hbw.out.size))⟩
        rw [HSN.out, List.mem_append, List.mem_singleton, ← hm x]
        exact ⟨.inl, fun h => h.elim id (fun h => h ▸ HY.out)⟩
      ·have dz : decide (z < y) = false := decide_eq_false (by omega)
       have dy : (z == y) = false := beq_eq_false_iff_ne.2 (by omega)
       have HGT : Hid (∀ (h : at_ < o.length), y < o[at_]) := hid (fun h => by rw [HZ.out]; exact h3)
       clear h3
       go_upto_region 6 with fail
       go_quiet (fail)
       go_upto_region 8 with fail
       obtain ⟨Wa, hWWa⟩ : ∃ W, wr.drewN nq = W := ⟨_, rfl⟩
       have hba : Below wr.heap.size wr Wa := by rw [← hWWa]; exact Below.drewN' (Below.refl _ _) _
       rw [hWWa]
       clear hWWa
       have hca := Kept.of_below hba _ _ HCA.out
       have hck := Kept.of_below hba _ _ hck
       have hcn : ¬ cp = at_ := by omega
       go_quiet (fail)
       go_upto_region 10 with fail
       obtain ⟨Wb, hWWb⟩ : ∃ W, Wa.drewN nq = W := ⟨_, rfl⟩
       have hbb : Below Wa.heap.size Wa Wb := by rw [← hWWb]; exact Below.drewN' (Below.refl _ _) _
       rw [hWWb]
       clear hWWb
       have HBb : Hid (Below w.heap.size w Wb) := hid (hbw.out.trans ((hbq.out.trans ((hba.trans (hbb.mono hba.size)).mono hbq.out.size)).mono hbw.out.size))
       have HVb : Hid (Below V.heap.size V Wb) := hid (hbq.out.trans ((hba.trans (hbb.mono hba.size)).mono hbq.out.size))
       have HCKb := hid (Kept.of_below HVb.out _ _ HCK.out)
       have HTK : Hid (IntsAt Wb (some ⟨g, 0, none⟩) (o.take at_)) := hid ((HIO.out.kept (Kept.of_below HVb.out)).take at_)
       have HDR0 : Hid (∀ w9, Below V.heap.size V w9 → IntsAt w9 (some ⟨g, at_, none⟩) (o.drop at_)) := hid (fun w9 h9 => by
        have := (HIO.out.kept (Kept.of_below h9)).drop at_
        rwa [Nat.zero_add] at this)
       have HTL : Hid ((o.take at_).length = at_) := hid (by rw [List.length_take]; omega)
       have HDL : Hid ((o.drop at_).length = o.length - at_) := hid (List.length_drop ..)
       clear hba hbb
       obtain ⟨v1, w1, hr1, ho1, hg1⟩ := app_ints (w := Wb) (base := Wb.heap.size) (v := .slice none 0 0) (xs := []) (ys := o.take at_) (A := some ⟨g, 0, none⟩) (c := cp) (World.ownsRow_nil _ _ _ _) HTK.out (by have := HTL.out; rw [List.length_nil]; omega) (Nat.le_refl _)
       rw [List.nil_append] at ho1
       rw [HTL.out] at hr1
       have HB1 : Hid (Below Wb.heap.size Wb w1) := hid ((Below.refl _ _).grown hg1 (Nat.le_refl _) (fun j e => by simp [Value.ownBlock] at e))
       obtain ⟨v2, w2, hr2, ho2, hb2⟩ := app_big y ho1 (by have := HTL.out; omega) HB1.out.size
       have HB2 := hid (HB1.out.trans hb2)
       obtain ⟨v3, w3, hr3, ho3, hg3⟩ := app_ints (w := w2) (base := Wb.heap.size) (ys := o.drop at_) (A := some ⟨g, at_, none⟩) (c := cp - at_) ho2 (HDR0.out _ (HVb.out.trans (HB2.out.mono HVb.out.size))) (by have := HTL.out; have := HDL.out; rw [List.length_append, List.length_singleton]; omega) HB2.out.size
       rw [HDL.out] at hr3
       have HB3 : Hid (Below w.heap.size w w3) := hid (HBb.out.trans ((HB2.out.grown hg3 HB2.out.size (fun j e => (ho2.lt j e).1)).mono HBb.out.size))
       have hck2 := Kept.of_below HB1.out _ _ HCKb.out
       have HR1 := hid hr1
       have HR2 := hid hr2
       have HR3 := hid hr3
       have HO3 := hid (own_lo ho3 HBb.out.size)
       clear hr1 hr2 hr3 ho1 ho2 ho3 hg1 hg3 hb2
       go_upto_region 11 with (at_builtin; refine wpList_app rfl rfl rfl rfl rfl HR1.out ?_)
       go_upto_region 12 with (at_builtin; refine wpList_app rfl rfl rfl rfl rfl HR2.out ?_)
       go_wp2_with (at_builtin; refine wpList_app rfl rfl rfl rfl rfl HR3.out ?_)
       go_roundg (l.length - (k + 1))
       case measure => omega
       case rel =>
        have hm := hso.out.2
        refine ⟨k + 1, o.take at_ ++ [y] ++ o.drop at_, by omega, rfl, by go_num, by rw [List.length_append, List.length_append, HTL.out, HDL.out, List.length_singleton]; omega, HO3, hid ?_, hid ⟨ins_sorted hso.out.1 hbf.out HGT.out, fun x => ?_⟩, HB3⟩
        ·obtain ⟨g3, c3, e3, _, h3⟩ := own_slice HO3.out (by simp; omega)
         exact .inr ⟨g3, c3, e3, by simp; omega, h3⟩
        ·rw [HSN.out, ins_mem, List.mem_append, List.mem_singleton, hm x]
     ·have a3 : ¬ ((at_ : Int) < o.length) := by omega
      have a4 : decide ((at_ : Int) < o.length) = false := decide_eq_false a3
      have HGT : Hid (∀ (h : at_ < o.length), y < o[at_]) := hid (fun h => absurd h hlt)
      go_upto_region 6 with fail
      go_quiet (fail)
      go_upto_region 8 with fail
      obtain ⟨Wa, hWWa⟩ : ∃ W, wr.drewN nq = W := ⟨_, rfl⟩
      have hba : Below wr.heap.size wr Wa := by rw [← hWWa]; exact Below.drewN' (Below.refl _ _) _
      rw [hWWa]
      clear hWWa
      have hck := Kept.of_below hba _ _ hck
      by_cases hcn : cp = at_
      ·subst hcn
       go_quiet (fail)
       go_upto_region 10 with fail
       obtain ⟨Wb, hWWb⟩ : ∃ W, Wa.drewN nq = W := ⟨_, rfl⟩
       have hbb : Below Wa.heap.size Wa Wb := by rw [← hWWb]; exact Below.drewN' (Below.refl _ _) _
       rw [hWWb]
       clear hWWb
       have HBb : Hid (Below w.heap.size w Wb) := hid (hbw.out.trans ((hbq.out.trans ((hba.trans (hbb.mono hba.size)).mono hbq.out.size)).mono hbw.out.size))
       have HVb : Hid (Below V.heap.size V Wb) := hid (hbq.out.trans ((hba.trans (hbb.mono hba.size)).mono hbq.out.size))
       have HCKb := hid (Kept.of_below HVb.out _ _ HCK.out)
       have HTK : Hid (IntsAt Wb (some ⟨g, 0, none⟩) (o.take cp)) := hid ((HIO.out.kept (Kept.of_below HVb.out)).take cp)
       have HDR0 : Hid (∀ w9, Below V.heap.size V w9 → IntsAt w9 (some ⟨g, cp, none⟩) (o.drop cp)) := hid (fun w9 h9 => by
        have := (HIO.out.kept (Kept.of_below h9)).drop cp
        rwa [Nat.zero_add] at this)
       have HDR1 : Hid (∀ w9, IntsAt w9 (some ⟨g, 0, none⟩) (o.drop cp)) := hid (fun w9 h => absurd h (by rw [List.length_drop]; omega))
       have HTL : Hid ((o.take cp).length = cp) := hid (by rw [List.length_take]; omega)
       have HDL : Hid ((o.drop cp).length = 0) := hid (by rw [List.length_drop]; omega)
       clear hba hbb
       obtain ⟨v1, w1, hr1, ho1, hg1⟩ := app_ints (w := Wb) (base := Wb.heap.size) (v := .slice none 0 0) (xs := []) (ys := o.take cp) (A := some ⟨g, 0, none⟩) (c := cp) (World.ownsRow_nil _ _ _ _) HTK.out (by have := HTL.out; rw [List.length_nil]; omega) (Nat.le_refl _)
       rw [List.nil_append] at ho1
       rw [HTL.out] at hr1
       have HB1 : Hid (Below Wb.heap.size Wb w1) := hid ((Below.refl _ _).grown hg1 (Nat.le_refl _) (fun j e => by simp [Value.ownBlock] at e))
       obtain ⟨v2, w2, hr2, ho2, hb2⟩ := app_big y ho1 (by have := HTL.out; omega) HB1.out.size
       have HB2 := hid (HB1.out.trans hb2)
       obtain ⟨v3, w3, hr3, ho3, hg3⟩ := app_ints (w := w2) (base := Wb.heap.size) (ys := o.drop cp) (A := some ⟨g, 0, none⟩) (c := 0) ho2 (HDR1.out w2) (by have := HTL.out; have := HDL.out; rw [List.length_append, List.length_singleton]; omega) HB2.out.size
       rw [HDL.out] at hr3
       have HB3 : Hid (Below w.heap.size w w3) := hid (HBb.out.trans ((HB2.out.grown hg3 HB2.out.size (fun j e => (ho2.lt j e).1)).mono HBb.out.size))
       have hck2 := Kept.of_below HB1.out _ _ HCKb.out
       have HR1 := hid hr1
       have HR2 := hid hr2
       have HR3 := hid hr3
       have HO3 := hid (own_lo ho3 HBb.out.size)
       clear hr1 hr2 hr3 ho1 ho2 ho3 hg1 hg3 hb2
       go_upto_region 11 with (at_builtin; refine wpList_app rfl rfl rfl rfl rfl HR1.out ?_)
       go_upto_region 12 with (at_builtin; refine wpList_app rfl rfl rfl rfl rfl HR2.out ?_)
       go_wp2_with (at_builtin; refine wpList_app rfl rfl rfl rfl rfl HR3.out ?_)
       go_roundg (l.length - (k + 1))
       case measure => omega
       case rel =>
        have hm := hso.out.2
        refine ⟨k + 1, o.take cp ++ [y] ++ o.drop cp, by omega, rfl, by go_num, by rw [List.length_append, List.length_append, HTL.out, HDL.out, List.length_singleton]; omega, HO3, hid ?_, hid ⟨ins_sorted hso.out.1 hbf.out HGT.out, fun x => ?_⟩, HB3⟩
        ·obtain ⟨g3, c3, e3, _, h3⟩ := own_slice HO3.out (by simp; omega)
         exact .inr ⟨g3, c3, e3, by simp; omega, h3⟩
        ·rw [HSN.out, ins_mem, List.mem_append, List.mem_singleton, hm x]
      ·skip
       go_quiet (fail)
       go_upto_region 10 with fail
       obtain ⟨Wb, hWWb⟩ : ∃ W, Wa.drewN nq = W := ⟨_, rfl⟩
       have hbb : Below Wa.heap.size Wa Wb := by rw [← hWWb]; exact Below.drewN' (Below.refl _ _) _
       rw [hWWb]
       clear hWWb
       have HBb : Hid (Below w.heap.size w Wb) := hid (hbw.out.trans ((hbq.out.trans ((hba.trans (hbb.mono hba.size)).mono hbq.out.size)).mono hbw.out.size))
       have HVb : Hid (Below V.heap.size V Wb) := hid (hbq.out.trans ((hba.trans (hbb.mono hba.size)).mono hbq.out.size))
       have HCKb := hid (Kept.of_below HVb.out _ _ HCK.out)
       have HTK : Hid (IntsAt Wb (some ⟨g, 0, none⟩) (o.take at_)) := hid ((HIO.out.kept (Kept.of_below HVb.out)).take at_)
       have HDR0 : Hid (∀ w9, Below V.heap.size V w9 → IntsAt w9 (some ⟨g, at_, none⟩) (o.drop at_)) := hid (fun w9 h9 => by
        have := (HIO.out.kept (Kept.of_below h9)).drop at_
        rwa [Nat.zero_add] at this)
       have HTL : Hid ((o.take at_).length = at_) := hid (by rw [List.length_take]; omega)
       have HDL : Hid ((o.drop at_).length = o.length - at_) := hid (List.length_drop ..)
       clear hba hbb
       obtain ⟨v1, w1, hr1, ho1, hg1⟩ := app_ints (w := Wb) (base := Wb.heap.size) (v := .slice none 0 0) (xs := []) (ys := o.take at_) (A := some ⟨g, 0, none⟩) (c := cp) (World.ownsRow_nil _ _ _ _) HTK.out (by have := HTL.out; rw [List.length_nil]; omega) (Nat.le_refl _)
       rw [List.nil_append] at ho1
       rw [HTL.out] at hr1
       have HB1 : Hid (Below Wb.heap.size Wb w1) := hid ((Below.refl _ _).grown hg1 (Nat.le_refl _) (fun j e => by simp [Value.ownBlock] at e))
       obtain ⟨v2, w2, hr2, ho2, hb2⟩ := app_big y ho1 (by have := HTL.out; omega) HB1.out.size
       have HB2 := hid (HB1.out.trans hb2)
       obtain ⟨v3, w3, hr3, ho3, hg3⟩ := app_ints (w := w2) (base := Wb.heap.size) (ys := o.drop at_) (A := some ⟨g, at_, none⟩) (c := cp - at_) ho2 (HDR0.out _ (HVb.out.trans (HB2.out.mono HVb.out.size))) (by have := HTL.out; have := HDL.out; rw [List.length_append, List.length_singleton]; omega) HB2.out.size
       rw [HDL.out] at hr3
       have HB3 : Hid (Below w.heap.size w w3) := hid (HBb.out.trans ((HB2.out.grown hg3 HB2.out.size (fun j e => (ho2.lt j e).1)).mono HBb.out.size))
       have hck2 := Kept.of_below HB1.out _ _ HCKb.out
       have HR1 := hid hr1
       have HR2 := hid hr2
       have HR3 := hid hr3
       have HO3 := hid (own_lo ho3 HBb.out.size)
       clear hr1 hr2 hr3 ho1 ho2 ho3 hg1 hg3 hb2
       go_upto_region 11 with (at_builtin; refine wpList_app rfl rfl rfl rfl rfl HR1.out ?_)
       go_upto_region 12 with (at_builtin; refine wpList_app rfl rfl rfl rfl rfl HR2.out ?_)
       go_wp2_with (at_builtin; refine wpList_app rfl rfl rfl rfl rfl HR3.out ?_)
       go_roundg (l.length - (k + 1))
       case measure => omega
       case rel =>
        have hm := hso.out.2
        refine ⟨k + 1, o.take at_ ++ [y] ++ o.drop at_, by omega, rfl, by go_num, by rw [List.length_append, List.length_append, HTL.out, HDL.out, List.length_singleton]; omega, HO3, hid ?_, hid ⟨ins_sorted hso.out.1 hbf.out HGT.out, fun x => ?_⟩, HB3⟩
        ·obtain ⟨g3, c3, e3, _, h3⟩ := own_slice HO3.out (by simp; omega)
         exact .inr ⟨g3, c3, e3, by simp; omega, h3⟩
        ·rw [HSN.out, ins_mem, List.mem_append, List.mem_singleton, hm x]
  ·obtain rfl : k = l.length := by omega
   go_wp2_with fail
   go_ret
   refine ⟨o, _, rfl, hown.out, hbw.out, hso.out.1, fun x => ?_⟩
   have := hso.out.2 x
   rwa [List.take_length] at this
end Go.Proofs.YtfaoillnakhejaaGreat
