/- The reference: CheckChain. -/
import Derived.Test.YtfaoillnakhejaaGreatH35
namespace Go.Proofs.YtfaoillnakhejaaGreat
set_option maxRecDepth 100000
open Go.RowKit
theorem has_q (A : Option Addr) (cap : Nat) (xs : List Int) (n : Int) (w : World) (hm : xs.length ≤ 1000000) (hA : IntsAt w A xs) {t : Bool} (ht : decide (n ∈ xs) = t) :
  Calls Tryz.prog 21 #[.slice A xs.length cap, .int .i64 n] w fun e w' => e = .returned (.bool t) ∧ Drew w w' :=
 (has_any A cap xs n w hm hA).mono fun _ _ ⟨h, e⟩ => ⟨by rw [← ht]; exact h, by subst e; exact Drew.refl _⟩
theorem app_one2 {w : World} {base : Nat} {v : Value} {xs : List Int} (x : Int) (hown : w.ownsRow base 3 1 v xs.length (ints xs)) (hl : xs.length ≤ 100000) (hbase : base ≤ w.heap.size) :
  ∃ v' w', (Builtin.append_ #[25, 25] 25 #[v, .slice (some ⟨w.heap.size, 0, none⟩) 1 1]).run Tryz.prog (w.alloc (.cells #[.int .i64 x] 3)) = .ok v' w' ∧ w'.ownsRow base 3 1 v' (xs ++ [x]).length (ints (xs ++ [x])) ∧ (Below base w w') := by
 obtain ⟨v', w', hr2, ho', hg'⟩ := app_ints (w := w.alloc (.cells #[.int .i64 x] 3)) (c := 1) (A := some ⟨w.heap.size, 0, none⟩) (ys := [x]) (hown.alloc _) (ints_new w x) (by simp; omega) (by simp; omega)
 exact ⟨v', w', hr2, ho', ((Below.refl _ _).alloc hbase _).grown hg' (by simp; omega) (fun g e => (hown.lt g e).1)⟩
theorem enters_rmoves : Enters 59 := fun args w => by kernel_rfl
def usesB (D : List Pcl) (c : Int) (here : List Int) : Bool := D.any fun q => decide (q.into = c) && decide (q.id ∈ here)
theorem usesB_snoc (D : List Pcl) (c : Int) (here : List Int) (i : Nat) (h : i < D.length) : usesB (D.take (i + 1)) c here = (usesB (D.take i) c here || (decide (D[i].into = c) && decide (D[i].id ∈ here))) := by
 unfold usesB
 rw [List.take_succ_eq_append_getElem h, List.any_append]
 simp
def RCChainPost (L : List Ent) (K a b : Int) (chain : List Int) (w : World) (e : Ending) (w' : World) : Prop :=
 Below w.heap.size w w' ∧ ((∃ en, FailsBy L K [a, b] en ∧ e = .returned (.tuple #[.bool false, .int .i64 en])) ∨
  (Valid (reps L) ∧ (∃ ids, IdsOf (countE L K) ids ∧ a ∈ ids ∧ b ∈ ids) ∧ e = .returned (.tuple #[.bool (decide (b ∈ hereF (countE L K) chain [a])), .int .i64 0])))
set_option maxHeartbeats 32000000 in
theorem rcheckChain_any (A : Option Addr) (cap : Nat) (L : List Ent) (Kn a b : Int) (PA : Option Addr) (pc : Nat) (chain : List Int) (w : World) (hA : EntsAt w A L) (hl : L.length ≤ 210) (hcap : L.length ≤ cap) (hz : ∀ e ∈ L, e.1.mark.size ≤ 1000000 ∧ e.1.goods.size ≤ 1000000) (hP : IntsAt w PA chain) (hcl : chain.length ≤ 1000) :
  Calls Tryz.prog 19 #[.slice A L.length cap, .int .i64 Kn, .int .i64 a, .int .i64 b, .slice PA chain.length pc] w (RCChainPost L Kn a b chain w) := by
 have HPA := hid (rpair_any A cap L Kn a b w hA hl hcap hz)
 have HEN := hid hA
 have HCH := hid hP
 have i9 : (chain.length : Int) ≤ 1000 := by omega
 clear hA hz hP
 go_enter Tryz.func19, Tryz.ntmps19
 go_wp2_with fail
 refine HPA.out.mono ?_
 rintro e w1 ⟨hb1, hcase⟩
 have HB1 := hid hb1
 rcases hcase with ⟨en, hf, rfl⟩ | ⟨hv, D, v, hpo, hia, hib, rfl, ho⟩
 ·have d0 : (en != 0) = true := bne_iff_ne.2 hf.ne
  have HF := hid hf
  clear hb1 hf HPA
  go_wp2_with fail
  go_ret2
  unfold RCChainPost
  exact ⟨HB1.out, .inl ⟨en, HF.out, rfl⟩⟩
 obtain ⟨A1, k1, rfl, hx1⟩ := ownsRow.form ho
 have hsound : Sound (reps (countE L Kn)) := by rw [countE_reps]; exact hv.sound Kn
 have hdl : D.length ≤ 1680 := by have := hpo.len; have := countE_len L Kn; omega
 have HPC : Hid (PclsAt w1 A1 D) := hid (pcls_of_cells hx1.1)
 have HPO := hid hpo
 have HSO := hid hsound
 have HIA := hid hia
 have HMV : Hid (∀ W, Below w1.heap.size w1 W → Calls Tryz.prog 59 #[.slice A L.length cap, .int .i64 Kn] W fun e w' => ∃ o v, MovesOf (countE L Kn) o ∧ e = .returned v ∧ w'.ownsRow W.heap.size 3 1 v o.length (ints o) ∧ Below W.heap.size W w') := hid (fun W hb => rmoves_any A cap L Kn W (HEN.out.below (HB1.out.trans (hb.mono HB1.out.size))) hl)
 have HCL : Hid ((countE L Kn).length ≤ 210) := hid (Nat.le_trans (countE_len L Kn) hl)
 have hfin : ∀ (T : Bool) (e : Ending) (w' : World), decide (b ∈ hereF (countE L Kn) chain [a]) = T → Below w1.heap.size w1 w' → e = .returned (.tuple #[.bool T, .int .i64 0]) → RCChainPost L Kn a b chain w e w' := fun T e w' hT hb h =>
  ⟨HB1.out.trans (hb.mono HB1.out.size), .inr ⟨hv, ⟨_, pcls_ids hsound hpo, hia, hib⟩, by rw [h, hT]⟩⟩
 have HFIN := hid hfin
 have HCH1 := hid (HCH.out.kept (Kept.of_below hb1))
 have hb1s := hb1.size
 obtain ⟨T, hT⟩ : ∃ T, decide (b ∈ hereF (countE L Kn) chain [a]) = T := ⟨_, rfl⟩
 have HT := hid hT
 obtain ⟨C, hC⟩ : ∃ C, countE L Kn = C := ⟨_, rfl⟩
 have HFT := hid (fun e w' => HFIN.out T e w' hT)
 rw [hC] at HPO HSO HT HCL
 simp only [hC] at HMV
 clear hx1 ho hb1 hpo hia hib hsound HPA hfin hT HFIN hv HEN HCH hC
 go_upto_region 6 with fail
 go_loopg [14, 15] (chain.length) (fun g v iv wr => ∃ (k : Nat) (here : List Int), k ≤ chain.length ∧ g = chain.length - k ∧ iv = .int .i64 k ∧ here.length ≤ 1680 ∧ Hid (wr.ownsRow w1.heap.size 3 1 v here.length (ints here)) ∧ Hid (∀ x ∈ here, x ∈ D.map (·.id)) ∧ Hid (decide (b ∈ hereF C (chain.drop k) here) = T) ∧ Hid (k = 0 → here = [a]) ∧ Hid (Below w1.heap.size w1 wr))
 case atStart => exact ⟨0, [a], by omega, by omega, rfl, by simp, hid (World.ownsRow_lit w1 #[.int .i64 a] 1 (Nat.le_refl _) (by decide) rfl), hid (by simpa using HIA.out), HT, hid (fun _ => rfl), hid ((Below.refl _ _).alloc (Nat.le_refl _) _)⟩
 case round =>
  obtain ⟨k, here, hk, hgk, rfl, hhl, hown, hsub, htk, hz0, hbw⟩ := hrel
  obtain ⟨Ah, kh, rfl, hxh⟩ := ownsRow.form hown.out
  have HIH := hid (ownsRow_ints hown.out)
  clear hxh
  by_cases hkl : k < chain.length
  ·obtain ⟨b9, off9, hA9, hc9⟩ := (HCH1.out.kept (Kept.of_below hbw.out)) (by omega)
   subst hA9
   have hck := hc9 k hkl
   have htk2 := htk.out
   rw [List.drop_eq_getElem_cons hkl, here_cons] at htk2
   obtain ⟨c, hc⟩ : ∃ c, chain[k] = c := ⟨_, rfl⟩
   rw [hc] at hck htk2
   have HCE := hid hc
   have HCK := hid hck
   have HTC := hid htk2
   have HNO : Hid (nextH C here c = [] → false = T) := hid (fun h => by
    rw [← HTC.out, h, here_nil]
    exact (decide_eq_false (by simp)).symm)
   have j0 : (0 : Int) ≤ k := by omega
   have j1 : (k : Int) < chain.length := by omega
   have HMC := hid (HMV.out wr.drew hbw.out.drew)
   clear hc9 hc hck htk2
   go_upto_region 8 with fail
   refine wp_region_noPanic ?_
   refine wp_region_held_drew (S := fun w' => w'.cell? ⟨b9, off9 + k, none⟩ = some (.int .i64 c)) (by kernel_rfl) (Kept.of_below (Below.refl _ wr).drew _ _ HCK.out) (fun hHeld => ?_)
   refine tk 0 (fun _ _ _ _ _ h => h) (by kernel_rfl) ‹_› ⟨_, ?_, by simp only [zz1, zz2]; rfl, .inl ⟨by rfl, ?_⟩, ?_⟩; rotate_left; · (intro w hSw; (try dsimp only at hSw); go_simp; all_goals with_reducible rfl)
   simp only [Act.put, zz4, zz5, zz6]
   refine tk 1 (fun _ _ _ _ _ h => h) (by kernel_rfl) ‹_› ⟨_, ?_, by simp only [zz1, zz2, zz3]; rfl, .inl ⟨by rfl, ?_⟩, ?_⟩; rotate_left; · (intro w hSw; (try dsimp only at hSw); go_simp; all_goals with_reducible rfl)
   simp only [Act.put, zz4, zz5, zz6]
   refine tk 3 (fun _ _ _ _ _ h => h) (by kernel_rfl) ‹_› ⟨_, ?_, by simp only [zz1, zz2, zz3]; rfl, .inl ⟨by rfl, ?_⟩, ?_⟩; rotate_left; · (intro w hSw; (try dsimp only at hSw); go_simp; all_goals with_reducible rfl)
   simp only [Act.put, zz4, zz5, zz6]
   refine tk 4 (fun _ _ _ _ _ h => h) (by kernel_rfl) ‹_› ⟨_, ?_, by simp only [zz1, zz2, zz3]; rfl, .inl ⟨by rfl, ?_⟩, ?_⟩; rotate_left; · (intro w hSw; (try dsimp only at hSw); go_simp; all_goals with_reducible rfl)
   simp only [Act.put, zz4, zz5, zz6]
   refine tk 5 (fun _ _ _ _ _ h => h) (by kernel_rfl) ‹_› ⟨_, ?_, by simp only [zz1, zz2, zz3]; rfl, .inl ⟨by rfl, ?_⟩, ?_⟩; rotate_left; · (intro w hSw; (try dsimp only at hSw); go_simp; all_goals with_reducible rfl)
   simp only [Act.put, zz4, zz5, zz6]
   refine tk 6 (fun _ _ _ _ _ h => h) (by kernel_rfl) ‹_› ⟨_, ?_, by simp only [zz1, zz2, zz3]; rfl, .inl ⟨by rfl, ?_⟩, ?_⟩; rotate_left; · (intro w hSw; (try dsimp only at hSw); go_simp; all_goals with_reducible rfl)
   simp only [Act.put, zz4, zz5, zz6]
   refine wpAnyH_ready (rs := [2]) (by kernel_rfl) (by simp) ?_
   refine cons_one (i := 2) ⟨_, by simp only [zz1, zz2, zz3]; rfl, fun K hK => ?_⟩ ?_
   rotate_left
   ·exact AllReadyH.nil
   refine step_call rfl #[.tmp 38, .tmp 39] 59 _ rfl enters_rmoves #[.slice A L.length cap, .int .i64 Kn] ?hs (fun u w' => ∃ o, MovesOf C o ∧ w'.ownsRow wr.drew.heap.size 3 1 u o.length (ints o) ∧ Below wr.drew.heap.size wr.drew w') (HMC.out.mono (fun e w' h => by obtain ⟨o, v, h1, h2, h3, h4⟩ := h; exact ⟨v, h2, o, h1, h3, h4⟩)) ?_
   case hs => simp [Act.eval]
   rintro v2 w2 ⟨o, hmo, ho2, hb2⟩
   obtain ⟨A2, k2, rfl, hxf⟩ := ownsRow.form ho2
   clear hxf
   have hol : o.length ≤ 210 := by
    have h1 := nodup_le (ys := C.map fun e => e.1.id) (hmo.1.imp (fun h => by omega)) (fun x hx => by
     obtain ⟨e, he, rfl, _⟩ := (hmo.2 x).1 hx
     exact List.mem_map.2 ⟨e, he, rfl⟩)
    rw [List.length_map] at h1
    have := HCL.out
    omega
   have HMO := hid hmo
   have HB2 := hid ((Below.refl _ wr).drew.trans hb2)
   have HW2 := hid (hbw.out.trans (HB2.out.mono hbw.out.size))
   obtain ⟨t, ht⟩ : ∃ t, decide (c ∈ o) = t := ⟨_, rfl⟩
   have hhas := has_any A2 k2 o c w2 (by omega) (ownsRow_ints ho2)
   rw [ht] at hhas
   have HHAS := hid hhas
   have HTO := hid ht
   clear hmo ho2 hb2 ht hhas HMC
   clear hHeld
   refine hK.out _ _ (Kept.of_below HB2.out _ _ HCK.out) (fun hHeld => ?_)
   clear hK K
   try simp only [Act.put, zz4, zz5, zz6]
   refine wpAnyH_ready (rs := [7]) (by kernel_rfl) (by simp) ?_
   refine cons_one (i := 7) ⟨_, by simp only [zz1, zz2, zz3]; rfl, fun K hK => ?_⟩ ?_
   rotate_left
   ·exact AllReadyH.nil
   refine step_call rfl #[.tmp 40, .tmp 44] 21 _ rfl enters_rhas #[.slice A2 o.length k2, .int .i64 c] ?hs (fun u w' => u = .bool t ∧ w' = w2) (HHAS.out.mono (fun e w' h => ⟨_, h.1, rfl, h.2⟩)) ?_
   case hs => simp [Act.eval]
   rintro _ w2 ⟨rfl, rfl⟩
   clear HHAS
   clear hHeld
   refine hK.out _ _ (Kept.of_below HB2.out _ _ HCK.out) (fun hHeld => ?_)
   clear hK K
   try simp only [Act.put, zz4, zz5, zz6]
   refine tk 8 (fun _ _ _ _ _ h => h) (by kernel_rfl) ‹_› ⟨_, ?_, by simp only [zz1, zz2, zz3]; rfl, .inl ⟨by rfl, ?_⟩, ?_⟩; rotate_left; · (intro w hSw; (try dsimp only at hSw); go_simp; all_goals with_reducible rfl)
   simp only [Act.put, zz4, zz5, zz6]
   refine wpAnyH_done (by kernel_rfl) ?_ _
   refine NoPanic.normal ?_
   rcases t with _ | _
   ·have HN := hid (HNO.out (step_no HSO.out HPO.out HMO.out (fun _ => Iff.rfl) hsub.out (.inl (of_decide_eq_false HTO.out))))
    clear hol
    go_wp2_with fail
    go_ret2
    exact HFT.out _ _ HW2.out (by have h := HN.out; subst h; rfl)
   have HOW2 := hid (own_below hown.out HB2.out)
   have HK2 := hid (Kept.of_below HB2.out _ _ HCK.out)
   clear hol
   go_upto_region 12 with fail
   go_loopg [16, 17] (D.length) (fun g uv iv wq => ∃ (i : Nat) (us : Bool), i ≤ D.length ∧ g = D.length - i ∧ iv = .int .i64 i ∧ uv = .bool us ∧ Hid (usesB (D.take i) c here = us) ∧ Hid (Below w2.heap.size w2 wq))
   case atStart => exact ⟨0, false, by omega, by omega, rfl, rfl, hid rfl, hid (Below.refl _ _)⟩
   case round =>
    obtain ⟨i, us, hi, hgi, rfl, rfl, hus, hbq⟩ := hrel
    have HWQ := hid (HW2.out.trans (hbq.out.mono HW2.out.size))
    by_cases hil : i < D.length
    ·obtain ⟨b5, off5, hA5, hc5⟩ := (HPC.out.kept (Kept.of_below HWQ.out)) (by omega)
     subst hA5
     obtain ⟨r0, r1, r2, _⟩ := prange_at (hc5 i hil)
     have hsn := usesB_snoc D c here i hil
     rw [hus.out] at hsn
     obtain ⟨r, hr⟩ : ∃ r, D[i] = r := ⟨_, rfl⟩
     rw [hr] at r0 r1 r2 hsn
     have l0 : (0 : Int) ≤ i := by omega
     have l1 : (i : Int) < D.length := by omega
     have hck := Kept.of_below hbq.out _ _ HK2.out
     have HIQ := hid (HIH.out.kept (Kept.of_below (HB2.out.trans (hbq.out.mono HB2.out.size))))
     clear hc5 hr r1
     rcases us with _ | _
     case true =>
      rw [Bool.true_or] at hsn
      have HSN := hid hsn
      clear hsn r0 r2
      go_upto_region 14 with fail
      go_quiet (fail)
      go_wp2_with fail
      go_roundg (D.length - (i + 1))
      case measure => omega
      case rel => exact ⟨i + 1, true, by omega, rfl, by go_num, rfl, HSN, hid (Below.drewN' hbq.out _)⟩
     case false =>
      rw [Bool.false_or] at hsn
      by_cases he : r.into = c
      rotate_left
      ·have de : (r.into == c) = false := beq_eq_false_iff_ne.2 he
       rw [decide_eq_false he, Bool.false_and] at hsn
       have HSN := hid hsn
       clear hsn he r0
       go_upto_region 14 with fail
       go_quiet (fail)
       go_wp2_with fail
       go_roundg (D.length - (i + 1))
       case measure => omega
       case rel => exact ⟨i + 1, false, by omega, rfl, by go_num, rfl, HSN, hid (Below.drewN' hbq.out _)⟩
      have de : (r.into == c) = true := beq_iff_eq.2 he
      rw [decide_eq_true he, Bool.true_and] at hsn
      obtain ⟨t, ht⟩ : ∃ t, decide (r.id ∈ here) = t := ⟨_, rfl⟩
      rw [ht] at hsn
      have HSN := hid hsn
      have HTT := hid ht
      clear hsn he ht
      go_upto_region 14 with fail
      go_quiet ((go_at_call 21; refine Calls.quietly (has_q Ah kh here r.id _ (by omega) (HIQ.out.kept (Kept.of_below (Below.drewN' (Below.refl _ _) _))) HTT.out)))
      go_wp2_with fail
      go_roundg (D.length - (i + 1))
      case measure => omega
      case rel => exact ⟨i + 1, t, by omega, rfl, by go_num, rfl, HSN, hid (Below.drewN' hbq.out _)⟩
    ·obtain rfl : i = D.length := by omega
     have hus2 := hus.out
     rw [List.take_length] at hus2
     rcases us with _ | _
     ·have HN : Hid (false = T) := hid (HNO.out (step_no HSO.out HPO.out HMO.out (fun _ => Iff.rfl) hsub.out (.inr (fun q hq he hm => by
       have h1 := List.any_eq_false.1 hus2 q hq
       rw [decide_eq_true he, decide_eq_true hm] at h1
       exact h1 rfl))))
      clear hus2
      go_wp2_with fail
      go_ret2
      exact HFT.out _ _ HWQ.out (by have h := HN.out; subst h; rfl)
     have HYES : Hid (∀ x, x ∈ fromL D c ↔ x ∈ nextH C here c) := hid (step_yes HSO.out HPO.out HMO.out (fun _ => Iff.rfl) (of_decide_eq_true HTO.out) (by
      obtain ⟨q, hq, h1⟩ := List.any_eq_true.1 hus2
      rw [Bool.and_eq_true] at h1
      exact ⟨q, hq, of_decide_eq_true h1.1, of_decide_eq_true h1.2⟩))
     obtain ⟨V, hV⟩ : ∃ V, V = wr := ⟨_, rfl⟩
     subst hV
     clear hus2
     go_upto_region 19 with fail
     go_loopg [14, 18] (D.length) (fun g v iv wq2 => ∃ i : Nat, i ≤ D.length ∧ g = D.length - i ∧ iv = .int .i64 i ∧ Hid (wq2.ownsRow w1.heap.size 3 1 v (fromL (D.take i) c).length (ints (fromL (D.take i) c))) ∧ Hid (Below w1.heap.size w1 wq2))
     case atStart => exact ⟨0, by omega, by omega, rfl, hid (World.ownsRow_nil _ _ _ _), HWQ⟩
     case round =>
      obtain ⟨i, hi2, hgi2, rfl, hown3, hbx⟩ := hrel
      by_cases hil : i < D.length
      ·obtain ⟨b5, off5, hA5, hc5⟩ := (HPC.out.kept (Kept.of_below hbx.out)) (by omega)
       subst hA5
       obtain ⟨r0, r1, r2, _⟩ := prange_at (hc5 i hil)
       have hsn : fromL (D.take (i + 1)) c = fromL (D.take i) c ++ if D[i].from_ = c then [D[i].id] else [] := by rw [List.take_succ_eq_append_getElem hil, fromL_snoc]
       have hfl : (fromL (D.take i) c).length ≤ 1680 := by
        have : (fromL (D.take i) c).length ≤ (D.take i).length := by unfold fromL; rw [List.length_map]; exact List.length_filter_le _ _
        rw [List.length_take] at this
        omega
       obtain ⟨r, hr⟩ : ∃ r, D[i] = r := ⟨_, rfl⟩
       rw [hr] at r0 r1 r2 hsn
       obtain ⟨fl, hfl2⟩ : ∃ l, fromL (D.take i) c = l := ⟨_, rfl⟩
       rw [hfl2] at hsn hown3 hfl
       have l0 : (0 : Int) ≤ i := by omega
       have l1 : (i : Int) < D.length := by omega
       obtain ⟨b8, off8, hA8, hc8⟩ := (HCH1.out.kept (Kept.of_below hbx.out)) (by omega)
       cases hA8
       have hck := hc8 k hkl
       have hcc := HCE.out
       rw [hcc] at hck
       clear hc5 hc8 hr r2 hfl2 hcc
       by_cases he : r.from_ = c
       ·have de : (r.from_ == c) = true := beq_iff_eq.2 he
        rw [if_pos he] at hsn
        have HSN := hid hsn
        have HR0 : Hid (∀ n, (wr.drewN n).cell? ⟨b5, off5 + i * 12, none⟩ = some (.int .i64 r.id)) := hid (fun n => Kept.of_below (Below.drewN' (Below.refl _ wr) n) _ _ r0)
        have HAP := hid (fun n => app_one2 r.id (own_below hown3.out (Below.drewN' (Below.refl _ wr) n)) (by omega) (Below.drewN' hbx.out n).size)
        clear hsn he r0
        go_upto_region 21 with fail
        go_quiet (fail)
        have hr0 := HR0.out nq
        obtain ⟨v4, w4, hr4, ho4, hb4⟩ := HAP.out nq
        have HR4 := hid hr4
        have HO4 := hid ho4
        have HB4 := hid ((Below.drewN' hbx.out nq).trans hb4)
        clear hr4 ho4 hb4 HAP HR0 r1 hck
        go_wp2_with (first | (at_builtin; refine wpList_app rfl rfl rfl rfl rfl HR4.out ?_))
        go_roundg (D.length - (i + 1))
        case measure => omega
        case rel => exact ⟨i + 1, by omega, rfl, by go_num, hid (by rw [HSN.out]; exact HO4.out), HB4⟩
       ·have de : (r.from_ == c) = false := beq_eq_false_iff_ne.2 he
        rw [if_neg he, List.append_nil] at hsn
        have HSN := hid hsn
        clear hsn he r0
        go_upto_region 21 with fail
        go_quiet (fail)
        go_wp2_with fail
        go_roundg (D.length - (i + 1))
        case measure => omega
        case rel => exact ⟨i + 1, by omega, rfl, by go_num, hid (by rw [HSN.out]; exact own_below hown3.out (Below.drewN' (Below.refl _ wr) _)), hid (Below.drewN' hbx.out _)⟩
      ·obtain rfl : i = D.length := by omega
       have hown4 := hown3.out
       rw [List.take_length] at hown4
       have HO4 := hid hown4
       have hfl : (fromL D c).length ≤ 1680 := by
        have : (fromL D c).length ≤ D.length := by unfold fromL; rw [List.length_map]; exact List.length_filter_le _ _
        omega
       clear hown4
       go_wp2_with fail
       go_roundg (chain.length - (k + 1))
       case measure => omega
       case rel => exact ⟨k + 1, fromL D c, by omega, rfl, by go_num, hfl, HO4, hid (fun x hx => by
        obtain ⟨q, hq, rfl, _⟩ := mem_fromL.1 hx
        exact List.mem_map_of_mem hq), hid (by
        rw [← HTC.out, decide_eq_decide]
        exact here_same _ HYES.out), hid (fun h => by omega), hbx⟩
  ·obtain rfl : k = chain.length := by omega
   have htk2 := htk.out
   rw [List.drop_length] at htk2
   have htk2 : decide (b ∈ here) = T := htk2
   have HHA := hid (has_any Ah kh here b wr (by omega) HIH.out)
   rw [htk2] at HHA
   have HBE : Hid (T = true → chain.length = 0 → a = b) := hid (fun h1 h2 => by
    rw [h1, hz0.out h2] at htk2
    have := of_decide_eq_true htk2
    rw [List.mem_singleton] at this
    exact this.symm)
   clear htk2
   go_wp2_with fail
   refine HHA.out.mono ?_
   rintro e w5 ⟨rfl, rfl⟩
   clear HHA
   rcases T with _ | _
   ·go_wp2_with fail
    go_ret2
    exact HFT.out _ _ hbw.out rfl
   ·by_cases h0 : chain.length = 0
    ·have hab := HBE.out rfl h0
     subst hab
     go_wp2_with fail
     go_ret2
     exact HFT.out _ _ hbw.out rfl
    ·have d0 : 0 < chain.length := by omega
     clear h0
     go_wp2_with fail
     go_ret2
     exact HFT.out _ _ hbw.out rfl
end Go.Proofs.YtfaoillnakhejaaGreat
