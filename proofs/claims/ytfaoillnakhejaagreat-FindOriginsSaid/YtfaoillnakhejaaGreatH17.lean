/- The reference: Origins, Remains. -/
import Derived.Test.YtfaoillnakhejaaGreatH16
import Derived.Test.YtfaoillnakhejaaGreatH13
import Derived.Test.YtfaoillnakhejaaGreatG13
namespace Go.Proofs.YtfaoillnakhejaaGreat
set_option maxRecDepth 100000
open Go.RowKit
set_option maxHeartbeats 16000000 in
theorem rorigins_any (A : Option Addr) (cap : Nat) (L : List Ent) (K p : Int) (w : World) (hA : EntsAt w A L) (hl : L.length ≤ 210) (hcap : L.length ≤ cap) (hz : ∀ e ∈ L, e.1.mark.size ≤ 1000000 ∧ e.1.goods.size ≤ 1000000) :
  Calls Tryz.prog 12 #[.slice A L.length cap, .int .i64 K, .int .i64 p] w (RSearchPost finO Pcl.from_ Pcl.into L K p w) := by
 have HPA := hid (rparcels_any A cap L K w hA hl hcap hz)
 clear hA hz
 go_enter Tryz.func12, Tryz.ntmps12
 go_wp2_with fail
 refine HPA.out.mono ?_
 rintro e w1 ⟨hb1, hcase⟩
 have HB1 := hid hb1
 rcases hcase with ⟨i, en, hck, hne, rfl⟩ | ⟨hv, D, v, hpo, rfl, ho⟩
 ·have d0 : (en != 0) = true := bne_iff_ne.2 hne
  have HCK := hid hck
  have HNE := hid hne
  clear hb1 hck hne
  go_wp2_with fail
  go_ret2
  unfold RSearchPost
  exact ⟨HB1.out, .inl ⟨i, en, HCK.out, HNE.out, rfl⟩⟩
 obtain ⟨A1, k1, rfl, hx1⟩ := ownsRow.form ho
 have HPC : Hid (PclsAt w1 A1 D) := hid (pcls_of_cells hx1.1)
 have HPO := hid hpo
 have HV := hid hv
 have hdl : D.length ≤ 1680 := by have := hpo.len; have := countE_len L K; omega
 have hb1s := hb1.size
 clear hx1 ho hb1 hpo hv HPA
 have HOF := hid (rof_any A1 k1 D p w1 HPC.out (by omega))
 go_wp2_with fail
 refine HOF.out.mono ?_
 rintro e w1 ⟨⟨i, rfl, hi⟩, rfl⟩
 rcases hi with ⟨rfl, hno⟩ | ⟨k0, hk0, rfl, hyes⟩
 ·have HNO : Hid (p ∉ D.map (·.id)) := hid (fun h => by
   obtain ⟨q, hq, he⟩ := List.mem_map.1 h
   exact hno q hq he)
  clear hno
  go_wp2_with fail
  go_ret2
  unfold RSearchPost
  exact ⟨HB1.out, .inr ⟨HV.out, D, HPO.out, .inl ⟨HNO.out, rfl⟩⟩⟩
 have HIN : Hid (p ∈ D.map (·.id)) := hid (List.mem_map.2 ⟨_, List.getElem_mem hk0, hyes⟩)
 have kn : ¬ (k0 : Int) < 0 := by omega
 obtain ⟨nx, hnx⟩ : ∃ nx, nxL D (gP finO Pcl.from_ Pcl.into D) = nx := ⟨_, rfl⟩
 have HNX := hid hnx
 have HLEN : Hid (∀ o at_, Wl nx p o at_ → o.length ≤ D.length + 1) := hid (fun o at_ h => by
  rw [← hnx] at h
  exact Wl.len (f := Pcl.id) gP_id h)
 have HNI : Hid (∀ x y, y ∈ nx x → y ∈ D.map (·.id)) := hid (fun x y h => by
  rw [← hnx] at h
  obtain ⟨a, ha, hg⟩ := List.mem_filterMap.1 h
  exact List.mem_map.2 ⟨a, ha, gP_id _ _ _ hg⟩)
 clear hyes HOF hnx hk0
 go_upto_region 9 with fail
 go_loopg [10, 11, 12] (D.length + 1) (fun g v u i wr => ∃ (at_ : Nat) (o ys : List Int), at_ ≤ o.length ∧ g = D.length + 1 - at_ ∧ i = .int .i64 at_ ∧ Hid (wr.ownsRow w1.heap.size 3 1 v o.length (ints o)) ∧ Hid (wr.ownsRow w1.heap.size 3 1 u ys.length (ints ys)) ∧ Hid (Ap v u) ∧ Hid (Wl nx p o at_) ∧ Hid (∀ x ∈ o, x ∈ D.map (·.id)) ∧ Hid (ys = (o.take at_).filter (fun x => finO (pof D x))) ∧ Hid (Below w1.heap.size w1 wr))
 case atStart => exact ⟨0, [p], [], by simp, by omega, rfl, hid (World.ownsRow_lit w1 #[.int .i64 p] 1 (Nat.le_refl _) (by decide) rfl), hid (World.ownsRow_nil _ _ _ _), hid (.inl rfl), hid (Wl.start _ _), hid (by simpa using HIN.out), hid rfl, hid ((Below.refl _ _).alloc (Nat.le_refl _) _)⟩
 case round =>
  obtain ⟨at_, o, ys, hat, hgk, rfl, hown, hout, hap, hwl, hin, hys, hbw⟩ := hrel
  have hol := HLEN.out o at_ hwl.out
  have hyl : ys.length ≤ o.length := by
   rw [hys.out]
   refine Nat.le_trans (List.length_filter_le _ _) ?_
   rw [List.length_take]
   omega
  obtain ⟨gb, cp, rfl, hgb, hcp⟩ := own_slice hown.out (List.length_pos_of_mem hwl.out.head)
  obtain ⟨Au, ku, rfl, hxu⟩ := ownsRow.form hout.out
  clear hxu
  by_cases hlt : at_ < o.length
  ·obtain ⟨V, hV⟩ : ∃ V, V = wr := ⟨_, rfl⟩
   subst hV
   have a0 : (0 : Int) ≤ at_ := by omega
   have a1 : (at_ : Int) < o.length := by omega
   obtain ⟨x0, hx0⟩ : ∃ x, o[at_] = x := ⟨_, rfl⟩
   have hx0' : o[at_]? = some x0 := by rw [List.getElem?_eq_getElem hlt, hx0]
   have HWI := hid (hwl.out.begin hx0')
   have htk : o.take (at_ + 1) = o.take at_ ++ [x0] := by rw [List.take_succ_eq_append_getElem hlt, hx0]
   have HTK := hid htk
   obtain ⟨b5, off5, hAe5, hc5⟩ := (ownsRow_ints hown.out) (by omega)
   cases hAe5
   have hca := hc5 at_ hlt
   rw [hx0, Nat.zero_add] at hca
   have hxin := hin.out x0 (by rw [← hx0]; exact List.getElem_mem hlt)
   have HOX := hid (rof_any A1 k1 D x0 V (HPC.out.kept (Kept.of_below hbw.out)) (by omega))
   have HXIN := hid hxin
   clear hc5 hx0 hx0' htk hxin
   go_wp2_with fail
   refine HOX.out.mono ?_
   rintro e V ⟨⟨i, rfl, hi⟩, rfl⟩
   rcases hi with ⟨_, hno⟩ | ⟨k, hk, rfl, hyes⟩
   ·obtain ⟨q, hq, he⟩ := List.mem_map.1 HXIN.out
    exact absurd he (hno q hq)
   obtain ⟨b, off, hAe, hc⟩ := (HPC.out.kept (Kept.of_below hbw.out)) (by omega)
   subst hAe
   have hrange := hc k hk
   have hpf := pof_at HPO.out.ids hk hyes
   obtain ⟨q0, hq0⟩ : ∃ q, D[k] = q := ⟨_, rfl⟩
   rw [hq0] at hrange hpf hyes
   have HR := hid hrange
   have HPF := hid hpf
   have HID := hid hyes
   have i0 : (0 : Int) ≤ k := by omega
   have i1 : (k : Int) < D.length := by omega
   clear hc hrange hpf hyes hq0
   go_upto_region 12 with (first | refine load_pcl_mid rfl _ rfl _ _ rfl HR.out ?_ | (refine store_pcl_new rfl _ _ rfl rfl rfl (q := q0) rfl rfl ?_; intro W2 hbx2 hb2 hlt2; have HX2 := hid hbx2; have HB2 := hid (hbw.out.trans (hb2.mono hbw.out.size)); have HOW2 := hid (own_below hown.out hb2); have HOU2 := hid (own_below hout.out hb2); clear hbx2 hb2))
   obtain ⟨p0, _, p2, _, _, _, _, _, _, _, p10, _⟩ := HX2.out.at_
   obtain ⟨fb, hfb⟩ : ∃ t, finO q0 = t := ⟨_, rfl⟩
   have HFB := hid hfb
   unfold finO at hfb
   rw [hfb] at p10
   rcases fb with _ | _
   case true =>
    have HYS : Hid (ys ++ [q0.id] = (o.take (at_ + 1)).filter (fun x => finO (pof D x))) := hid (by rw [HTK.out, List.filter_append, ← hys.out, HID.out]; simp [HPF.out, HFB.out])
    have HWN : Hid (Wl nx p o (at_ + 1)) := hid (HWI.out.next (by rw [← HNX.out, gP_fin (by rw [HPF.out]; exact HFB.out)]))
    obtain ⟨v4, w4, hr4, ho4, hu4, hap4, hb4, _⟩ := app_int2 q0.id HOU2.out HOW2.out hap.out.symm (by omega) HB2.out.size
    have HR4 := hid hr4
    have HO4 := hid ho4
    have HU4 := hid hu4
    have HA4 := hid hap4.symm
    have HB4 := hid (HB2.out.trans hb4)
    have hgg : at_ ≤ D.length := by omega
    go_upto_region 13 with fail
    clear hr4 ho4 hu4 hap4 hb4 p2 p10
    go_wp2_with (first | (at_builtin; refine wpList_app rfl rfl rfl rfl rfl HR4.out ?_))
    go_roundg (D.length + 1 - (at_ + 1))
    case measure => omega
    case rel => exact ⟨at_ + 1, o, ys ++ [q0.id], by omega, rfl, by go_num, HU4, HO4, HA4, HWN, hin, HYS, HB4⟩
   case false =>
    have HYS : Hid (∀ o2 : List Int, o2.take at_ = o.take at_ → o2[at_]? = some x0 → ys = (o2.take (at_ + 1)).filter (fun x => finO (pof D x))) := hid (fun o2 h1 h2 => by
     have hlt2 := (List.getElem?_eq_some_iff.1 h2).1
     have h3 := (List.getElem?_eq_some_iff.1 h2).2
     rw [List.take_succ_eq_append_getElem hlt2, h3, h1, List.filter_append, ← hys.out]
     simp [HPF.out, HFB.out])
    have HGN : Hid (∀ q, gP finO Pcl.from_ Pcl.into D x0 q = if q.into = q0.from_ then some q.id else none) := hid (fun q => by
     unfold gP
     rw [HPF.out, if_neg (by rw [HFB.out]; decide)])
    clear p0 p2 hlt
    go_upto_region 15 with fail
    clear p10
    go_loopg [10, 14] (D.length) (fun g v i wq => ∃ (m : Nat) (o2 : List Int), m ≤ D.length ∧ g = D.length - m ∧ i = .int .i64 m ∧ Hid (wq.ownsRow w1.heap.size 3 1 v o2.length (ints o2)) ∧ Hid (wq.ownsRow w1.heap.size 3 1 (.slice Au ys.length ku) ys.length (ints ys)) ∧ Hid (Ap v (.slice Au ys.length ku)) ∧ Hid (Wi nx p o2 at_ x0 (nxL (D.take m) (gP finO Pcl.from_ Pcl.into D) x0)) ∧ Hid (∀ x ∈ o2, x ∈ D.map (·.id)) ∧ Hid (o2.take at_ = o.take at_) ∧ Hid (PclIs wq V.heap.size q0) ∧ Hid (Below w1.heap.size w1 wq))
    case atStart => exact ⟨0, o, by omega, by omega, rfl, HOW2, HOU2, hap, HWI, hin, hid rfl, HX2, HB2⟩
    case round =>
     obtain ⟨m, o2, hm, hgm, rfl, hown2, hout2, hap2, hwi, hin2, htk2, hx2, hbq⟩ := hrel
     have hol2 := HLEN.out o2 at_ hwi.out.wl
     obtain ⟨g2, cp2, rfl, hg2, hcp2⟩ := own_slice hown2.out (List.length_pos_of_mem hwi.out.wl.head)
     have hnb : g2 ≠ V.heap.size := fun e => by
      rcases hown2.out.2 with ⟨h1, _⟩ | ⟨g9, cap9, cur9, h1, _, h2, _⟩
      ·cases h1
      ·cases h1
       have h3 := hx2.out
       unfold PclIs at h3
       rw [← e, h2] at h3
       cases h3
     by_cases hml : m < D.length
     ·obtain ⟨b9, off9, hAe9, hc9⟩ := (HPC.out.kept (Kept.of_below hbq.out)) (by omega)
      cases hAe9
      obtain ⟨r0, r1, r2, _⟩ := prange_at (hc9 m hml)
      have hn0 := fun h => nx_none (g := gP finO Pcl.from_ Pcl.into D) (x := x0) hml h
      have hn1 := fun y h => nx_some (g := gP finO Pcl.from_ Pcl.into D) (x := x0) (y := y) hml h
      have hn2 := fun y h => nx_mem (g := gP finO Pcl.from_ Pcl.into D) (x := x0) (y := y) hml h
      rw [HNX.out] at hn2
      have hg := HGN.out D[m]
      obtain ⟨r, hr⟩ : ∃ x, D[m] = x := ⟨_, rfl⟩
      rw [hr] at r0 r1 r2 hn0 hn1 hn2 hg
      have HN0 := hid hn0
      have HN1 := hid hn1
      have HN2 := hid hn2
      have HG := hid hg
      have j0 : (0 : Int) ≤ m := by omega
      have j1 : (m : Int) < D.length := by omega
      have HR0 := hid r0
      have HRK := hid r2
      have hcx := hx2.out.at_.2.1
      have HCX := hid hcx
      clear hc9 hn0 hn1 hn2 hg hr r0 r1 r2 hcx
      by_cases he : r.into = q0.from_
      ·have de : (r.into == q0.from_) = true := beq_iff_eq.2 he
       have HGS : Hid (gP finO Pcl.from_ Pcl.into D x0 r = some r.id) := hid (by rw [HG.out, if_pos he])
       obtain ⟨t, ht⟩ : ∃ t, decide (r.id ∈ o2) = t := ⟨_, rfl⟩
       have hhas := has_any (some ⟨g2, 0, none⟩) cp2 o2 r.id wr.drew (by omega) ((ownsRow_ints hown2.out).kept (Kept.of_below (Below.refl _ wr).drew))
       rw [ht] at hhas
       have HHAS := hid hhas
       have HT := hid ht
       clear he ht hhas
       go_upto_region 17 with fail
       refine wp_region_noPanic ?_
       refine wp_region_held_drew (S := fun w' => w'.cell? ⟨b, off + m * 12, none⟩ = some (.int .i64 r.id) ∧ w'.cell? ⟨b, off + m * 12 + 2, none⟩ = some (.int .i64 (r.into)) ∧ w'.cell? ⟨V.heap.size, 1, none⟩ = some (.int .i64 (q0.from_))) (by kernel_rfl) (⟨HR0.out, HRK.out, HCX.out⟩) (fun hHeld => ?_)
       refine tk 0 (fun _ _ _ _ _ h => h) (by kernel_rfl) ‹_› ⟨_, ?_, by simp only [zz1, zz2]; rfl, .inl ⟨by rfl, ?_⟩, ?_⟩; rotate_left; · (intro w hSw; (try dsimp only at hSw); go_simp; all_goals with_reducible rfl)
       simp only [Act.put, zz4, zz5, zz6]
       refine tk 1 (fun _ _ _ _ _ h => h) (by kernel_rfl) ‹_› ⟨_, ?_, by simp only [zz1, zz2, zz3]; rfl, .inl ⟨by rfl, ?_⟩, ?_⟩; rotate_left; · (intro w hSw; (try dsimp only at hSw); go_simp; all_goals with_reducible rfl)
       simp only [Act.put, zz4, zz5, zz6]
       refine tk 2 (fun _ _ _ _ _ h => h) (by kernel_rfl) ‹_› ⟨_, ?_, by simp only [zz1, zz2, zz3]; rfl, .inl ⟨by rfl, ?_⟩, ?_⟩; rotate_left; · (intro w hSw; (try dsimp only at hSw); go_simp; all_goals with_reducible rfl)
       simp only [Act.put, zz4, zz5, zz6]
       refine tk 3 (fun _ _ _ _ _ h => h) (by kernel_rfl) ‹_› ⟨_, ?_, by simp only [zz1, zz2, zz3]; rfl, .inl ⟨by rfl, ?_⟩, ?_⟩; rotate_left; · (intro w hSw; (try dsimp only at hSw); go_simp; all_goals with_reducible rfl)
       simp only [Act.put, zz4, zz5, zz6]
       refine tk 4 (fun _ _ _ _ _ h => h) (by kernel_rfl) ‹_› ⟨_, ?_, by simp only [zz1, zz2, zz3]; rfl, .inl ⟨by rfl, ?_⟩, ?_⟩; rotate_left; · (intro w hSw; (try dsimp only at hSw); go_simp; all_goals with_reducible rfl)
       simp only [Act.put, zz4, zz5, zz6]
       refine tk 5 (fun _ _ _ _ _ h => h) (by kernel_rfl) ‹_› ⟨_, ?_, by simp only [zz1, zz2, zz3]; rfl, .inl ⟨by rfl, ?_⟩, ?_⟩; rotate_left; · (intro w hSw; (try dsimp only at hSw); go_simp; all_goals with_reducible rfl)
       simp only [Act.put, zz4, zz5, zz6]
       refine tk 6 (fun _ _ _ _ _ h => h) (by kernel_rfl) ‹_› ⟨_, ?_, by simp only [zz1, zz2, zz3]; rfl, .inl ⟨by rfl, ?_⟩, ?_⟩; rotate_left; · (intro w hSw; (try dsimp only at hSw); go_simp; all_goals with_reducible rfl)
       simp only [Act.put, zz4, zz5, zz6]
       refine tk 7 (fun _ _ _ _ _ h => h) (by kernel_rfl) ‹_› ⟨_, ?_, by simp only [zz1, zz2, zz3]; rfl, .inl ⟨by rfl, ?_⟩, ?_⟩; rotate_left; · (intro w hSw; (try dsimp only at hSw); go_simp; all_goals with_reducible rfl)
       simp only [Act.put, zz4, zz5, zz6]
       refine tk 8 (fun _ _ _ _ _ h => h) (by kernel_rfl) ‹_› ⟨_, ?_, by simp only [zz1, zz2, zz3]; rfl, .inl ⟨by rfl, ?_⟩, ?_⟩; rotate_left; · (intro w hSw; (try dsimp only at hSw); go_simp; all_goals with_reducible rfl)
       simp only [Act.put, zz4, zz5, zz6]
       refine tk 9 (fun _ _ _ _ _ h => h) (by kernel_rfl) ‹_› ⟨_, ?_, by simp only [zz1, zz2, zz3]; rfl, .inl ⟨by rfl, ?_⟩, ?_⟩; rotate_left; · (intro w hSw; (try dsimp only at hSw); go_simp; all_goals with_reducible rfl)
       simp only [Act.put, zz4, zz5, zz6]
       refine tk 10 (fun _ _ _ _ _ h => h) (by kernel_rfl) ‹_› ⟨_, ?_, by simp only [zz1, zz2, zz3]; rfl, .inl ⟨by rfl, ?_⟩, ?_⟩; rotate_left; · (intro w hSw; (try dsimp only at hSw); go_simp; all_goals with_reducible rfl)
       simp only [Act.put, zz4, zz5, zz6]
       refine tk 11 (fun _ _ _ _ _ h => h) (by kernel_rfl) ‹_› ⟨_, ?_, by simp only [zz1, zz2, zz3]; rfl, .inl ⟨by rfl, ?_⟩, ?_⟩; rotate_left; · (intro w hSw; (try dsimp only at hSw); go_simp; all_goals with_reducible rfl)
       simp only [Act.put, zz4, zz5, zz6]
       refine tk 12 (fun _ _ _ _ _ h => h) (by kernel_rfl) ‹_› ⟨_, ?_, by simp only [zz1, zz2, zz3]; rfl, .inl ⟨by rfl, ?_⟩, ?_⟩; rotate_left; · (intro w hSw; (try dsimp only at hSw); go_simp; all_goals with_reducible rfl)
       simp only [Act.put, zz4, zz5, zz6]
       refine tk 13 (fun _ _ _ _ _ h => h) (by kernel_rfl) ‹_› ⟨_, ?_, by simp only [zz1, zz2, zz3]; rfl, .inl ⟨by rfl, ?_⟩, ?_⟩; rotate_left; · (intro w hSw; (try dsimp only at hSw); go_simp; all_goals with_reducible rfl)
       simp only [Act.put, zz4, zz5, zz6]
       refine tk 14 (fun _ _ _ _ _ h => h) (by kernel_rfl) ‹_› ⟨_, ?_, by simp only [zz1, zz2, zz3]; rfl, .inl ⟨by rfl, ?_⟩, ?_⟩; rotate_left; · (intro w hSw; (try dsimp only at hSw); go_simp; all_goals with_reducible rfl)
       simp only [Act.put, zz4, zz5, zz6]
       refine wpAnyH_ready (rs := [15]) (by kernel_rfl) (by simp) ?_
       refine cons_one (i := 15) ⟨_, by simp only [zz1, zz2, zz3]; rfl, fun K hK => ?_⟩ ?_
       rotate_left
       ·exact AllReadyH.nil
       refine step_callg (by rfl) #[.tmp 67, .tmp 72] 21 _ rfl enters_rhas #[.slice (some ⟨g2, 0, none⟩) o2.length cp2, .int .i64 r.id] ?hs (fun u w' => u = .bool t ∧ w' = wr.drew) (HHAS.out.mono (fun e w' h => ⟨_, h.1, rfl, h.2⟩)) ?_
       case hs => simp [Act.eval]
       rintro _ _ ⟨rfl, rfl⟩
       clear hHeld
       refine hK.out _ _ (⟨HR0.out, HRK.out, HCX.out⟩) (fun hHeld => ?_)
       clear hK K
       try simp only [Act.put, zz4, zz5, zz6]
       refine tk 16 (fun _ _ _ _ _ h => h) (by kernel_rfl) ‹_› ⟨_, ?_, by simp only [zz1, zz2, zz3]; rfl, .inl ⟨by rfl, ?_⟩, ?_⟩; rotate_left; · (intro w hSw; (try dsimp only at hSw); go_simp; all_goals with_reducible rfl)
       simp only [Act.put, zz4, zz5, zz6]
       refine tk 17 (fun _ _ _ _ _ h => h) (by kernel_rfl) ‹_› ⟨_, ?_, by simp only [zz1, zz2, zz3]; rfl, .inl ⟨by rfl, ?_⟩, ?_⟩; rotate_left; · (intro w hSw; (try dsimp only at hSw); go_simp; all_goals with_reducible rfl)
       simp only [Act.put, zz4, zz5, zz6]
       refine wpAnyH_done (by kernel_rfl) ?_ _
       refine NoPanic.normal ?_
       rcases t with _ | _
       ·obtain ⟨v4, w4, hrn, ho4, hu4, hap4, hb4, hkp4⟩ := app_int2 r.id (w := wr.drew) hown2.out hout2.out hap2.out (by omega) (show w1.heap.size ≤ wr.drew.heap.size from hbq.out.size)
        have hbx := hx2.out.lt
        have HRN := hid hrn
        have HO4 := hid ho4
        have HU4 := hid hu4
        have HA4 := hid hap4
        have HB4 := hid (hbq.out.drew.trans hb4)
        have r0 := HR0.out
        have HNEW := hid (hwi.out.new (of_decide_eq_false HT.out) (HN2.out _ HGS.out))
        have HIN4 : Hid (∀ x ∈ o2 ++ [r.id], x ∈ D.map (·.id)) := hid (fun x hx => by
         rcases List.mem_append.1 hx with h | h
         ·exact hin2.out x h
         ·rw [List.mem_singleton] at h
          subst h
          exact HNI.out _ _ (HN2.out _ HGS.out))
        have hat2 : at_ < o2.length := (List.getElem?_eq_some_iff.1 hwi.out.here).1
        have HTK4 : Hid ((o2 ++ [r.id]).take at_ = o.take at_) := hid (by rw [List.take_append_of_le_length (by omega)]; exact htk2.out)
        have HX4 : Hid (PclIs w4 V.heap.size q0) := hid ((hkp4 _ hbx (by simpa [Value.ownBlock] using hnb)).trans hx2.out)
        clear hrn ho4 hu4 hap4 hb4 hat2 hbx hkp4
        go_wp2_with (first | (at_builtin; refine wpList_app rfl rfl rfl rfl rfl HRN.out ?_))
        go_roundg (D.length - (m + 1))
        case measure => omega
        case rel => exact ⟨m + 1, o2 ++ [r.id], by omega, rfl, by go_num, HO4, HU4, HA4, hid (by rw [HN1.out _ HGS.out]; exact HNEW.out), HIN4, HTK4, HX4, HB4⟩
       ·go_wp2_with fail
        go_roundg (D.length - (m + 1))
        case measure => omega
        case rel => exact ⟨m + 1, o2, by omega, rfl, by go_num, hown2, hout2, hap2, hid (by rw [HN1.out _ HGS.out]; exact hwi.out.old (of_decide_eq_true HT.out)), hin2, htk2, hx2, hid hbq.out.drew⟩
      ·have de : (r.into == q0.from_) = false := beq_eq_false_iff_ne.2 he
       have HGS : Hid (gP finO Pcl.from_ Pcl.into D x0 r = none) := hid (by rw [HG.out, if_neg he])
       clear he
       go_upto_region 17 with fail
       refine wp_region_noPanic ?_
       refine wp_region_held_drew (S := fun w' => w'.cell? ⟨b, off + m * 12, none⟩ = some (.int .i64 r.id) ∧ w'.cell? ⟨b, off + m * 12 + 2, none⟩ = some (.int .i64 (r.into)) ∧ w'.cell? ⟨V.heap.size, 1, none⟩ = some (.int .i64 (q0.from_))) (by kernel_rfl) (⟨HR0.out, HRK.out, HCX.out⟩) (fun hHeld => ?_)
       refine tk 0 (fun _ _ _ _ _ h => h) (by kernel_rfl) ‹_› ⟨_, ?_, by simp only [zz1, zz2]; rfl, .inl ⟨by rfl, ?_⟩, ?_⟩; rotate_left; · (intro w hSw; (try dsimp only at hSw); go_simp; all_goals with_reducible rfl)
       simp only [Act.put, zz4, zz5, zz6]
       refine tk 1 (fun _ _ _ _ _ h => h) (by kernel_rfl) ‹_› ⟨_, ?_, by simp only [zz1, zz2, zz3]; rfl, .inl ⟨by rfl, ?_⟩, ?_⟩; rotate_left; · (intro w hSw; (try dsimp only at hSw); go_simp; all_goals with_reducible rfl)
       simp only [Act.put, zz4, zz5, zz6]
       refine tk 2 (fun _ _ _ _ _ h => h) (by kernel_rfl) ‹_› ⟨_, ?_, by simp only [zz1, zz2, zz3]; rfl, .inl ⟨by rfl, ?_⟩, ?_⟩; rotate_left; · (intro w hSw; (try dsimp only at hSw); go_simp; all_goals with_reducible rfl)
       simp only [Act.put, zz4, zz5, zz6]
       refine tk 3 (fun _ _ _ _ _ h => h) (by kernel_rfl) ‹_› ⟨_, ?_, by simp only [zz1, zz2, zz3]; rfl, .inl ⟨by rfl, ?_⟩, ?_⟩; rotate_left; · (intro w hSw; (try dsimp only at hSw); go_simp; all_goals with_reducible rfl)
       simp only [Act.put, zz4, zz5, zz6]
       refine tk 4 (fun _ _ _ _ _ h => h) (by kernel_rfl) ‹_› ⟨_, ?_, by simp only [zz1, zz2, zz3]; rfl, .inl ⟨by rfl, ?_⟩, ?_⟩; rotate_left; · (intro w hSw; (try dsimp only at hSw); go_simp; all_goals with_reducible rfl)
       simp only [Act.put, zz4, zz5, zz6]
       refine tk 5 (fun _ _ _ _ _ h => h) (by kernel_rfl) ‹_› ⟨_, ?_, by simp only [zz1, zz2, zz3]; rfl, .inl ⟨by rfl, ?_⟩, ?_⟩; rotate_left; · (intro w hSw; (try dsimp only at hSw); go_simp; all_goals with_reducible rfl)
       simp only [Act.put, zz4, zz5, zz6]
       refine tk 6 (fun _ _ _ _ _ h => h) (by kernel_rfl) ‹_› ⟨_, ?_, by simp only [zz1, zz2, zz3]; rfl, .inl ⟨by rfl, ?_⟩, ?_⟩; rotate_left; · (intro w hSw; (try dsimp only at hSw); go_simp; all_goals with_reducible rfl)
       simp only [Act.put, zz4, zz5, zz6]
       refine tk 7 (fun _ _ _ _ _ h => h) (by kernel_rfl) ‹_› ⟨_, ?_, by simp only [zz1, zz2, zz3]; rfl, .inl ⟨by rfl, ?_⟩, ?_⟩; rotate_left; · (intro w hSw; (try dsimp only at hSw); go_simp; all_goals with_reducible rfl)
       simp only [Act.put, zz4, zz5, zz6]
       refine tk 8 (fun _ _ _ _ _ h => h) (by kernel_rfl) ‹_› ⟨_, ?_, by simp only [zz1, zz2, zz3]; rfl, .inl ⟨by rfl, ?_⟩, ?_⟩; rotate_left; · (intro w hSw; (try dsimp only at hSw); go_simp; all_goals with_reducible rfl)
       simp only [Act.put, zz4, zz5, zz6]
       refine tk 9 (fun _ _ _ _ _ h => h) (by kernel_rfl) ‹_› ⟨_, _, by simp only [zz1, zz2, zz3]; rfl, Or.inr ⟨by rfl, rfl⟩, ?_⟩
       simp only [Act.put, zz4, zz5, zz6]
       refine tk 10 (fun _ _ _ _ _ h => h) (by kernel_rfl) ‹_› ⟨_, _, by simp only [zz1, zz2, zz3]; rfl, Or.inr ⟨by rfl, rfl⟩, ?_⟩
       simp only [Act.put, zz4, zz5, zz6]
       refine tk 11 (fun _ _ _ _ _ h => h) (by kernel_rfl) ‹_› ⟨_, _, by simp only [zz1, zz2, zz3]; rfl, Or.inr ⟨by rfl, rfl⟩, ?_⟩
       simp only [Act.put, zz4, zz5, zz6]
       refine tk 12 (fun _ _ _ _ _ h => h) (by kernel_rfl) ‹_› ⟨_, _, by simp only [zz1, zz2, zz3]; rfl, Or.inr ⟨by rfl, rfl⟩, ?_⟩
       simp only [Act.put, zz4, zz5, zz6]
       refine tk 13 (fun _ _ _ _ _ h => h) (by kernel_rfl) ‹_› ⟨_, _, by simp only [zz1, zz2, zz3]; rfl, Or.inr ⟨by rfl, rfl⟩, ?_⟩
       simp only [Act.put, zz4, zz5, zz6]
       refine tk 14 (fun _ _ _ _ _ h => h) (by kernel_rfl) ‹_› ⟨_, _, by simp only [zz1, zz2, zz3]; rfl, Or.inr ⟨by rfl, rfl⟩, ?_⟩
       simp only [Act.put, zz4, zz5, zz6]
       refine tk 15 (fun _ _ _ _ _ h => h) (by kernel_rfl) ‹_› ⟨_, _, by simp only [zz1, zz2, zz3]; rfl, Or.inr ⟨by rfl, rfl⟩, ?_⟩
       simp only [Act.put, zz4, zz5, zz6]
       refine tk 16 (fun _ _ _ _ _ h => h) (by kernel_rfl) ‹_› ⟨_, _, by simp only [zz1, zz2, zz3]; rfl, Or.inr ⟨by rfl, rfl⟩, ?_⟩
       simp only [Act.put, zz4, zz5, zz6]
       refine tk 17 (fun _ _ _ _ _ h => h) (by kernel_rfl) ‹_› ⟨_, ?_, by simp only [zz1, zz2, zz3]; rfl, .inl ⟨by rfl, ?_⟩, ?_⟩; rotate_left; · (intro w hSw; (try dsimp only at hSw); go_simp; all_goals with_reducible rfl)
       simp only [Act.put, zz4, zz5, zz6]
       refine wpAnyH_done (by kernel_rfl) ?_ _
       refine NoPanic.normal ?_
       go_wp2_with fail
       go_roundg (D.length - (m + 1))
       case measure => omega
       case rel => exact ⟨m + 1, o2, by omega, rfl, by go_num, hown2, hout2, hap2, hid (by rw [HN0.out HGS.out]; exact hwi.out), hin2, htk2, hx2, hid hbq.out.drew⟩
     ·obtain rfl : m = D.length := by omega
      have hw9 := hwi.out.next (by rw [List.take_of_length_le (Nat.le_refl _)]; rw [HNX.out])
      have HW9 := hid hw9
      have HY9 := hid (HYS.out o2 htk2.out hwi.out.here)
      have hat2 : at_ < o2.length := (List.getElem?_eq_some_iff.1 hwi.out.here).1
      have hgg : at_ ≤ D.length := by omega
      clear hw9
      go_wp2_with fail
      go_roundg (D.length + 1 - (at_ + 1))
      case measure => omega
      case rel => exact ⟨at_ + 1, o2, ys, by omega, rfl, by go_num, hown2, hout2, hap2, HW9, hin2, HY9, hbq⟩
  ·obtain rfl : at_ = o.length := by omega
   have hys2 := hys.out
   rw [List.take_length] at hys2
   have HYS := hid hys2
   have HSR := hid (rsorted_any Au ku ys wr (ownsRow_ints hout.out) (by omega))
   have HDN := hid hwl.out.done
   clear hys2
   go_wp2_with fail
   refine HSR.out.mono ?_
   rintro e w9 ⟨zs, v9, rfl, ho9, hb9, hps, hmem⟩
   have HO9 := hid (own_lo (base' := w.heap.size) ho9 (by have := hbw.out.size; omega))
   have HB9 := hid (HB1.out.trans ((hbw.out.trans (hb9.mono hbw.out.size)).mono HB1.out.size))
   have HPS := hid hps
   have HM := hid hmem
   clear ho9 hb9 hps hmem
   go_wp2_with fail
   go_ret2
   unfold RSearchPost
   refine ⟨HB9.out, .inr ⟨HV.out, D, HPO.out, .inr ⟨HIN.out, zs, _, rfl, HO9.out, HPS.out, fun x => ?_⟩⟩⟩
   rw [HM.out x, HYS.out, List.mem_filter, HDN.out x, HNX.out]
set_option maxHeartbeats 16000000 in
theorem rremains_any (A : Option Addr) (cap : Nat) (L : List Ent) (K p : Int) (w : World) (hA : EntsAt w A L) (hl : L.length ≤ 210) (hcap : L.length ≤ cap) (hz : ∀ e ∈ L, e.1.mark.size ≤ 1000000 ∧ e.1.goods.size ≤ 1000000) :
  Calls Tryz.prog 14 #[.slice A L.length cap, .int .i64 K, .int .i64 p] w (RSearchPost finR Pcl.into Pcl.from_ L K p w) := by
 have HPA := hid (rparcels_any A cap L K w hA hl hcap hz)
 clear hA hz
 go_enter Tryz.func14, Tryz.ntmps14
 go_wp2_with fail
 refine HPA.out.mono ?_
 rintro e w1 ⟨hb1, hcase⟩
 have HB1 := hid hb1
 rcases hcase with ⟨i, en, hck, hne, rfl⟩ | ⟨hv, D, v, hpo, rfl, ho⟩
 ·have d0 : (en != 0) = true := bne_iff_ne.2 hne
  have HCK := hid hck
  have HNE := hid hne
  clear hb1 hck hne
  go_wp2_with fail
  go_ret2
  unfold RSearchPost
  exact ⟨HB1.out, .inl ⟨i, en, HCK.out, HNE.out, rfl⟩⟩
 obtain ⟨A1, k1, rfl, hx1⟩ := ownsRow.form ho
 have HPC : Hid (PclsAt w1 A1 D) := hid (pcls_of_cells hx1.1)
 have HPO := hid hpo
 have HV := hid hv
 have hdl : D.length ≤ 1680 := by have := hpo.len; have := countE_len L K; omega
 have hb1s := hb1.size
 clear hx1 ho hb1 hpo hv HPA
 have HOF := hid (rof_any A1 k1 D p w1 HPC.out (by omega))
 go_wp2_with fail
 refine HOF.out.mono ?_
 rintro e w1 ⟨⟨i, rfl, hi⟩, rfl⟩
 rcases hi with ⟨rfl, hno⟩ | ⟨k0, hk0, rfl, hyes⟩
 ·have HNO : Hid (p ∉ D.map (·.id)) := hid (fun h => by
   obtain ⟨q, hq, he⟩ := List.mem_map.1 h
   exact hno q hq he)
  clear hno
  go_wp2_with fail
  go_ret2
  unfold RSearchPost
  exact ⟨HB1.out, .inr ⟨HV.out, D, HPO.out, .inl ⟨HNO.out, rfl⟩⟩⟩
 have HIN : Hid (p ∈ D.map (·.id)) := hid (List.mem_map.2 ⟨_, List.getElem_mem hk0, hyes⟩)
 have kn : ¬ (k0 : Int) < 0 := by omega
 obtain ⟨nx, hnx⟩ : ∃ nx, nxL D (gP finR Pcl.into Pcl.from_ D) = nx := ⟨_, rfl⟩
 have HNX := hid hnx
 have HLEN : Hid (∀ o at_, Wl nx p o at_ → o.length ≤ D.length + 1) := hid (fun o at_ h => by
  rw [← hnx] at h
  exact Wl.len (f := Pcl.id) gP_id h)
 have HNI : Hid (∀ x y, y ∈ nx x → y ∈ D.map (·.id)) := hid (fun x y h => by
  rw [← hnx] at h
  obtain ⟨a, ha, hg⟩ := List.mem_filterMap.1 h
  exact List.mem_map.2 ⟨a, ha, gP_id _ _ _ hg⟩)
 clear hyes HOF hnx hk0
 go_upto_region 9 with fail
 go_loopg [10, 11, 12] (D.length + 1) (fun g v u i wr => ∃ (at_ : Nat) (o ys : List Int), at_ ≤ o.length ∧ g = D.length + 1 - at_ ∧ i = .int .i64 at_ ∧ Hid (wr.ownsRow w1.heap.size 3 1 v o.length (ints o)) ∧ Hid (wr.ownsRow w1.heap.size 3 1 u ys.length (ints ys)) ∧ Hid (Ap v u) ∧ Hid (Wl nx p o at_) ∧ Hid (∀ x ∈ o, x ∈ D.map (·.id)) ∧ Hid (ys = (o.take at_).filter (fun x => finR (pof D x))) ∧ Hid (Below w1.heap.size w1 wr))
 case atStart => exact ⟨0, [p], [], by simp, by omega, rfl, hid (World.ownsRow_lit w1 #[.int .i64 p] 1 (Nat.le_refl _) (by decide) rfl), hid (World.ownsRow_nil _ _ _ _), hid (.inl rfl), hid (Wl.start _ _), hid (by simpa using HIN.out), hid rfl, hid ((Below.refl _ _).alloc (Nat.le_refl _) _)⟩
 case round =>
  obtain ⟨at_, o, ys, hat, hgk, rfl, hown, hout, hap, hwl, hin, hys, hbw⟩ := hrel
  have hol := HLEN.out o at_ hwl.out
  have hyl : ys.length ≤ o.length := by
   rw [hys.out]
   refine Nat.le_trans (List.length_filter_le _ _) ?_
   rw [List.length_take]
   omega
  obtain ⟨gb, cp, rfl, hgb, hcp⟩ := own_slice hown.out (List.length_pos_of_mem hwl.out.head)
  obtain ⟨Au, ku, rfl, hxu⟩ := ownsRow.form hout.out
  clear hxu
  by_cases hlt : at_ < o.length
  ·obtain ⟨V, hV⟩ : ∃ V, V = wr := ⟨_, rfl⟩
   subst hV
   have a0 : (0 : Int) ≤ at_ := by omega
   have a1 : (at_ : Int) < o.length := by omega
   obtain ⟨x0, hx0⟩ : ∃ x, o[at_] = x := ⟨_, rfl⟩
   have hx0' : o[at_]? = some x0 := by rw [List.getElem?_eq_getElem hlt, hx0]
   have HWI := hid (hwl.out.begin hx0')
   have htk : o.take (at_ + 1) = o.take at_ ++ [x0] := by rw [List.take_succ_eq_append_getElem hlt, hx0]
   have HTK := hid htk
   obtain ⟨b5, off5, hAe5, hc5⟩ := (ownsRow_ints hown.out) (by omega)
   cases hAe5
   have hca := hc5 at_ hlt
   rw [hx0, Nat.zero_add] at hca
   have hxin := hin.out x0 (by rw [← hx0]; exact List.getElem_mem hlt)
   have HOX := hid (rof_any A1 k1 D x0 V (HPC.out.kept (Kept.of_below hbw.out)) (by omega))
   have HXIN := hid hxin
   clear hc5 hx0 hx0' htk hxin
   go_wp2_with fail
   refine HOX.out.mono ?_
   rintro e V ⟨⟨i, rfl, hi⟩, rfl⟩
   rcases hi with ⟨_, hno⟩ | ⟨k, hk, rfl, hyes⟩
   ·obtain ⟨q, hq, he⟩ := List.mem_map.1 HXIN.out
    exact absurd he (hno q hq)
   obtain ⟨b, off, hAe, hc⟩ := (HPC.out.kept (Kept.of_below hbw.out)) (by omega)
   subst hAe
   have hrange := hc k hk
   have hpf := pof_at HPO.out.ids hk hyes
   obtain ⟨q0, hq0⟩ : ∃ q, D[k] = q := ⟨_, rfl⟩
   rw [hq0] at hrange hpf hyes
   have HR := hid hrange
   have HPF := hid hpf
   have HID := hid hyes
   have i0 : (0 : Int) ≤ k := by omega
   have i1 : (k : Int) < D.length := by omega
   clear hc hrange hpf hyes hq0
   go_upto_region 12 with (first | refine load_pcl_mid rfl _ rfl _ _ rfl HR.out ?_ | (refine store_pcl_new rfl _ _ rfl rfl rfl (q := q0) rfl rfl ?_; intro W2 hbx2 hb2 hlt2; have HX2 := hid hbx2; have HB2 := hid (hbw.out.trans (hb2.mono hbw.out.size)); have HOW2 := hid (own_below hown.out hb2); have HOU2 := hid (own_below hout.out hb2); clear hbx2 hb2))
   obtain ⟨p0, _, p2, _, _, _, _, _, _, _, p10, _⟩ := HX2.out.at_
   obtain ⟨fb, hfb⟩ : ∃ t, finR q0 = t := ⟨_, rfl⟩
   have HFB := hid hfb
   unfold finR at hfb
   have hfd : (q0.into == 0) = fb := by rw [← hfb, Bool.eq_iff_iff]; simp
   rcases fb with _ | _
   case true =>
    have HYS : Hid (ys ++ [q0.id] = (o.take (at_ + 1)).filter (fun x => finR (pof D x))) := hid (by rw [HTK.out, List.filter_append, ← hys.out, HID.out]; simp [HPF.out, HFB.out])
    have HWN : Hid (Wl nx p o (at_ + 1)) := hid (HWI.out.next (by rw [← HNX.out, gP_fin (by rw [HPF.out]; exact HFB.out)]))
    obtain ⟨v4, w4, hr4, ho4, hu4, hap4, hb4, _⟩ := app_int2 q0.id HOU2.out HOW2.out hap.out.symm (by omega) HB2.out.size
    have HR4 := hid hr4
    have HO4 := hid ho4
    have HU4 := hid hu4
    have HA4 := hid hap4.symm
    have HB4 := hid (HB2.out.trans hb4)
    have hgg : at_ ≤ D.length := by omega
    go_upto_region 13 with fail
    clear hr4 ho4 hu4 hap4 hb4 p2 p10 hfd
    go_wp2_with (first | (at_builtin; refine wpList_app rfl rfl rfl rfl rfl HR4.out ?_))
    go_roundg (D.length + 1 - (at_ + 1))
    case measure => omega
    case rel => exact ⟨at_ + 1, o, ys ++ [q0.id], by omega, rfl, by go_num, HU4, HO4, HA4, HWN, hin, HYS, HB4⟩
   case false =>
    have HYS : Hid (∀ o2 : List Int, o2.take at_ = o.take at_ → o2[at_]? = some x0 → ys = (o2.take (at_ + 1)).filter (fun x => finR (pof D x))) := hid (fun o2 h1 h2 => by
     have hlt2 := (List.getElem?_eq_some_iff.1 h2).1
     have h3 := (List.getElem?_eq_some_iff.1 h2).2
     rw [List.take_succ_eq_append_getElem hlt2, h3, h1, List.filter_append, ← hys.out]
     simp [HPF.out, HFB.out])
    have HGN : Hid (∀ q, gP finR Pcl.into Pcl.from_ D x0 q = if q.from_ = q0.into then some q.id else none) := hid (fun q => by
     unfold gP
     rw [HPF.out, if_neg (by rw [HFB.out]; decide)])
    clear p0 p10 hlt
    go_upto_region 15 with fail
    clear p2 hfd
    go_loopg [10, 14] (D.length) (fun g v i wq => ∃ (m : Nat) (o2 : List Int), m ≤ D.length ∧ g = D.length - m ∧ i = .int .i64 m ∧ Hid (wq.ownsRow w1.heap.size 3 1 v o2.length (ints o2)) ∧ Hid (wq.ownsRow w1.heap.size 3 1 (.slice Au ys.length ku) ys.length (ints ys)) ∧ Hid (Ap v (.slice Au ys.length ku)) ∧ Hid (Wi nx p o2 at_ x0 (nxL (D.take m) (gP finR Pcl.into Pcl.from_ D) x0)) ∧ Hid (∀ x ∈ o2, x ∈ D.map (·.id)) ∧ Hid (o2.take at_ = o.take at_) ∧ Hid (PclIs wq V.heap.size q0) ∧ Hid (Below w1.heap.size w1 wq))
    case atStart => exact ⟨0, o, by omega, by omega, rfl, HOW2, HOU2, hap, HWI, hin, hid rfl, HX2, HB2⟩
    case round =>
     obtain ⟨m, o2, hm, hgm, rfl, hown2, hout2, hap2, hwi, hin2, htk2, hx2, hbq⟩ := hrel
     have hol2 := HLEN.out o2 at_ hwi.out.wl
     obtain ⟨g2, cp2, rfl, hg2, hcp2⟩ := own_slice hown2.out (List.length_pos_of_mem hwi.out.wl.head)
     have hnb : g2 ≠ V.heap.size := fun e => by
      rcases hown2.out.2 with ⟨h1, _⟩ | ⟨g9, cap9, cur9, h1, _, h2, _⟩
      ·cases h1
      ·cases h1
       have h3 := hx2.out
       unfold PclIs at h3
       rw [← e, h2] at h3
       cases h3
     by_cases hml : m < D.length
     ·obtain ⟨b9, off9, hAe9, hc9⟩ := (HPC.out.kept (Kept.of_below hbq.out)) (by omega)
      cases hAe9
      obtain ⟨r0, r1, r2, _⟩ := prange_at (hc9 m hml)
      have hn0 := fun h => nx_none (g := gP finR Pcl.into Pcl.from_ D) (x := x0) hml h
      have hn1 := fun y h => nx_some (g := gP finR Pcl.into Pcl.from_ D) (x := x0) (y := y) hml h
      have hn2 := fun y h => nx_mem (g := gP finR Pcl.into Pcl.from_ D) (x := x0) (y := y) hml h
      rw [HNX.out] at hn2
      have hg := HGN.out D[m]
      obtain ⟨r, hr⟩ : ∃ x, D[m] = x := ⟨_, rfl⟩
      rw [hr] at r0 r1 r2 hn0 hn1 hn2 hg
      have HN0 := hid hn0
      have HN1 := hid hn1
      have HN2 := hid hn2
      have HG := hid hg
      have j0 : (0 : Int) ≤ m := by omega
      have j1 : (m : Int) < D.length := by omega
      have HR0 := hid r0
      have HRK := hid r1
      have hcx := hx2.out.at_.2.2.1
      have HCX := hid hcx
      clear hc9 hn0 hn1 hn2 hg hr r0 r1 r2 hcx
      by_cases he : r.from_ = q0.into
      ·have de : (r.from_ == q0.into) = true := beq_iff_eq.2 he
       have HGS : Hid (gP finR Pcl.into Pcl.from_ D x0 r = some r.id) := hid (by rw [HG.out, if_pos he])
       obtain ⟨t, ht⟩ : ∃ t, decide (r.id ∈ o2) = t := ⟨_, rfl⟩
       have hhas := has_any (some ⟨g2, 0, none⟩) cp2 o2 r.id wr.drew (by omega) ((ownsRow_ints hown2.out).kept (Kept.of_below (Below.refl _ wr).drew))
       rw [ht] at hhas
       have HHAS := hid hhas
       have HT := hid ht
       clear he ht hhas
       go_upto_region 17 with fail
       refine wp_region_noPanic ?_
       refine wp_region_held_drew (S := fun w' => w'.cell? ⟨b, off + m * 12, none⟩ = some (.int .i64 r.id) ∧ w'.cell? ⟨b, off + m * 12 + 1, none⟩ = some (.int .i64 (r.from_)) ∧ w'.cell? ⟨V.heap.size, 2, none⟩ = some (.int .i64 (q0.into))) (by kernel_rfl) (⟨HR0.out, HRK.out, HCX.out⟩) (fun hHeld => ?_)
       refine tk 0 (fun _ _ _ _ _ h => h) (by kernel_rfl) ‹_› ⟨_, ?_, by simp only [zz1, zz2]; rfl, .inl ⟨by rfl, ?_⟩, ?_⟩; rotate_left; · (intro w hSw; (try dsimp only at hSw); go_simp; all_goals with_reducible rfl)
       simp only [Act.put, zz4, zz5, zz6]
       refine tk 1 (fun _ _ _ _ _ h => h) (by kernel_rfl) ‹_› ⟨_, ?_, by simp only [zz1, zz2, zz3]; rfl, .inl ⟨by rfl, ?_⟩, ?_⟩; rotate_left; · (intro w hSw; (try dsimp only at hSw); go_simp; all_goals with_reducible rfl)
       simp only [Act.put, zz4, zz5, zz6]
       refine tk 2 (fun _ _ _ _ _ h => h) (by kernel_rfl) ‹_› ⟨_, ?_, by simp only [zz1, zz2, zz3]; rfl, .inl ⟨by rfl, ?_⟩, ?_⟩; rotate_left; · (intro w hSw; (try dsimp only at hSw); go_simp; all_goals with_reducible rfl)
       simp only [Act.put, zz4, zz5, zz6]
       refine tk 3 (fun _ _ _ _ _ h => h) (by kernel_rfl) ‹_› ⟨_, ?_, by simp only [zz1, zz2, zz3]; rfl, .inl ⟨by rfl, ?_⟩, ?_⟩; rotate_left; · (intro w hSw; (try dsimp only at hSw); go_simp; all_goals with_reducible rfl)
       simp only [Act.put, zz4, zz5, zz6]
       refine tk 4 (fun _ _ _ _ _ h => h) (by kernel_rfl) ‹_› ⟨_, ?_, by simp only [zz1, zz2, zz3]; rfl, .inl ⟨by rfl, ?_⟩, ?_⟩; rotate_left; · (intro w hSw; (try dsimp only at hSw); go_simp; all_goals with_reducible rfl)
       simp only [Act.put, zz4, zz5, zz6]
       refine tk 5 (fun _ _ _ _ _ h => h) (by kernel_rfl) ‹_› ⟨_, ?_, by simp only [zz1, zz2, zz3]; rfl, .inl ⟨by rfl, ?_⟩, ?_⟩; rotate_left; · (intro w hSw; (try dsimp only at hSw); go_simp; all_goals with_reducible rfl)
       simp only [Act.put, zz4, zz5, zz6]
       refine tk 6 (fun _ _ _ _ _ h => h) (by kernel_rfl) ‹_› ⟨_, ?_, by simp only [zz1, zz2, zz3]; rfl, .inl ⟨by rfl, ?_⟩, ?_⟩; rotate_left; · (intro w hSw; (try dsimp only at hSw); go_simp; all_goals with_reducible rfl)
       simp only [Act.put, zz4, zz5, zz6]
       refine tk 7 (fun _ _ _ _ _ h => h) (by kernel_rfl) ‹_› ⟨_, ?_, by simp only [zz1, zz2, zz3]; rfl, .inl ⟨by rfl, ?_⟩, ?_⟩; rotate_left; · (intro w hSw; (try dsimp only at hSw); go_simp; all_goals with_reducible rfl)
       simp only [Act.put, zz4, zz5, zz6]
       refine tk 8 (fun _ _ _ _ _ h => h) (by kernel_rfl) ‹_› ⟨_, ?_, by simp only [zz1, zz2, zz3]; rfl, .inl ⟨by rfl, ?_⟩, ?_⟩; rotate_left; · (intro w hSw; (try dsimp only at hSw); go_simp; all_goals with_reducible rfl)
       simp only [Act.put, zz4, zz5, zz6]
       refine tk 9 (fun _ _ _ _ _ h => h) (by kernel_rfl) ‹_› ⟨_, ?_, by simp only [zz1, zz2, zz3]; rfl, .inl ⟨by rfl, ?_⟩, ?_⟩; rotate_left; · (intro w hSw; (try dsimp only at hSw); go_simp; all_goals with_reducible rfl)
       simp only [Act.put, zz4, zz5, zz6]
       refine tk 10 (fun _ _ _ _ _ h => h) (by kernel_rfl) ‹_› ⟨_, ?_, by simp only [zz1, zz2, zz3]; rfl, .inl ⟨by rfl, ?_⟩, ?_⟩; rotate_left; · (intro w hSw; (try dsimp only at hSw); go_simp; all_goals with_reducible rfl)
       simp only [Act.put, zz4, zz5, zz6]
       refine tk 11 (fun _ _ _ _ _ h => h) (by kernel_rfl) ‹_› ⟨_, ?_, by simp only [zz1, zz2, zz3]; rfl, .inl ⟨by rfl, ?_⟩, ?_⟩; rotate_left; · (intro w hSw; (try dsimp only at hSw); go_simp; all_goals with_reducible rfl)
       simp only [Act.put, zz4, zz5, zz6]
       refine tk 12 (fun _ _ _ _ _ h => h) (by kernel_rfl) ‹_› ⟨_, ?_, by simp only [zz1, zz2, zz3]; rfl, .inl ⟨by rfl, ?_⟩, ?_⟩; rotate_left; · (intro w hSw; (try dsimp only at hSw); go_simp; all_goals with_reducible rfl)
       simp only [Act.put, zz4, zz5, zz6]
       refine tk 13 (fun _ _ _ _ _ h => h) (by kernel_rfl) ‹_› ⟨_, ?_, by simp only [zz1, zz2, zz3]; rfl, .inl ⟨by rfl, ?_⟩, ?_⟩; rotate_left; · (intro w hSw; (try dsimp only at hSw); go_simp; all_goals with_reducible rfl)
       simp only [Act.put, zz4, zz5, zz6]
       refine tk 14 (fun _ _ _ _ _ h => h) (by kernel_rfl) ‹_› ⟨_, ?_, by simp only [zz1, zz2, zz3]; rfl, .inl ⟨by rfl, ?_⟩, ?_⟩; rotate_left; · (intro w hSw; (try dsimp only at hSw); go_simp; all_goals with_reducible rfl)
       simp only [Act.put, zz4, zz5, zz6]
       refine wpAnyH_ready (rs := [15]) (by kernel_rfl) (by simp) ?_
       refine cons_one (i := 15) ⟨_, by simp only [zz1, zz2, zz3]; rfl, fun K hK => ?_⟩ ?_
       rotate_left
       ·exact AllReadyH.nil
       refine step_callg (by rfl) #[.tmp 68, .tmp 73] 21 _ rfl enters_rhas #[.slice (some ⟨g2, 0, none⟩) o2.length cp2, .int .i64 r.id] ?hs (fun u w' => u = .bool t ∧ w' = wr.drew) (HHAS.out.mono (fun e w' h => ⟨_, h.1, rfl, h.2⟩)) ?_
       case hs => simp [Act.eval]
       rintro _ _ ⟨rfl, rfl⟩
       clear hHeld
       refine hK.out _ _ (⟨HR0.out, HRK.out, HCX.out⟩) (fun hHeld => ?_)
       clear hK K
       try simp only [Act.put, zz4, zz5, zz6]
       refine tk 16 (fun _ _ _ _ _ h => h) (by kernel_rfl) ‹_› ⟨_, ?_, by simp only [zz1, zz2, zz3]; rfl, .inl ⟨by rfl, ?_⟩, ?_⟩; rotate_left; · (intro w hSw; (try dsimp only at hSw); go_simp; all_goals with_reducible rfl)
       simp only [Act.put, zz4, zz5, zz6]
       refine tk 17 (fun _ _ _ _ _ h => h) (by kernel_rfl) ‹_› ⟨_, ?_, by simp only [zz1, zz2, zz3]; rfl, .inl ⟨by rfl, ?_⟩, ?_⟩; rotate_left; · (intro w hSw; (try dsimp only at hSw); go_simp; all_goals with_reducible rfl)
       simp only [Act.put, zz4, zz5, zz6]
       refine wpAnyH_done (by kernel_rfl) ?_ _
       refine NoPanic.normal ?_
       rcases t with _ | _
       ·obtain ⟨v4, w4, hrn, ho4, hu4, hap4, hb4, hkp4⟩ := app_int2 r.id (w := wr.drew) hown2.out hout2.out hap2.out (by omega) (show w1.heap.size ≤ wr.drew.heap.size from hbq.out.size)
        have hbx := hx2.out.lt
        have HRN := hid hrn
        have HO4 := hid ho4
        have HU4 := hid hu4
        have HA4 := hid hap4
        have HB4 := hid (hbq.out.drew.trans hb4)
        have r0 := HR0.out
        have HNEW := hid (hwi.out.new (of_decide_eq_false HT.out) (HN2.out _ HGS.out))
        have HIN4 : Hid (∀ x ∈ o2 ++ [r.id], x ∈ D.map (·.id)) := hid (fun x hx => by
         rcases List.mem_append.1 hx with h | h
         ·exact hin2.out x h
         ·rw [List.mem_singleton] at h
          subst h
          exact HNI.out _ _ (HN2.out _ HGS.out))
        have hat2 : at_ < o2.length := (List.getElem?_eq_some_iff.1 hwi.out.here).1
        have HTK4 : Hid ((o2 ++ [r.id]).take at_ = o.take at_) := hid (by rw [List.take_append_of_le_length (by omega)]; exact htk2.out)
        have HX4 : Hid (PclIs w4 V.heap.size q0) := hid ((hkp4 _ hbx (by simpa [Value.ownBlock] using hnb)).trans hx2.out)
        clear hrn ho4 hu4 hap4 hb4 hat2 hbx hkp4
        go_wp2_with (first | (at_builtin; refine wpList_app rfl rfl rfl rfl rfl HRN.out ?_))
        go_roundg (D.length - (m + 1))
        case measure => omega
        case rel => exact ⟨m + 1, o2 ++ [r.id], by omega, rfl, by go_num, HO4, HU4, HA4, hid (by rw [HN1.out _ HGS.out]; exact HNEW.out), HIN4, HTK4, HX4, HB4⟩
       ·go_wp2_with fail
        go_roundg (D.length - (m + 1))
        case measure => omega
        case rel => exact ⟨m + 1, o2, by omega, rfl, by go_num, hown2, hout2, hap2, hid (by rw [HN1.out _ HGS.out]; exact hwi.out.old (of_decide_eq_true HT.out)), hin2, htk2, hx2, hid hbq.out.drew⟩
      ·have de : (r.from_ == q0.into) = false := beq_eq_false_iff_ne.2 he
       have HGS : Hid (gP finR Pcl.into Pcl.from_ D x0 r = none) := hid (by rw [HG.out, if_neg he])
       clear he
       go_upto_region 17 with fail
       refine wp_region_noPanic ?_
       refine wp_region_held_drew (S := fun w' => w'.cell? ⟨b, off + m * 12, none⟩ = some (.int .i64 r.id) ∧ w'.cell? ⟨b, off + m * 12 + 1, none⟩ = some (.int .i64 (r.from_)) ∧ w'.cell? ⟨V.heap.size, 2, none⟩ = some (.int .i64 (q0.into))) (by kernel_rfl) (⟨HR0.out, HRK.out, HCX.out⟩) (fun hHeld => ?_)
       refine tk 0 (fun _ _ _ _ _ h => h) (by kernel_rfl) ‹_› ⟨_, ?_, by simp only [zz1, zz2]; rfl, .inl ⟨by rfl, ?_⟩, ?_⟩; rotate_left; · (intro w hSw; (try dsimp only at hSw); go_simp; all_goals with_reducible rfl)
       simp only [Act.put, zz4, zz5, zz6]
       refine tk 1 (fun _ _ _ _ _ h => h) (by kernel_rfl) ‹_› ⟨_, ?_, by simp only [zz1, zz2, zz3]; rfl, .inl ⟨by rfl, ?_⟩, ?_⟩; rotate_left; · (intro w hSw; (try dsimp only at hSw); go_simp; all_goals with_reducible rfl)
       simp only [Act.put, zz4, zz5, zz6]
       refine tk 2 (fun _ _ _ _ _ h => h) (by kernel_rfl) ‹_› ⟨_, ?_, by simp only [zz1, zz2, zz3]; rfl, .inl ⟨by rfl, ?_⟩, ?_⟩; rotate_left; · (intro w hSw; (try dsimp only at hSw); go_simp; all_goals with_reducible rfl)
       simp only [Act.put, zz4, zz5, zz6]
       refine tk 3 (fun _ _ _ _ _ h => h) (by kernel_rfl) ‹_› ⟨_, ?_, by simp only [zz1, zz2, zz3]; rfl, .inl ⟨by rfl, ?_⟩, ?_⟩; rotate_left; · (intro w hSw; (try dsimp only at hSw); go_simp; all_goals with_reducible rfl)
       simp only [Act.put, zz4, zz5, zz6]
       refine tk 4 (fun _ _ _ _ _ h => h) (by kernel_rfl) ‹_› ⟨_, ?_, by simp only [zz1, zz2, zz3]; rfl, .inl ⟨by rfl, ?_⟩, ?_⟩; rotate_left; · (intro w hSw; (try dsimp only at hSw); go_simp; all_goals with_reducible rfl)
       simp only [Act.put, zz4, zz5, zz6]
       refine tk 5 (fun _ _ _ _ _ h => h) (by kernel_rfl) ‹_› ⟨_, ?_, by simp only [zz1, zz2, zz3]; rfl, .inl ⟨by rfl, ?_⟩, ?_⟩; rotate_left; · (intro w hSw; (try dsimp only at hSw); go_simp; all_goals with_reducible rfl)
       simp only [Act.put, zz4, zz5, zz6]
       refine tk 6 (fun _ _ _ _ _ h => h) (by kernel_rfl) ‹_› ⟨_, ?_, by simp only [zz1, zz2, zz3]; rfl, .inl ⟨by rfl, ?_⟩, ?_⟩; rotate_left; · (intro w hSw; (try dsimp only at hSw); go_simp; all_goals with_reducible rfl)
       simp only [Act.put, zz4, zz5, zz6]
       refine tk 7 (fun _ _ _ _ _ h => h) (by kernel_rfl) ‹_› ⟨_, ?_, by simp only [zz1, zz2, zz3]; rfl, .inl ⟨by rfl, ?_⟩, ?_⟩; rotate_left; · (intro w hSw; (try dsimp only at hSw); go_simp; all_goals with_reducible rfl)
       simp only [Act.put, zz4, zz5, zz6]
       refine tk 8 (fun _ _ _ _ _ h => h) (by kernel_rfl) ‹_› ⟨_, ?_, by simp only [zz1, zz2, zz3]; rfl, .inl ⟨by rfl, ?_⟩, ?_⟩; rotate_left; · (intro w hSw; (try dsimp only at hSw); go_simp; all_goals with_reducible rfl)
       simp only [Act.put, zz4, zz5, zz6]
       refine tk 9 (fun _ _ _ _ _ h => h) (by kernel_rfl) ‹_› ⟨_, _, by simp only [zz1, zz2, zz3]; rfl, Or.inr ⟨by rfl, rfl⟩, ?_⟩
       simp only [Act.put, zz4, zz5, zz6]
       refine tk 10 (fun _ _ _ _ _ h => h) (by kernel_rfl) ‹_› ⟨_, _, by simp only [zz1, zz2, zz3]; rfl, Or.inr ⟨by rfl, rfl⟩, ?_⟩
       simp only [Act.put, zz4, zz5, zz6]
       refine tk 11 (fun _ _ _ _ _ h => h) (by kernel_rfl) ‹_› ⟨_, _, by simp only [zz1, zz2, zz3]; rfl, Or.inr ⟨by rfl, rfl⟩, ?_⟩
       simp only [Act.put, zz4, zz5, zz6]
       refine tk 12 (fun _ _ _ _ _ h => h) (by kernel_rfl) ‹_› ⟨_, _, by simp only [zz1, zz2, zz3]; rfl, Or.inr ⟨by rfl, rfl⟩, ?_⟩
       simp only [Act.put, zz4, zz5, zz6]
       refine tk 13 (fun _ _ _ _ _ h => h) (by kernel_rfl) ‹_› ⟨_, _, by simp only [zz1, zz2, zz3]; rfl, Or.inr ⟨by rfl, rfl⟩, ?_⟩
       simp only [Act.put, zz4, zz5, zz6]
       refine tk 14 (fun _ _ _ _ _ h => h) (by kernel_rfl) ‹_› ⟨_, _, by simp only [zz1, zz2, zz3]; rfl, Or.inr ⟨by rfl, rfl⟩, ?_⟩
       simp only [Act.put, zz4, zz5, zz6]
       refine tk 15 (fun _ _ _ _ _ h => h) (by kernel_rfl) ‹_› ⟨_, _, by simp only [zz1, zz2, zz3]; rfl, Or.inr ⟨by rfl, rfl⟩, ?_⟩
       simp only [Act.put, zz4, zz5, zz6]
       refine tk 16 (fun _ _ _ _ _ h => h) (by kernel_rfl) ‹_› ⟨_, _, by simp only [zz1, zz2, zz3]; rfl, Or.inr ⟨by rfl, rfl⟩, ?_⟩
       simp only [Act.put, zz4, zz5, zz6]
       refine tk 17 (fun _ _ _ _ _ h => h) (by kernel_rfl) ‹_› ⟨_, ?_, by simp only [zz1, zz2, zz3]; rfl, .inl ⟨by rfl, ?_⟩, ?_⟩; rotate_left; · (intro w hSw; (try dsimp only at hSw); go_simp; all_goals with_reducible rfl)
       simp only [Act.put, zz4, zz5, zz6]
       refine wpAnyH_done (by kernel_rfl) ?_ _
       refine NoPanic.normal ?_
       go_wp2_with fail
       go_roundg (D.length - (m + 1))
       case measure => omega
       case rel => exact ⟨m + 1, o2, by omega, rfl, by go_num, hown2, hout2, hap2, hid (by rw [HN0.out HGS.out]; exact hwi.out), hin2, htk2, hx2, hid hbq.out.drew⟩
     ·obtain rfl : m = D.length := by omega
      have hw9 := hwi.out.next (by rw [List.take_of_length_le (Nat.le_refl _)]; rw [HNX.out])
      have HW9 := hid hw9
      have HY9 := hid (HYS.out o2 htk2.out hwi.out.here)
      have hat2 : at_ < o2.length := (List.getElem?_eq_some_iff.1 hwi.out.here).1
      have hgg : at_ ≤ D.length := by omega
      clear hw9
      go_wp2_with fail
      go_roundg (D.length + 1 - (at_ + 1))
      case measure => omega
      case rel => exact ⟨at_ + 1, o2, ys, by omega, rfl, by go_num, hown2, hout2, hap2, HW9, hin2, HY9, hbq⟩
  ·obtain rfl : at_ = o.length := by omega
   have hys2 := hys.out
   rw [List.take_length] at hys2
   have HYS := hid hys2
   have HSR := hid (rsorted_any Au ku ys wr (ownsRow_ints hout.out) (by omega))
   have HDN := hid hwl.out.done
   clear hys2
   go_wp2_with fail
   refine HSR.out.mono ?_
   rintro e w9 ⟨zs, v9, rfl, ho9, hb9, hps, hmem⟩
   have HO9 := hid (own_lo (base' := w.heap.size) ho9 (by have := hbw.out.size; omega))
   have HB9 := hid (HB1.out.trans ((hbw.out.trans (hb9.mono hbw.out.size)).mono HB1.out.size))
   have HPS := hid hps
   have HM := hid hmem
   clear ho9 hb9 hps hmem
   go_wp2_with fail
   go_ret2
   unfold RSearchPost
   refine ⟨HB9.out, .inr ⟨HV.out, D, HPO.out, .inr ⟨HIN.out, zs, _, rfl, HO9.out, HPS.out, fun x => ?_⟩⟩⟩
   rw [HM.out x, HYS.out, List.mem_filter, HDN.out x, HNX.out]
end Go.Proofs.YtfaoillnakhejaaGreat
