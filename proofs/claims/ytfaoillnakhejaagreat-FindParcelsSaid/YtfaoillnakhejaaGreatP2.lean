/- The law FindParcels walked: it returns true. -/
import Derived.Test.YtfaoillnakhejaaGreatP1
import Derived.Test.YtfaoillnakhejaaGreatH19
import Derived.Test.YtfaoillnakhejaaGreatH29
namespace Go.Proofs.YtfaoillnakhejaaGreat
set_option maxRecDepth 100000
open Go.RowKit
theorem pcl_eql (q : Pcl) (w : World) : (binOp .eql 38 q.val q.val).run Tryz.prog w = .ok (.bool true) w := by
 rw [run_eql_struct, pcl_equal]
 rfl
theorem load_pcl_g {ops : Array Oper} {rest : List Oper} {o : Oper} {a : Act} {w : World} {Q : Exit → Act → World → Prop} (hw : Region.wanted o (yielded ops a.tmps) = true) (x : Operand) (ho : o.op = .load 38 x)
  (g : Nat) (hx : a.eval x = .pointer (some ⟨g, 0, none⟩)) {q : Pcl} (hg : PclIs w g q)
  (h : wpList Tryz.prog ops Q rest (a.put o.dst q.val) w) : wpList Tryz.prog ops Q (o :: rest) a w := by
 have h9 := wpList_load_row (P := Tryz.prog) (ops := ops) (rest := rest) (o := { o with guard := none }) (a := a) (w := w) (Q := Q) rfl _ x ho g hx _ q.cells (0, 0) _ hg Tryz.underlying38 rfl pcl_info h
 unfold wpList at h9 ⊢
 rw [if_pos hw]
 rw [if_pos (by simp [Region.wanted])] at h9
 exact h9
theorem pof_form {L : List Ent} {K p : Int} {e : Ending} (h : (∃ en, FailsBy L K [p] en ∧ e = .returned (.tuple #[zp.val, .int .i64 en])) ∨ (Valid (reps L) ∧ ∃ ids, IdsOf (countE L K) ids ∧ p ∈ ids ∧ e = .returned (.tuple #[(parcelF (countE L K) p).val, .int .i64 0]))) :
  ∃ q en, e = .returned (.tuple #[Pcl.val q, .int .i64 en]) := by
 rcases h with ⟨en, _, he⟩ | ⟨_, ids, _, _, he⟩
 ·exact ⟨zp, en, he⟩
 ·exact ⟨_, 0, he⟩
set_option maxHeartbeats 32000000 in
theorem findParcels_any (A : Option Addr) (cap : Nat) (L : List Ent) (K hour p : Int) (w : World) (hA : RepsAt w A L) (hcap : L.length ≤ cap) :
  Calls Tryz.prog 8 #[.slice A L.length cap, .int .i64 K, .int .i64 hour, .int .i64 p] w fun e w' => e = .returned (.bool true) ∧ Below w.heap.size w w' := by
 have hfw := few_any A cap L 30 w hA.rows (by omega) (by omega)
 obtain ⟨b, hb⟩ : ∃ b, fewB (reps L) 30 = b := ⟨_, rfl⟩
 rw [hb] at hfw
 have HF := hid hfw
 have HB := hid hb
 have HA := hid hA
 have HCAP := hid hcap
 clear hA hb hfw hcap
 go_enter Tryz.func8, Tryz.ntmps8
 go_wp2_with fail
 refine HF.out.mono ?_
 rintro e w1 ⟨rfl, rfl⟩
 clear HF
 rcases b with _ | _
 ·go_wp2_with fail
  refine (sane_any w1).mono ?_
  rintro e w2 ⟨rfl, hb2⟩
  have HB2 := hid hb2
  clear hb2
  go_wp2_with fail
  go_ret
  exact ⟨rfl, HB2.out⟩
 have hfs := few_small HB.out (by omega)
 have HL : Hid (L.length ≤ 210) := hid (by have := hfs.1; rw [List.length_map] at this; omega)
 have HSZ : Hid (∀ e ∈ L, e.1.mark.size ≤ 1000000 ∧ e.1.goods.size ≤ 1000000) := hid (fun e he => by have := hfs.2 e.1 (List.mem_map_of_mem (f := Prod.fst) he); omega)
 have HE : Hid (EntsAt w1 A L) := hid (HA.out.ents (fun e he => by have := hfs.2 e.1 (List.mem_map_of_mem (f := Prod.fst) he); omega))
 have HC := hid (ecounting_any A cap L K w1 HE.out HL.out HCAP.out)
 clear hfs HA
 go_wp2_with fail
 refine HC.out.mono ?_
 rintro e w2 hp
 have HB2 := hid hp.1
 have HE2 := hid (HE.out.below hp.1)
 obtain ⟨A1, k1, M1, en1, rfl, hm, hml, h1, h2, h3⟩ := counting_form HL.out hp
 have HM1 := hid hm
 have HT1 := hid (And.intro h1 (And.intro h2 h3))
 have HML := hid hml
 have HC2 := hid (rCounting_any A cap L K w2 HE2.out HL.out HCAP.out HSZ.out)
 clear hp hm h1 h2 h3 hml HC
 go_wp2_with fail
 refine HC2.out.mono ?_
 rintro e w3 hp
 have HB3 := hid (HB2.out.trans (hp.1.mono HB2.out.size))
 have HE3 := hid (HE2.out.below hp.1)
 have HM13 := hid (HM1.out.below hp.1)
 obtain ⟨A2, k2, M2, en2, rfl, hm, h1, h2, h3⟩ := rcounting_form (fun e he => (HE3.out.parts e he)) hp
 have hen := h1.same HT1.out.1
 subst hen
 have HRE : Hid (reps M1 = reps M2) := hid (by
  by_cases h0 : en2 = 0
  ·rw [HT1.out.2.2 h0, h3 h0]
  ·rw [HT1.out.2.1 h0, h2 h0])
 have HM2 := hid hm
 have HC3 := hid (parcels_any A cap L K w3 HE3.out HL.out HCAP.out)
 clear hp hm h1 h2 h3 HC2 HM1
 go_wp2_with fail
 refine HC3.out.mono ?_
 rintro e w4 hp
 have HB4 := hid (HB3.out.trans (hp.1.mono HB3.out.size))
 have HE4 := hid (HE3.out.below hp.1)
 have HM14 := hid (HM13.out.below hp.1)
 have HM24 := hid (HM2.out.below hp.1)
 obtain ⟨A3, k3, D, en3, rfl, hd, hdl, h1, h2, h3⟩ := eparcels_form HL.out hp
 have HT3 := hid (And.intro h1 (And.intro h2 h3))
 have HD := hid hd
 have HC4 := hid (rparcels_any A cap L K w4 HE4.out HL.out HCAP.out HSZ.out)
 clear hp hd h1 h2 h3 HC3 HM13 HM2
 go_wp2_with fail
 refine HC4.out.mono ?_
 rintro e w5 hp
 have HB5 := hid (HB4.out.trans (hp.1.mono HB4.out.size))
 have HE5 := hid (HE4.out.below hp.1)
 have HM15 := hid (HM14.out.below hp.1)
 have HM25 := hid (HM24.out.below hp.1)
 have HD5 := hid (HD.out.kept (Kept.of_below hp.1))
 obtain ⟨A4, k4, D2, en4, rfl, hd, _, hcase⟩ := rparcels_form hp HL.out
 obtain ⟨h1, h2, h3⟩ := rcase_two hcase
 obtain ⟨hen, hdd⟩ := lists_same HT3.out.1 HT3.out.2.1 HT3.out.2.2 h1 h2 h3
 subst hen
 subst hdd
 have HDR := hid hd
 have HC5 := hid (parcelOf_any A cap L K p w5 HE5.out HL.out HCAP.out)
 clear hp hd hcase h1 h2 h3 HC4 HM14 HM24 HD
 go_wp2_with fail
 refine HC5.out.mono ?_
 rintro e w6 hp
 obtain ⟨q, en5, rfl⟩ := pof_form hp.2
 have HPQ := hid hp
 have HB6 := hid (HB5.out.trans (hp.1.mono HB5.out.size))
 have HE6 := hid (HE5.out.below hp.1)
 have HM16 := hid (HM15.out.below hp.1)
 have HM26 := hid (HM25.out.below hp.1)
 have HD6 := hid (HD5.out.kept (Kept.of_below hp.1))
 have HDR6 := hid (HDR.out.kept (Kept.of_below hp.1))
 clear hp HC5 HM15 HM25 HD5 HDR
 go_upto_region 8 with (refine store_pcl_new rfl _ _ rfl rfl rfl (q := q) rfl rfl ?_; intro W7 hbx7 hb7 hlt7; have HX7 := hid hbx7; have HB7 := hid (HB6.out.trans (hb7.mono HB6.out.size)); have HE7 := hid (HE6.out.below hb7); have HM17 := hid (HM16.out.below hb7); have HM27 := hid (HM26.out.below hb7); have HD7 := hid (HD6.out.kept (Kept.of_below hb7)); have HDR7 := hid (HDR6.out.kept (Kept.of_below hb7)); clear hbx7 hb7)
 have HC6 := hid (rparcelOf_any A cap L K p W7 HE7.out HL.out HCAP.out HSZ.out)
 clear HM16 HM26 HD6 HDR6
 go_wp2_with fail
 refine HC6.out.mono ?_
 rintro e w8 hp
 have hqe : e = .returned (.tuple #[q.val, .int .i64 en5]) := by
  obtain ⟨q2, en2, h1, h2⟩ := parcelOf_two HPQ.out hp
  rw [h2, ← h1]
 subst hqe
 have HB8 := hid (HB7.out.trans (hp.1.mono HB7.out.size))
 have HE8 := hid (HE7.out.below hp.1)
 have HX8 := hid (HX7.out.below hp.1)
 have HM18 := hid (HM17.out.below hp.1)
 have HM28 := hid (HM27.out.below hp.1)
 have HD8 := hid (HD7.out.kept (Kept.of_below hp.1))
 have HDR8 := hid (HDR7.out.kept (Kept.of_below hp.1))
 clear hp HC6 HM17 HM27 HD7 HDR7 HX7 HPQ
 go_upto_region 9 with (refine store_pcl_new rfl _ _ rfl rfl rfl (q := q) rfl rfl ?_; intro W9 hbx9 hb9 hlt9; have HY9 := hid hbx9; have HB9 := hid (HB8.out.trans (hb9.mono HB8.out.size)); have HE9 := hid (HE8.out.below hb9); have HX9 := hid (HX8.out.below hb9); have HM19 := hid (HM18.out.below hb9); have HM29 := hid (HM28.out.below hb9); have HD9 := hid (HD8.out.kept (Kept.of_below hb9)); have HDR9 := hid (HDR8.out.kept (Kept.of_below hb9)); clear hbx9 hb9)
 have HC7 := hid (finds_any A cap L K W9 HE9.out HL.out HCAP.out)
 clear HM18 HM28 HD8 HDR8 HX8
 go_wp2_with fail
 refine HC7.out.mono ?_
 rintro e w10 hp
 have HB10 := hid (HB9.out.trans (hp.1.mono HB9.out.size))
 have HE10 := hid (HE9.out.below hp.1)
 have HX10 := hid (HX9.out.below hp.1)
 have HY10 := hid (HY9.out.below hp.1)
 have HM110 := hid (HM19.out.below hp.1)
 have HM210 := hid (HM29.out.below hp.1)
 have HD10 := hid (HD9.out.kept (Kept.of_below hp.1))
 have HDR10 := hid (HDR9.out.kept (Kept.of_below hp.1))
 obtain ⟨A7, k7, ys, en7, rfl, hi7, h1, h2, h3⟩ := efinds_two hp
 have HYL : Hid (ys.length ≤ 1680) := hid (list_few HL.out h1 h2 h3 findsL_len)
 have HT7 := hid (And.intro h1 (And.intro h2 h3))
 have HI110 := hid hi7
 have HC8 := hid (rfinds_any A cap L K w10 HE10.out HL.out HCAP.out HSZ.out)
 clear hp hi7 h1 h2 h3 HC7 HX9 HY9 HM19 HM29 HD9 HDR9
 go_wp2_with fail
 refine HC8.out.mono ?_
 rintro e w11 hp
 have HB11 := hid (HB10.out.trans (hp.1.mono HB10.out.size))
 have HE11 := hid (HE10.out.below hp.1)
 have HX11 := hid (HX10.out.below hp.1)
 have HY11 := hid (HY10.out.below hp.1)
 have HM111 := hid (HM110.out.below hp.1)
 have HM211 := hid (HM210.out.below hp.1)
 have HD11 := hid (HD10.out.kept (Kept.of_below hp.1))
 have HDR11 := hid (HDR10.out.kept (Kept.of_below hp.1))
 have HI111 := hid (HI110.out.kept (Kept.of_below hp.1))
 obtain ⟨A8, k8, ys2, en8, rfl, hi8, h1, h2, h3⟩ := list_two hp rfl
 obtain ⟨hen, hyy⟩ := lists_same HT7.out.1 HT7.out.2.1 HT7.out.2.2 h1 h2 h3
 subst hen
 subst hyy
 have HI211 := hid hi8
 have HC9 := hid (present_any A cap L K hour w11 HE11.out HL.out HCAP.out)
 clear hp hi8 h1 h2 h3 HC8 HX10 HY10 HM110 HM210 HD10 HDR10 HI110
 go_wp2_with fail
 refine HC9.out.mono ?_
 rintro e w12 hp
 have HB12 := hid (HB11.out.trans (hp.1.mono HB11.out.size))
 have HE12 := hid (HE11.out.below hp.1)
 have HX12 := hid (HX11.out.below hp.1)
 have HY12 := hid (HY11.out.below hp.1)
 have HM112 := hid (HM111.out.below hp.1)
 have HM212 := hid (HM211.out.below hp.1)
 have HD12 := hid (HD11.out.kept (Kept.of_below hp.1))
 have HDR12 := hid (HDR11.out.kept (Kept.of_below hp.1))
 have HI112 := hid (HI111.out.kept (Kept.of_below hp.1))
 have HI212 := hid (HI211.out.kept (Kept.of_below hp.1))
 obtain ⟨A9, k9, zs, en9, rfl, hi9, h1, h2, h3⟩ := epres_two hp
 have HZL : Hid (zs.length ≤ 1680) := hid (list_few HL.out h1 h2 h3 (presL_len L hour))
 have HT9 := hid (And.intro h1 (And.intro h2 h3))
 have HI312 := hid hi9
 have HC10 := hid (rpresent_any A cap L K hour w12 HE12.out HL.out HCAP.out HSZ.out)
 clear hp hi9 h1 h2 h3 HC9 HX11 HY11 HM111 HM211 HD11 HDR11 HI111 HI211
 go_wp2_with fail
 refine HC10.out.mono ?_
 rintro e w13 hp
 have HB13 := hid (HB12.out.trans (hp.1.mono HB12.out.size))
 have HE13 := hid (HE12.out.below hp.1)
 have HX13 := hid (HX12.out.below hp.1)
 have HY13 := hid (HY12.out.below hp.1)
 have HM113 := hid (HM112.out.below hp.1)
 have HM213 := hid (HM212.out.below hp.1)
 have HD13 := hid (HD12.out.kept (Kept.of_below hp.1))
 have HDR13 := hid (HDR12.out.kept (Kept.of_below hp.1))
 have HI113 := hid (HI112.out.kept (Kept.of_below hp.1))
 have HI213 := hid (HI212.out.kept (Kept.of_below hp.1))
 have HI313 := hid (HI312.out.kept (Kept.of_below hp.1))
 obtain ⟨A10, k10, zs2, en10, rfl, hi10, h1, h2, h3⟩ := list_two hp rfl
 obtain ⟨hen, hzz⟩ := lists_same HT9.out.1 HT9.out.2.1 HT9.out.2.2 h1 h2 h3
 subst hen
 subst hzz
 have HI413 := hid hi10
 clear hp hi10 h1 h2 h3 HC10 HX12 HY12 HM112 HM212 HD12 HDR12 HI112 HI212 HI312
 go_wp2_with fail
 refine (sane_any w13).mono ?_
 rintro e w14 ⟨rfl, hb14⟩
 have HB14 := hid (HB13.out.trans (hb14.mono HB13.out.size))
 have HX14 := hid (HX13.out.below hb14)
 have HY14 := hid (HY13.out.below hb14)
 have HD14 := hid (HD13.out.kept (Kept.of_below hb14))
 have HDR14 := hid (HDR13.out.kept (Kept.of_below hb14))
 have HI114 := hid (HI113.out.kept (Kept.of_below hb14))
 have HI214 := hid (HI213.out.kept (Kept.of_below hb14))
 have HI314 := hid (HI313.out.kept (Kept.of_below hb14))
 have HI414 := hid (HI413.out.kept (Kept.of_below hb14))
 have HS1 := hid (sameReports_t A1 k1 A2 k2 M1 M2 w14 (by have := HML.out; omega) (HM113.out.below hb14) (HM213.out.below hb14) HRE.out)
 clear hb14 HX13 HY13 HD13 HDR13 HI113 HI213 HI313 HI413 HM113 HM213
 go_wp2_with fail
 refine HS1.out.mono ?_
 rintro e w15 ⟨rfl, hb15⟩
 have HB15 := hid (HB14.out.trans (hb15.mono HB14.out.size))
 have HX15 := hid (HX14.out.below hb15)
 have HY15 := hid (HY14.out.below hb15)
 have HI115 := hid (HI114.out.kept (Kept.of_below hb15))
 have HI215 := hid (HI214.out.kept (Kept.of_below hb15))
 have HI315 := hid (HI314.out.kept (Kept.of_below hb15))
 have HI415 := hid (HI414.out.kept (Kept.of_below hb15))
 have HS2 := hid (sameParcels_t A3 k3 A4 k4 D2 w15 (by omega) (HD14.out.kept (Kept.of_below hb15)) (HDR14.out.kept (Kept.of_below hb15)))
 clear hb15 HS1 HX14 HY14 HD14 HDR14 HI114 HI214 HI314 HI414
 go_wp2_with fail
 refine HS2.out.mono ?_
 rintro e w16 ⟨rfl, hb16⟩
 have HB16 := hid (HB15.out.trans (hb16.mono HB15.out.size))
 have HX16 := hid (HX15.out.below hb16)
 have HY16 := hid (HY15.out.below hb16)
 have HS3 := hid (same_lit (k := k7) (cb := k8) (xs := ys2) (by have := HYL.out; omega) (HI115.out.kept (Kept.of_below hb16)) (HI215.out.kept (Kept.of_below hb16)))
 have HI316 := hid (HI315.out.kept (Kept.of_below hb16))
 have HI416 := hid (HI415.out.kept (Kept.of_below hb16))
 have heq := pcl_eql q
 clear hb16 HS2 HX15 HY15 HI115 HI215 HI315 HI415
 go_wp2_with (first | refine load_pcl_g (by rfl) _ rfl _ rfl HX16.out ?_ | refine load_pcl_g (by rfl) _ rfl _ rfl HY16.out ?_)
 refine HS3.out.mono ?_
 rintro e w17 ⟨rfl, hb17⟩
 have HB17 := hid (HB16.out.trans (hb17.mono HB16.out.size))
 have HS4 := hid (same_lit (k := k9) (cb := k10) (xs := zs2) (by have := HZL.out; omega) (HI316.out.kept (Kept.of_below hb17)) (HI416.out.kept (Kept.of_below hb17)))
 clear hb17 HS3 HI316 HI416 heq
 go_wp2_with fail
 refine HS4.out.mono ?_
 rintro e w18 ⟨rfl, hb18⟩
 have HB18 := hid (HB17.out.trans (hb18.mono HB17.out.size))
 clear hb18 HS4
 go_wp2_with fail
 go_ret
 exact ⟨rfl, HB18.out⟩
end Go.Proofs.YtfaoillnakhejaaGreat
