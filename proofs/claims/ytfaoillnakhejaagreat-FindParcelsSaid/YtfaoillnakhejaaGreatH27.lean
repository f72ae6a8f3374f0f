/- Changed: the parcels whose ends are not the same at two hours of knowledge; The chapter's examples: ends, sides, what changed (plain). -/
import Derived.Test.YtfaoillnakhejaaGreatH25
import Derived.Test.YtfaoillnakhejaaGreatH9
import Derived.Test.YtfaoillnakhejaaGreatH26
namespace Go.Proofs.YtfaoillnakhejaaGreat
set_option maxRecDepth 100000
open Go.RowKit
def endOf : BoundR → Int
 | .none_ => 0
 | .end_ n _ _ => n
def evenB : BalR → Bool
 | .even _ => true
 | _ => false
def diffF (C1 : List Ent) (ids1 : List Int) (C2 : List Ent) (ids2 : List Int) (p : Int) (up : Bool) : Option Bool :=
 match boundF (arcsF C1 ids1) (nodesF (reps C1)) p up, boundF (arcsF C2 ids2) (nodesF (reps C2)) p up with
 | some a, some b => some (endOf a != endOf b)
 | _, _ => none
/-- What is still to be compared: both ends, the upper one alone, nothing. -/
def innerF (C1 : List Ent) (ids1 : List Int) (C2 : List Ent) (ids2 : List Int) (p : Int) : Nat → Option Bool
 | 0 => match diffF C1 ids1 C2 ids2 p false with
  | none => none
  | some true => some true
  | some false => diffF C1 ids1 C2 ids2 p true
 | 1 => diffF C1 ids1 C2 ids2 p true
 | _ => some false
def changedL (D : Int → Option Bool) (ids2 : List Int) : List Int → Option (List Int)
 | [] => some []
 | p :: ps => if p ∈ ids2 then match D p with
   | none => none
   | some b => (changedL D ids2 ps).map fun l => if b then p :: l else l
  else changedL D ids2 ps
def changedF (C1 : List Ent) (ids1 : List Int) (C2 : List Ent) (ids2 : List Int) : Option (Option (List Int)) :=
 match balF (arcsF C1 ids1) (nodesF (reps C1)), balF (arcsF C2 ids2) (nodesF (reps C2)) with
 | some b1, some b2 => if evenB b1 && evenB b2 then (changedL (fun p => innerF C1 ids1 C2 ids2 p 0) ids2 ids1).map some else some none
 | _, _ => none
theorem bal_short {w : World} {g : Nat} {A : Option Addr} {c : Nat} {L : List Arc} {C : List Ent} {R : BalR} {e : Ending} {w' : World} (h : BalPost w g A c L C R e w') : w.grownBy w' (some g) ∧ ∃ p v, e = .returned (.tuple #[.agg #[.int .i64 p, v], .bool (evenB R)]) ∧ v.oneCell' = true := by
 obtain ⟨h1, h2⟩ := h
 rcases R with p | seen | x
 ·exact ⟨h1, p, _, h2, rfl⟩
 ·obtain ⟨v, h3, h4⟩ := h2
  obtain ⟨A, k, rfl, _⟩ := ownsRow.form h4
  exact ⟨h1, 0, _, h3, rfl⟩
 ·exact ⟨h1, 0, _, h2.1, rfl⟩
theorem bound_short {w : World} {C : List Ent} {R : BoundR} {e : Ending} {w' : World} (h : BoundPost w C R e w') : Below w.heap.size w w' ∧ ∃ A1 n1 k1 A2 n2 k2 b, e = .returned (.tuple #[.int .i64 (endOf R), .slice A1 n1 k1, .slice A2 n2 k2, .bool b]) := by
 obtain ⟨h1, h2⟩ := h
 rcases R with _ | ⟨n, x, sn⟩
 ·exact ⟨h1, none, 0, 0, none, 0, 0, false, h2⟩
 ·obtain ⟨v1, v2, rfl, ⟨xb, _, rfl, _⟩, h3⟩ := h2
  obtain ⟨A, k, rfl, _⟩ := ownsRow.form h3
  exact ⟨h1, _, _, _, _, _, _, true, rfl⟩
def ChangedPost (L : List Ent) (w : World) (R : Option (List Int)) (e : Ending) (w' : World) : Prop :=
 Below w.heap.size w w' ∧ ((∃ K er, FailsBy L K [] er ∧ e = .returned (.tuple #[.slice none 0 0, .int .i64 er])) ∨ (Valid (reps L) ∧ match R with
  | none => e = .returned (.tuple #[.slice none 0 0, .int .i64 32])
  | some l => ∃ v, e = .returned (.tuple #[v, .int .i64 0]) ∧ w'.ownsRow w.heap.size 3 1 v l.length (ints l)))
set_option maxHeartbeats 16000000 in
theorem changed_any (A : Option Addr) (cap : Nat) (L : List Ent) (K1 K2 : Int) (w : World) (hA : EntsAt w A L) (hl : L.length ≤ 210) (hcap : L.length ≤ cap) {R : Option (List Int)} (hR : ∀ ids1 ids2, IdsOf (countE L K1) ids1 → IdsOf (countE L K2) ids2 → changedF (countE L K1) ids1 (countE L K2) ids2 = some R) :
  Calls Tryz.prog 45 #[.slice A L.length cap, .int .i64 K1, .int .i64 K2] w (ChangedPost L w R) := by
 have hlk1 := looks_later hA hl hcap K1 [] (by simp) 0
 have hlk2 := looks_later hA hl hcap K2 [] (by simp) 0
 have HLK1 := hid hlk1
 have HLK2 := hid hlk2
 have HCL1 : Hid ((countE L K1).length ≤ 210) := hid (Nat.le_trans (countE_len L K1) hl)
 have HCL2 : Hid ((countE L K2).length ≤ 210) := hid (Nat.le_trans (countE_len L K2) hl)
 have HRF := hid hR
 clear hA hR hlk1 hlk2
 go_enter Tryz.func45, Tryz.ntmps45
 go_wp2_with fail
 refine (HLK1.out w none (Below.refl _ _) (IntsAt.nil _ _)).mono ?_
 rintro e w2 hpost
 obtain ⟨hb2, hcase⟩ := looks_two hpost
 have HB2 := hid hb2
 clear hpost hb2
 rcases hcase with ⟨er, hf, rfl⟩ | ⟨hv, ids1, hids, _, bb, s, r1, r2, r3, r4, A2, cap2, rfl, hla⟩
 ·have hne : (er != 0) = true := bne_iff_ne.2 hf.ne
  have HF := hid hf
  clear hf
  go_wp2_with fail
  go_ret2
  exact ⟨HB2.out, .inl ⟨_, er, HF.out, rfl⟩⟩
 have HI1 := hid hids
 have HV := hid hv
 have HLA1 := hid hla
 clear hids hv hla
 go_wp2_with fail
 refine (HLK2.out w2 none HB2.out (IntsAt.nil _ _)).mono ?_
 rintro e w3 hpost
 obtain ⟨hb3, hcase⟩ := looks_two hpost
 have HB3 := hid (HB2.out.trans (hb3.mono HB2.out.size))
 have HLA13 := hid (HLA1.out.below hb3)
 clear hpost hb3
 rcases hcase with ⟨er, hf, rfl⟩ | ⟨_, ids2, hids, _, ba, sa, q1, q2, q3, q4, A3, cap3, rfl, hla⟩
 ·have hne : (er != 0) = true := bne_iff_ne.2 hf.ne
  have HF := hid hf
  clear hf
  go_wp2_with fail
  go_ret2
  exact ⟨HB3.out, .inl ⟨_, er, HF.out, rfl⟩⟩
 have hR := HRF.out ids1 ids2 HI1.out hids
 have hil1 := ids_few HLA1.out.sound HCL1.out HI1.out
 have hil2 := ids_few hla.sound HCL2.out hids
 obtain ⟨C1, hC1⟩ : ∃ C, countE L K1 = C := ⟨_, rfl⟩
 obtain ⟨C2, hC2⟩ : ∃ C, countE L K2 = C := ⟨_, rfl⟩
 rw [hC1] at hR HCL1 HLA1 HLA13
 rw [hC2] at hR hla HCL2
 have HLA23 := hid hla
 have hg1 := arcs_good HLA1.out.sound ids1
 have hg2 := arcs_good hla.sound ids2
 have hl1 : (arcsF C1 ids1).length = ids1.length := by simp [arcsF]
 have hl2 : (arcsF C2 ids2).length = ids2.length := by simp [arcsF]
 unfold changedF at hR
 rcases hb1 : balF (arcsF C1 ids1) (nodesF (reps C1)) with _ | B1
 ·rw [hb1] at hR; cases hR
 rcases hb2 : balF (arcsF C2 ids2) (nodesF (reps C2)) with _ | B2
 ·rw [hb1, hb2] at hR; cases hR
 rw [hb1, hb2] at hR
 dsimp only at hR
 have HR := hid hR
 have HBL1 := hid hb1
 have HBL2 := hid hb2
 have HG1 := hid hg1
 have HG2 := hid hg2
 have HL1 := hid hl1
 have HL2 := hid hl2
 have HGR1 := hid (graph2_any HLA13.out (by omega))
 have HIL := hid (And.intro hil1 hil2)
 clear hids hla hR hC1 hC2 hb1 hb2 hg1 hg2 hl1 hl2 HRF HLK1 HLK2
 go_wp2_with fail
 refine HGR1.out.mono ?_
 rintro e w4 ⟨g, Aa, c, rfl, hga, hgl, hAa, hb4⟩
 have HB4 := hid (HB3.out.trans (hb4.mono HB3.out.size))
 have HBA := hid (balance_any hga (fun a e => ⟨(hAa a e).2.2, (hAa a e).2.1⟩) (fun wr hg => HLA13.out.near hb4 hg hgl) HCL1.out (by have := HL1.out; have := HIL.out.1; omega) HG1.out HBL1.out)
 have HLA14 := hid (fun wr (hg : w4.grownBy wr (some g)) => HLA13.out.near hb4 hg hgl)
 have HLA24 := hid (fun wr (hg : w4.grownBy wr (some g)) => HLA23.out.near hb4 hg hgl)
 have HGL := hid (show w.heap.size ≤ g by have := HB3.out.size; omega)
 clear hga hgl hAa hb4 HGR1
 go_wp2_with fail
 refine HBA.out.mono ?_
 rintro e w5 hpost
 obtain ⟨hgr5, p5, v5, rfl, ho5⟩ := bal_short hpost
 have HB5 : Hid (Below w.heap.size w w5) := hid (HB4.out.grown hgr5 HB4.out.size (fun k e => by cases e; exact HGL.out))
 have HLA15 := hid (HLA14.out w5 hgr5)
 have HLA25 := hid (HLA24.out w5 hgr5)
 clear hpost hgr5 HBA HLA14 HLA24
 obtain ⟨e1, he1⟩ : ∃ e1, evenB B1 = e1 := ⟨_, rfl⟩
 have HE1 := hid he1
 rw [he1]
 clear he1
 go_upto_region 8 with (first | (refine store_conf_new rfl _ _ rfl rfl rfl (p := p5) (v := v5) rfl ho5 rfl ?_; intro W6 hb6 hlt6; have HB6 := hid (HB5.out.trans (hb6.mono HB5.out.size)); have HLA16 := hid (HLA15.out.below hb6); have HLA26 := hid (HLA25.out.below hb6); clear hb6))
 have HGR2 := hid (graph2_any HLA26.out (by have := HIL.out.2; omega))
 go_wp2_with fail
 refine HGR2.out.mono ?_
 rintro e w7 ⟨g, Aa, c, rfl, hga, hgl, hAa, hb7⟩
 have HB7 := hid (HB6.out.trans (hb7.mono HB6.out.size))
 have HBA := hid (balance_any hga (fun a e => ⟨(hAa a e).2.2, (hAa a e).2.1⟩) (fun wr hg => HLA26.out.near hb7 hg hgl) HCL2.out (by have := HL2.out; have := HIL.out.2; omega) HG2.out HBL2.out)
 have HLA17 := hid (fun wr (hg : w7.grownBy wr (some g)) => HLA16.out.near hb7 hg hgl)
 have HLA27 := hid (fun wr (hg : w7.grownBy wr (some g)) => HLA26.out.near hb7 hg hgl)
 have HGL := hid (show w.heap.size ≤ g by have := HB6.out.size; omega)
 clear hga hgl hAa hb7 HGR2
 go_wp2_with fail
 refine HBA.out.mono ?_
 rintro e w8 hpost
 obtain ⟨hgr8, p8, v8, rfl, ho8⟩ := bal_short hpost
 have HB8 : Hid (Below w.heap.size w w8) := hid (HB7.out.grown hgr8 HB7.out.size (fun k e => by cases e; exact HGL.out))
 have HLA18 := hid (HLA17.out w8 hgr8)
 have HLA28 := hid (HLA27.out w8 hgr8)
 clear hpost hgr8 HBA HLA17 HLA27
 obtain ⟨e2, he2⟩ : ∃ e2, evenB B2 = e2 := ⟨_, rfl⟩
 have HE2 := hid he2
 rw [he2]
 clear he2
 go_upto_region 9 with (first | (refine store_conf_new rfl _ _ rfl rfl rfl (p := p8) (v := v8) rfl ho8 rfl ?_; intro W9 hb9 hlt9; have HB9 := hid (HB8.out.trans (hb9.mono HB8.out.size)); have HLA19 := hid (HLA18.out.below hb9); have HLA29 := hid (HLA28.out.below hb9); clear hb9))
 have hRR := HR.out
 rw [HE1.out, HE2.out] at hRR
 have HRR := hid hRR
 clear hRR HR HLA15 HLA25 HLA16 HLA26 HLA18 HLA28
 rcases hee : e1 && e2 with _ | _
 ·have hRR := HRR.out
  rw [hee, if_neg (by simp)] at hRR
  have hRN := (Option.some.inj hRR)
  subst hRN
  clear hRR HRR
  rcases e1 with _ | _ <;> rcases e2 with _ | _
  all_goals first | (cases hee; done) | skip
  all_goals clear hee
  all_goals go_wp2_with fail
  all_goals go_ret2
  all_goals exact ⟨HB9.out, .inr ⟨HV.out, rfl⟩⟩
 ·have hRR := HRR.out
  rw [hee, if_pos rfl] at hRR
  obtain ⟨rfl, rfl⟩ : e1 = true ∧ e2 = true := by simpa using hee
  obtain ⟨l, hcl2, hRl⟩ := Option.map_eq_some_iff.1 hRR
  subst hRl
  have HCH := hid hcl2
  obtain ⟨b0, ⟨Ai, ci, b1, hIi, hci⟩, _⟩ := HLA19.out.cells
  have HII := hid hIi
  clear hRR HRR hee hcl2 hIi b0
  go_upto_region 13 with fail
  clear b1
  obtain ⟨V, hV⟩ : ∃ V, V = W9 := ⟨_, rfl⟩
  subst hV
  go_loopg [15, 73] (ids1.length) (fun gm ov iv wq => ∃ (k : Nat) (out : List Int), k ≤ ids1.length ∧ gm = ids1.length - k ∧ iv = .int .i64 k ∧ Hid ((changedL (fun p => innerF C1 ids1 C2 ids2 p 0) ids2 (ids1.drop k)).map (out ++ ·) = some l) ∧ Hid (wq.ownsRow V.heap.size 3 1 ov out.length (ints out)) ∧ Hid (Below V.heap.size V wq) ∧ Hid (out.length ≤ k))
  case atStart => exact ⟨0, [], by omega, by omega, rfl, hid (by rw [List.drop_zero, HCH.out]; rfl), hid ⟨rfl, .inl ⟨rfl, rfl⟩⟩, hid (Below.refl _ _), hid (Nat.le_refl _)⟩
  case round =>
   obtain ⟨k, out, hk, hgk, rfl, hch, how, hbw, hol⟩ := hrel
   by_cases hkl : k < ids1.length
   ·obtain ⟨b4, off4, hAe, hc⟩ := (HII.out.kept (Kept.of_below hbw.out)) (by omega)
    cases hAe
    have hck := hc k hkl
    have hdr : ids1.drop k = ids1[k] :: ids1.drop (k + 1) := (List.getElem_cons_drop hkl).symm
    have hcc := hch.out
    rw [hdr] at hcc
    obtain ⟨p, hp⟩ : ∃ p, ids1[k] = p := ⟨_, rfl⟩
    rw [hp] at hck hcc
    unfold changedL at hcc
    have hlb := HLA29.out.below hbw.out
    obtain ⟨_, _, c2⟩ := hlb.cells
    have hlk := hlb.look2 p
    obtain ⟨q, hq⟩ : ∃ q, pclOr C2 ids2 p = q := ⟨_, rfl⟩
    rw [hq] at hlk
    have i0 : (0 : Int) ≤ k := by omega
    have i1 : (k : Int) < ids1.length := by omega
    have HCC := hid hcc
    obtain ⟨Ao, ko, hvo, hxo⟩ := ownsRow.form how.out
    have HOW := how.out
    subst hvo
    have HOW := hid HOW
    clear hc hdr hp hcc hlb hq hch how hxo
    by_cases hm : p ∈ ids2
    ·have hmd : decide (p ∈ ids2) = true := decide_eq_true hm
     rw [hmd] at hlk
     have hcc := HCC.out
     rw [if_pos hm] at hcc
     rcases hin : innerF C1 ids1 C2 ids2 p 0 with _ | b
     ·rw [hin] at hcc
      cases hcc
     rw [hin] at hcc
     have HCC2 := hid hcc
     have HIN := hid hin
     clear hm hmd hcc HCC hin
     go_upto_region 17 with (first | (refine store_pcl_new rfl _ _ rfl rfl rfl (q := q) rfl rfl ?_; intro W2 hpx hb2 hlt2; have HB2 := hid (hbw.out.trans (hb2.mono hbw.out.size)); have HO2 := hid (own_below HOW.out hb2); clear hpx hb2))
     clear hck c2 hlk
     go_upto_region 18 with fail
     obtain ⟨W3, hW3⟩ : ∃ W3, W2.alloc (.cells #[.bool false, .bool true] 4) = W3 := ⟨_, rfl⟩
     have hb3 : Below W2.heap.size W2 W3 := by rw [← hW3]; exact (Below.refl _ _).alloc (Nat.le_refl _) _
     have hc30 : W3.cell? ⟨W2.heap.size, 0, none⟩ = some (.bool false) := by rw [← hW3, cell_new]; rfl
     have hc31 : W3.cell? ⟨W2.heap.size, 1, none⟩ = some (.bool true) := by rw [← hW3, cell_new]; rfl
     rw [hW3]
     have HB3 := hid (HB2.out.trans (hb3.mono HB2.out.size))
     have HO3 := hid (own_below HO2.out hb3)
     have HC30 := hid hc30
     have HC31 := hid hc31
     clear hW3 hb3 hc30 hc31
     go_loopg [15, 90] (2) (fun gm ov iv wq => ∃ (j : Nat), j ≤ 2 ∧ gm = 2 - j ∧ ov = .slice Ao out.length ko ∧ iv = .int .i64 j ∧ Hid (innerF C1 ids1 C2 ids2 p j = some b) ∧ Hid (Below W3.heap.size W3 wq))
     case atStart => exact ⟨0, by omega, by omega, rfl, rfl, HIN, hid (Below.refl _ _)⟩
     case round =>
      obtain ⟨j, hj, hgj, rfl, rfl, hinj, hbj⟩ := hrel
      have HBJ := hid (HB3.out.trans (hbj.out.mono HB3.out.size))
      have hLb1 := HLA19.out.below HBJ.out
      rcases j with _ | _ | j
      ·have hbf := hinj.out
       unfold innerF at hbf
       rcases hd : diffF C1 ids1 C2 ids2 p false with _ | d
       ·rw [hd] at hbf; cases hbf
       rw [hd] at hbf
       unfold diffF at hd
       rcases hr1 : boundF (arcsF C1 ids1) (nodesF (reps C1)) p false with _ | R1
       ·rw [hr1] at hd; cases hd
       rcases hr2 : boundF (arcsF C2 ids2) (nodesF (reps C2)) p false with _ | R2
       ·rw [hr1, hr2] at hd; cases hd
       rw [hr1, hr2] at hd
       have hdd := Option.some.inj hd
       have cj := Kept.of_below hbj.out _ _ HC30.out
       have HBO := hid (bound_any hLb1 HCL1.out (by have := HIL.out.1; omega) HG1.out p false hr1)
       have HR2 := hid hr2
       have HDD := hid hdd
       have HBF := hid hbf
       clear hbf hd hr1 hr2 hdd hLb1
       go_wp2_with fail
       refine HBO.out.mono ?_
       rintro e w4 hpost
       obtain ⟨hb4, A1, n1, k1, A2', n2, k2, bb1, rfl⟩ := bound_short hpost
       have HB4 := hid (HBJ.out.trans (hb4.mono HBJ.out.size))
       have HBJ4 := hid (hbj.out.trans (hb4.mono hbj.out.size))
       have HBO2 := hid (bound_any (HLA29.out.below HB4.out) HCL2.out (by have := HIL.out.2; omega) HG2.out p false HR2.out)
       obtain ⟨m1, hm1⟩ : ∃ m1, endOf R1 = m1 := ⟨_, rfl⟩
       rw [hm1] at HDD ⊢
       clear hpost hb4 HBO hm1 cj
       go_wp2_with fail
       refine HBO2.out.mono ?_
       rintro e w5 hpost
       obtain ⟨hb5, A1', n1', k1', A2'', n2', k2', bb2, rfl⟩ := bound_short hpost
       have HB5 := hid (HB4.out.trans (hb5.mono HB4.out.size))
       have HBJ5 := hid (HBJ4.out.trans (hb5.mono HBJ4.out.size))
       obtain ⟨m2, hm2⟩ : ∃ m2, endOf R2 = m2 := ⟨_, rfl⟩
       rw [hm2] at HDD ⊢
       clear hpost hb5 HBO2 hm2 HR2
       by_cases hmm : m1 = m2
       ·have dm : (m1 != m2) = false := by rw [hmm]; simp
        have hd0 := HDD.out
        rw [dm] at hd0
        subst hd0
        have hbf := HBF.out
        clear HBF hmm
        go_wp2_with fail
        go_roundg (2 - (0 + 1))
        case measure => omega
        case rel => exact ⟨0 + 1, by omega, rfl, rfl, by go_num, hid (by first | exact hbf | (unfold innerF; exact hbf) | (cases hbf; rfl)), HBJ5⟩
       ·have dm : (m1 != m2) = true := bne_iff_ne.2 hmm
        have hd0 := HDD.out
        rw [dm] at hd0
        subst hd0
        have hbf := HBF.out
        cases hbf
        obtain ⟨v6, w6, hr6, ho6, hb6⟩ := app_big p (own_below HO3.out HBJ5.out) (by have := hol.out; have := HIL.out.1; omega) HB5.out.size
        obtain ⟨A6, k6, hv6, hx6⟩ := ownsRow.form ho6
        subst hv6
        have HR6 := hid hr6
        have HO6 := hid ho6
        have HB6 := hid (HB5.out.trans hb6)
        have hln : (out ++ [p]).length = out.length + 1 := by simp
        rw [hln] at HR6
        have HLN := hid hln
        clear hr6 ho6 hb6 hx6 hln HBF hmm
        go_wp2_with (first | (at_builtin; refine wpList_app rfl rfl rfl rfl rfl HR6.out ?_))
        go_roundg (ids1.length - (k + 1))
        case measure => omega
        case rel => exact ⟨k + 1, out ++ [p], by omega, rfl, by go_num, hid (by
         have h1 := HCC2.out
         simpa [Option.map_map, Function.comp_def] using h1), hid (by have := HO6.out; rw [HLN.out] at this ⊢; exact this), HB6, hid (by have := hol.out; have := HLN.out; omega)⟩
      ·have hbf := hinj.out
       unfold innerF at hbf
       rcases hd : diffF C1 ids1 C2 ids2 p true with _ | d
       ·rw [hd] at hbf; cases hbf
       rw [hd] at hbf
       unfold diffF at hd
       rcases hr1 : boundF (arcsF C1 ids1) (nodesF (reps C1)) p true with _ | R1
       ·rw [hr1] at hd; cases hd
       rcases hr2 : boundF (arcsF C2 ids2) (nodesF (reps C2)) p true with _ | R2
       ·rw [hr1, hr2] at hd; cases hd
       rw [hr1, hr2] at hd
       have hdd := Option.some.inj hd
       have cj := Kept.of_below hbj.out _ _ HC31.out
       have HBO := hid (bound_any hLb1 HCL1.out (by have := HIL.out.1; omega) HG1.out p true hr1)
       have HR2 := hid hr2
       have HDD := hid hdd
       have HBF := hid hbf
       clear hbf hd hr1 hr2 hdd hLb1
       go_wp2_with fail
       refine HBO.out.mono ?_
       rintro e w4 hpost
       obtain ⟨hb4, A1, n1, k1, A2', n2, k2, bb1, rfl⟩ := bound_short hpost
       have HB4 := hid (HBJ.out.trans (hb4.mono HBJ.out.size))
       have HBJ4 := hid (hbj.out.trans (hb4.mono hbj.out.size))
       have HBO2 := hid (bound_any (HLA29.out.below HB4.out) HCL2.out (by have := HIL.out.2; omega) HG2.out p true HR2.out)
       obtain ⟨m1, hm1⟩ : ∃ m1, endOf R1 = m1 := ⟨_, rfl⟩
       rw [hm1] at HDD ⊢
       clear hpost hb4 HBO hm1 cj
       go_wp2_with fail
       refine HBO2.out.mono ?_
       rintro e w5 hpost
       obtain ⟨hb5, A1', n1', k1', A2'', n2', k2', bb2, rfl⟩ := bound_short hpost
       have HB5 := hid (HB4.out.trans (hb5.mono HB4.out.size))
       have HBJ5 := hid (HBJ4.out.trans (hb5.mono HBJ4.out.size))
       obtain ⟨m2, hm2⟩ : ∃ m2, endOf R2 = m2 := ⟨_, rfl⟩
       rw [hm2] at HDD ⊢
       clear hpost hb5 HBO2 hm2 HR2
       by_cases hmm : m1 = m2
       ·have dm : (m1 != m2) = false := by rw [hmm]; simp
        have hd0 := HDD.out
        rw [dm] at hd0
        subst hd0
        have hbf := HBF.out
        clear HBF hmm
        go_wp2_with fail
        go_roundg (2 - (1 + 1))
        case measure => omega
        case rel => exact ⟨1 + 1, by omega, rfl, rfl, by go_num, hid (by first | exact hbf | (unfold innerF; exact hbf) | (cases hbf; rfl)), HBJ5⟩
       ·have dm : (m1 != m2) = true := bne_iff_ne.2 hmm
        have hd0 := HDD.out
        rw [dm] at hd0
        subst hd0
        have hbf := HBF.out
        cases hbf
        obtain ⟨v6, w6, hr6, ho6, hb6⟩ := app_big p (own_below HO3.out HBJ5.out) (by have := hol.out; have := HIL.out.1; omega) HB5.out.size
        obtain ⟨A6, k6, hv6, hx6⟩ := ownsRow.form ho6
        subst hv6
        have HR6 := hid hr6
        have HO6 := hid ho6
        have HB6 := hid (HB5.out.trans hb6)
        have hln : (out ++ [p]).length = out.length + 1 := by simp
        rw [hln] at HR6
        have HLN := hid hln
        clear hr6 ho6 hb6 hx6 hln HBF hmm
        go_wp2_with (first | (at_builtin; refine wpList_app rfl rfl rfl rfl rfl HR6.out ?_))
        go_roundg (ids1.length - (k + 1))
        case measure => omega
        case rel => exact ⟨k + 1, out ++ [p], by omega, rfl, by go_num, hid (by
         have h1 := HCC2.out
         simpa [Option.map_map, Function.comp_def] using h1), hid (by have := HO6.out; rw [HLN.out] at this ⊢; exact this), HB6, hid (by have := hol.out; have := HLN.out; omega)⟩
      ·obtain rfl : j = 0 := by omega
       have hbf := hinj.out
       unfold innerF at hbf
       cases hbf
       clear hLb1
       go_wp2_with fail
       go_roundg (ids1.length - (k + 1))
       case measure => omega
       case rel => exact ⟨k + 1, out, by omega, rfl, by go_num, hid (by
        have h1 := HCC2.out
        simpa [Option.map_map] using h1), hid (own_below HO3.out hbj.out), HBJ, hid (by have := hol.out; omega)⟩
    ·have hmd : decide (p ∈ ids2) = false := decide_eq_false hm
     rw [hmd] at hlk
     have hcc := HCC.out
     rw [if_neg hm] at hcc
     have HCC2 := hid hcc
     clear hm hmd hcc HCC
     go_wp2_with (first | (refine store_pcl_new rfl _ _ rfl rfl rfl (q := q) rfl rfl ?_; intro W2 hpx hb2 hlt2; have HB2 := hid (hbw.out.trans (hb2.mono hbw.out.size)); have HO2 := hid (own_below HOW.out hb2); clear hpx hb2))
     go_roundg (ids1.length - (k + 1))
     case measure => omega
     case rel => exact ⟨k + 1, out, by omega, rfl, by go_num, HCC2, HO2, HB2, hid (by have := hol.out; omega)⟩
   ·obtain rfl : k = ids1.length := by omega
    have hcc := hch.out
    rw [List.drop_length] at hcc
    unfold changedL at hcc
    obtain ⟨Ao, ko, hvo, hxo⟩ := ownsRow.form how.out
    have HOW := how.out
    subst hvo
    have HOW := hid HOW
    have HCC := hid hcc
    clear hch how hxo hcc
    go_wp2_with fail
    go_ret2
    have h1 := HCC.out
    simp at h1
    subst h1
    exact ⟨HB9.out.trans (hbw.out.mono HB9.out.size), .inr ⟨HV.out, _, rfl, own_lo HOW.out HB9.out.size⟩⟩
theorem weight13 (A : Option Addr) (c : Nat) : weightF (beach5 A c) ids5 31 = some (15, 35, 0) := by kernel_rfl
theorem weight14 (A : Option Addr) (c : Nat) : weightF (beachE A c) ids5 31 = some (15, 30, 0) := by kernel_rfl
theorem shows14 (A : Option Addr) (c : Nat) : ShowsB (arcsF (beachE A c) ids5) 31 true 30 [3] (arcF (beachE A c) 31) = true := by kernel_rfl
theorem side3 : IsSideP beachR [3] := by
 intro j h
 obtain rfl : j = 0 := by simpa using h
 exact ⟨by kernel_rfl, fun h => absurd h (by omega)⟩
theorem changed1314 (A : Option Addr) (c : Nat) : changedF (beach5 A c) ids5 (beachE A c) ids5 = some (some [10, 30, 31]) := by kernel_rfl
end Go.Proofs.YtfaoillnakhejaaGreat
