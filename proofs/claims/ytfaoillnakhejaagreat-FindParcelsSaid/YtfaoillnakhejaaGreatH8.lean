/- The reference: CheckReport. -/
import Derived.Test.YtfaoillnakhejaaGreatH7
import Derived.Test.YtfaoillnakhejaaGreatG10
import Derived.Deep.CutRange
import Derived.Deep.CutBlock
namespace Go.Proofs.YtfaoillnakhejaaGreat
set_option maxRecDepth 100000
section
open Go.RowKit
set_option linter.unusedSimpArgs false
def Rep.ok0 (r : Rep) : Bool := decide (1 ≤ r.id ∧ r.id ≤ 1000000) && decide (0 ≤ r.known ∧ r.known ≤ 1000000) && decide (0 ≤ r.hour ∧ r.hour ≤ r.known)
/-- What a kind asks of its own fields. -/
def Rep.fine (r : Rep) : Bool :=
 if r.kind = 1 then decide (0 ≤ r.cell ∧ r.cell ≤ 39) && markB r.mark && nameB r.goods && spanB r.lo r.hi && partyB r.party
 else if r.kind = 2 then parcelB r.parcel && decide (2 ≤ r.count ∧ r.count ≤ 8)
 else if r.kind = 3 then partsB r.parts
 else if r.kind = 4 then parcelB r.parcel && spanB r.lo r.hi
 else if r.kind = 5 ∨ r.kind = 6 then parcelB r.parcel && partyB r.party
 else if r.kind = 7 then parcelB r.parcel && parcelB r.other && decide (r.parcel ≠ r.other)
 else if r.kind = 8 then decide (r.hour = 0) && decide (1 ≤ r.of ∧ r.of ≤ 1000000) && decide (r.of ≠ r.id)
 else false
theorem Rep.wfB_fine (r : Rep) : r.wfB = (r.ok0 && r.fine && decide (r = r.want)) := by
 rw [r.wfB_want, Bool.eq_iff_iff]
 unfold Rep.okB Rep.fine Rep.ok0
 by_cases k1 : r.kind = 1
 ·simp only [if_pos k1, Bool.and_eq_true, decide_eq_true_eq]; grind
 by_cases k2 : r.kind = 2
 ·simp only [if_neg k1, if_pos k2, Bool.and_eq_true, decide_eq_true_eq]; grind
 by_cases k3 : r.kind = 3
 ·simp only [if_neg k1, if_neg k2, if_pos k3, Bool.and_eq_true, decide_eq_true_eq]; grind
 by_cases k4 : r.kind = 4
 ·simp only [if_neg k1, if_neg k2, if_neg k3, if_pos k4, Bool.and_eq_true, decide_eq_true_eq]; grind
 by_cases k5 : r.kind = 5 ∨ r.kind = 6
 ·simp only [if_neg k1, if_neg k2, if_neg k3, if_neg k4, if_pos k5, Bool.and_eq_true, decide_eq_true_eq]; grind
 by_cases k7 : r.kind = 7
 ·simp only [if_neg k1, if_neg k2, if_neg k3, if_neg k4, if_neg k5, if_pos k7, Bool.and_eq_true, decide_eq_true_eq]; grind
 by_cases k8 : r.kind = 8
 ·simp only [if_neg k1, if_neg k2, if_neg k3, if_neg k4, if_neg k5, if_neg k7, if_pos k8, Bool.and_eq_true, decide_eq_true_eq]; grind
 ·simp [if_neg k1, if_neg k2, if_neg k3, if_neg k4, if_neg k5, if_neg k7, if_neg k8]
theorem rwithin_t (n lo hi : Int) (w : World) {t : Bool} (ht : decide (lo ≤ n ∧ n ≤ hi) = t) : Calls Tryz.prog 150 #[.int .i64 n, .int .i64 lo, .int .i64 hi] w fun e w' => e = .returned (.bool t) ∧ w' = w := by
 subst ht
 exact rwithin_any n lo hi w
theorem rparcel_t (n : Int) (w : World) {t : Bool} (ht : parcelB n = t) : Calls Tryz.prog 154 #[.int .i64 n] w fun e w' => e = .returned (.bool t) ∧ w' = w := by
 subst ht
 exact rparcel_any n w
theorem rmark_t (s : ByteArray) (w : World) (hs : s.size ≤ 1000000) {t : Bool} (ht : markB s = t) : Calls Tryz.prog 151 #[.string s] w fun e w' => e = .returned (.bool t) ∧ w' = w := by
 subst ht
 exact rmark_any s w hs
theorem rname_t (s : ByteArray) (w : World) (hs : s.size ≤ 1000000) {t : Bool} (ht : nameB s = t) : Calls Tryz.prog 152 #[.string s] w fun e w' => e = .returned (.bool t) ∧ w' = w := by
 subst ht
 exact rname_any s w hs
theorem rspan_t (lo hi : Int) (w : World) {t : Bool} (ht : spanB lo hi = t) : Calls Tryz.prog 153 #[.agg #[.int .i64 lo, .int .i64 hi]] w fun e w' => e = .returned (.bool t) ∧ Below w.heap.size w w' := by
 subst ht
 exact rspan_any lo hi w
theorem rdifferent_t (A : Option Addr) (cap : Nat) (l : List Int) (w : World) (hm : l.length ≤ 1000000) (hA : IntsAt w A l) {t : Bool} (ht : partsB l = t) :
  Calls Tryz.prog 155 #[.slice A l.length cap] w fun e w' => e = .returned (.bool t) ∧ Below w.heap.size w w' := by
 subst ht
 exact rdifferent_any A cap l w hm hA
theorem rsameR_t (r s : Rep) (A B : Option Addr) (c d : Nat) (w : World) (hr : r.parts.length ≤ 100) (hs : s.parts.length ≤ 100) (hA : IntsAt w A r.parts) (hB : IntsAt w B s.parts) {t : Bool} (ht : decide (r = s) = t) :
  Calls Tryz.prog 86 #[r.val A c, s.val B d] w fun e w' => e = .returned (.bool t) ∧ Below w.heap.size w w' := by
 subst ht
 exact rsame_any r s A B c d w hr hs hA hB
theorem want_gen {W : World} {R : Rep} (B : Option Addr) (d : Nat) {cs : Array Value} {F : World → Prop} (h2 : R.cells B d = cs) (h : ∀ W3, BoxIs W3 W.heap.size R B d → Below W.heap.size W W3 → F W3) : F (W.alloc (.cells cs 46)) := by
 subst h2
 exact h _ (heap_alloc_new W _) ((Below.refl _ _).alloc (Nat.le_refl _) _)
set_option maxHeartbeats 16000000 in
theorem rcheckReport_any (r : Rep) (A : Option Addr) (c : Nat) (w : World) (hA : IntsAt w A r.parts) (hl : r.parts.length ≤ 100) (hm : r.mark.size ≤ 1000000) (hg : r.goods.size ≤ 1000000) :
  Calls Tryz.prog 118 #[r.val A c] w fun e w' => e = .returned (.int .i64 (wfE r)) ∧ Below w.heap.size w w' := by
 obtain ⟨W, hW, hbx, hbW, hlt⟩ := boxC r A c w
 have HX := hid hbx
 have HBW := hid hbW
 have HAW := hid (hA.kept (Kept.of_below hbW))
 have HL := hid hl
 have HMK := hid (And.intro hm hg)
 have HWF := hid r.wfB_fine
 have hwl : r.want.parts.length ≤ 100 := by
  rcases want_parts r with e | e <;> rw [e]
  ·exact hl
  ·simp
 have HWL := hid hwl
 obtain ⟨c0, c1, c2, c3, _⟩ := hbx.at_
 clear hbx hbW hA hl hm hg hwl
 go_enter Tryz.func118, Tryz.ntmps118
 go_upto_region 2 with fail
 go_cut [4] from 14 to 28 (fun o wx => o = .bool r.ok0 ∧ Hid (wx = W.alloc (.cells #[.int .i64 r.id, .int .i64 r.known, .int .i64 r.hour, .int .u8 r.kind, .int .i64 0, .int .i64 0, .slice none 0 0, .int .i64 0, .string .empty, .string .empty, .int .i64 0, .int .i64 0, .int .i64 0, .int .i64 0, .int .i64 0] 46)))
 case first =>
  obtain ⟨b1, h1⟩ : ∃ b, decide (1 ≤ r.id ∧ r.id ≤ 1000000) = b := ⟨_, rfl⟩
  obtain ⟨b2, h2⟩ : ∃ b, decide (0 ≤ r.known ∧ r.known ≤ 1000000) = b := ⟨_, rfl⟩
  obtain ⟨b3, h3⟩ : ∃ b, decide (0 ≤ r.hour ∧ r.hour ≤ r.known) = b := ⟨_, rfl⟩
  have HO : Hid (r.ok0 = (b1 && b2 && b3)) := hid (by unfold Rep.ok0; rw [h1, h2, h3])
  have H1 := hid h1
  have H2 := hid h2
  have H3 := hid h3
  clear h1 h2 h3
  go_wp2_with fail
  refine (rwithin_t _ _ _ _ H1.out).mono ?_
  rintro e w1 ⟨rfl, rfl⟩
  rcases b1 with _ | _
  ·go_wp2_with fail
   go_meet
   case rel => exact ⟨by rw [HO.out]; simp, hid rfl⟩
  ·go_wp2_with fail
   refine (rwithin_t _ _ _ _ H2.out).mono ?_
   rintro e w1 ⟨rfl, rfl⟩
   rcases b2 with _ | _
   ·go_wp2_with fail
    go_meet
    case rel => exact ⟨by rw [HO.out]; simp, hid rfl⟩
   ·go_wp2_with fail
    refine (rwithin_t _ _ _ _ H3.out).mono ?_
    rintro e w1 ⟨rfl, rfl⟩
    go_wp2_with fail
    go_meet
    case rel => exact ⟨by rw [HO.out]; simp, hid rfl⟩
 case rest =>
  obtain ⟨rfl, hwc⟩ := hcut
  have hwc2 := hwc.out
  clear hwc
  subst hwc2
  obtain ⟨t0, ht0⟩ : ∃ t, r.ok0 = t := ⟨_, rfl⟩
  have HT0 := hid ht0
  rw [ht0]
  clear ht0
  go_upto_block 0 with fail
  go_cut [4] from 5 to 191 (fun o wx => o = .bool (r.ok0 && r.fine) ∧ Hid (∃ B d, BoxIs wx W.heap.size r.want B d ∧ IntsAt wx B r.want.parts) ∧ Hid (BoxIs wx w.heap.size r A c) ∧ Hid (IntsAt wx A r.parts) ∧ Hid (Below w.heap.size w wx))
  case first =>
   by_cases k1 : r.kind = 1
   ·as_aux_lemma =>
     have d1 : (r.kind == 1) = true := beq_iff_eq.2 k1
     obtain ⟨b1, h1⟩ : ∃ b, decide (0 ≤ r.cell ∧ r.cell ≤ 39) = b := ⟨_, rfl⟩
     obtain ⟨b2, h2⟩ : ∃ b, markB r.mark = b := ⟨_, rfl⟩
     obtain ⟨b3, h3⟩ : ∃ b, nameB r.goods = b := ⟨_, rfl⟩
     obtain ⟨b4, h4⟩ : ∃ b, spanB r.lo r.hi = b := ⟨_, rfl⟩
     obtain ⟨b5, h5⟩ : ∃ b, partyB r.party = b := ⟨_, rfl⟩
     have HO : Hid ((r.ok0 && r.fine) = (t0 && (b1 && b2 && b3 && b4 && b5))) := hid (by
      rw [HT0.out, Rep.fine, if_pos k1]
      rw [← h1, ← h2, ← h3, ← h4, ← h5])
     have H1 := hid h1
     clear h1
     have H2 := hid h2
     clear h2
     have H3 := hid h3
     clear h3
     have H4 := hid h4
     clear h4
     have H5 := hid h5
     clear h5
     have HCE : Hid (r.want.cells none 0 = _) := hid (by rw [Rep.want, if_pos k1, k1])
     obtain ⟨c0, c1, c2, c3, c4, c5, c6, c7, c8, c9, c10, c11, c12, c13, c14⟩ := HX.out.at_
     go_upto_region 11 with fail
     refine want_gen none 0 (R := r.want) (HCE.out.trans rfl) ?_
     intro W3 hB3 hb3
     have HX3 := hid (HX.out.below hb3)
     have HB3 := hid hB3
     have HI3 : Hid (IntsAt W3 none r.want.parts) := hid (by rw [Rep.want, if_pos k1]; exact IntsAt.nil _ _)
     have HA3 := hid (HAW.out.kept (Kept.of_below hb3))
     have HD3 := hid (HBW.out.trans (hb3.mono HBW.out.size))
     clear hW c0 c1 c2 c3 c4 c5 c6 c7 c8 c9 c10 c11 c12 c13 c14 hB3 hb3
     obtain ⟨c0, c1, c2, c3, c4, c5, c6, c7, c8, c9, c10, c11, c12, c13, c14⟩ := HX3.out.at_
     clear c0 c1 c2 c3 c4 c5 c6 c13 c14
     rcases t0 with _ | _
     ·go_wp2_with fail
      go_meet
      case rel => exact ⟨by rw [HO.out]; simp, hid ⟨_, _, HB3.out, HI3.out⟩, HX3, HA3, HD3⟩
     ·skip
      go_wp2_with fail
      refine (rwithin_t _ _ _ _ H1.out).mono ?_
      rintro e wz ⟨rfl, rfl⟩
      rcases b1 with _ | _
      ·go_wp2_with fail
       go_meet
       case rel => exact ⟨by rw [HO.out]; simp, hid ⟨_, _, HB3.out, HI3.out⟩, HX3, HA3, HD3⟩
      ·skip
       go_wp2_with fail
       refine (rmark_t _ _ HMK.out.1 H2.out).mono ?_
       rintro e wz ⟨rfl, rfl⟩
       rcases b2 with _ | _
       ·go_wp2_with fail
        go_meet
        case rel => exact ⟨by rw [HO.out]; simp, hid ⟨_, _, HB3.out, HI3.out⟩, HX3, HA3, HD3⟩
       ·skip
        go_wp2_with fail
        refine (rname_t _ _ HMK.out.2 H3.out).mono ?_
        rintro e wz ⟨rfl, rfl⟩
        rcases b3 with _ | _
        ·go_wp2_with fail
         go_meet
         case rel => exact ⟨by rw [HO.out]; simp, hid ⟨_, _, HB3.out, HI3.out⟩, HX3, HA3, HD3⟩
        ·skip
         go_wp2_with fail
         refine (rspan_t _ _ _ H4.out).mono ?_
         rintro e W4 ⟨rfl, hb⟩
         have HX4 := hid (HX3.out.below hb)
         have HB4 := hid (HB3.out.below hb)
         have HI4 := hid (HI3.out.kept (Kept.of_below hb))
         have HA4 := hid (HA3.out.kept (Kept.of_below hb))
         have HD4 := hid (HD3.out.trans (hb.mono HD3.out.size))
         have hat := HX4.out.at_
         obtain ⟨c0, c1, c2, c3, c4, c5, c6, c7, c8, c9, c10, c11, c12, c13, c14⟩ := hat
         clear hb c0 c1 c2 c3 c4 c5 c6 c13 c14
         rcases b4 with _ | _
         ·go_wp2_with fail
          go_meet
          case rel => exact ⟨by rw [HO.out]; simp, hid ⟨_, _, HB4.out, HI4.out⟩, HX4, HA4, HD4⟩
         ·skip
          go_wp2_with fail
          refine (rwithin_t _ _ _ _ H5.out).mono ?_
          rintro e wz ⟨rfl, rfl⟩
          go_wp2_with fail
          go_meet
          case rel => exact ⟨by rw [HO.out]; simp, hid ⟨_, _, HB4.out, HI4.out⟩, HX4, HA4, HD4⟩
   have d1 : (r.kind == 1) = false := beq_eq_false_iff_ne.2 k1
   by_cases k2 : r.kind = 2
   ·as_aux_lemma =>
     have d2 : (r.kind == 2) = true := beq_iff_eq.2 k2
     obtain ⟨b1, h1⟩ : ∃ b, parcelB r.parcel = b := ⟨_, rfl⟩
     obtain ⟨b2, h2⟩ : ∃ b, decide (2 ≤ r.count ∧ r.count ≤ 8) = b := ⟨_, rfl⟩
     have HO : Hid ((r.ok0 && r.fine) = (t0 && (b1 && b2))) := hid (by
      rw [HT0.out, Rep.fine, if_neg k1, if_pos k2]
      rw [← h1, ← h2])
     have H1 := hid h1
     clear h1
     have H2 := hid h2
     clear h2
     have HCE : Hid (r.want.cells none 0 = _) := hid (by rw [Rep.want, if_neg k1, if_pos k2, k2])
     obtain ⟨c0, c1, c2, c3, c4, c5, c6, c7, c8, c9, c10, c11, c12, c13, c14⟩ := HX.out.at_
     go_upto_region 15 with fail
     refine want_gen none 0 (R := r.want) (HCE.out.trans rfl) ?_
     intro W3 hB3 hb3
     have HX3 := hid (HX.out.below hb3)
     have HB3 := hid hB3
     have HI3 : Hid (IntsAt W3 none r.want.parts) := hid (by rw [Rep.want, if_neg k1, if_pos k2]; exact IntsAt.nil _ _)
     have HA3 := hid (HAW.out.kept (Kept.of_below hb3))
     have HD3 := hid (HBW.out.trans (hb3.mono HBW.out.size))
     clear hW c0 c1 c2 c3 c4 c5 c6 c7 c8 c9 c10 c11 c12 c13 c14 hB3 hb3
     obtain ⟨c0, c1, c2, c3, c4, c5, c6, c7, c8, c9, c10, c11, c12, c13, c14⟩ := HX3.out.at_
     clear c0 c1 c2 c3 c6 c7 c8 c9 c10 c11 c12 c13 c14
     rcases t0 with _ | _
     ·go_wp2_with fail
      go_meet
      case rel => exact ⟨by rw [HO.out]; simp, hid ⟨_, _, HB3.out, HI3.out⟩, HX3, HA3, HD3⟩
     ·skip
      go_wp2_with fail
      refine (rparcel_t _ _ H1.out).mono ?_
      rintro e wz ⟨rfl, rfl⟩
      rcases b1 with _ | _
      ·go_wp2_with fail
       go_meet
       case rel => exact ⟨by rw [HO.out]; simp, hid ⟨_, _, HB3.out, HI3.out⟩, HX3, HA3, HD3⟩
      ·skip
       go_wp2_with fail
       refine (rwithin_t _ _ _ _ H2.out).mono ?_
       rintro e wz ⟨rfl, rfl⟩
       go_wp2_with fail
       go_meet
       case rel => exact ⟨by rw [HO.out]; simp, hid ⟨_, _, HB3.out, HI3.out⟩, HX3, HA3, HD3⟩
   have d2 : (r.kind == 2) = false := beq_eq_false_iff_ne.2 k2
   by_cases k3 : r.kind = 3
   ·as_aux_lemma =>
     have d3 : (r.kind == 3) = true := beq_iff_eq.2 k3
     obtain ⟨b1, h1⟩ : ∃ b, partsB r.parts = b := ⟨_, rfl⟩
     have HO : Hid ((r.ok0 && r.fine) = (t0 && (b1))) := hid (by
      rw [HT0.out, Rep.fine, if_neg k1, if_neg k2, if_pos k3]
      rw [← h1])
     have H1 := hid h1
     clear h1
     have HCE : Hid (r.want.cells A c = _) := hid (by rw [Rep.want, if_neg k1, if_neg k2, if_pos k3, k3])
     obtain ⟨c0, c1, c2, c3, c4, c5, c6, c7, c8, c9, c10, c11, c12, c13, c14⟩ := HX.out.at_
     go_upto_region 18 with fail
     refine want_gen A c (R := r.want) (HCE.out.trans rfl) ?_
     intro W3 hB3 hb3
     have HX3 := hid (HX.out.below hb3)
     have HB3 := hid hB3
     have HI3 : Hid (IntsAt W3 A r.want.parts) := hid (by rw [Rep.want, if_neg k1, if_neg k2, if_pos k3]; exact HAW.out.kept (Kept.of_below hb3))
     have HA3 := hid (HAW.out.kept (Kept.of_below hb3))
     have HD3 := hid (HBW.out.trans (hb3.mono HBW.out.size))
     clear hW c0 c1 c2 c3 c4 c5 c6 c7 c8 c9 c10 c11 c12 c13 c14 hB3 hb3
     obtain ⟨c0, c1, c2, c3, c4, c5, c6, c7, c8, c9, c10, c11, c12, c13, c14⟩ := HX3.out.at_
     clear c0 c1 c2 c3 c4 c5 c7 c8 c9 c10 c11 c12 c13 c14
     rcases t0 with _ | _
     ·go_wp2_with fail
      go_meet
      case rel => exact ⟨by rw [HO.out]; simp, hid ⟨_, _, HB3.out, HI3.out⟩, HX3, HA3, HD3⟩
     ·skip
      go_wp2_with fail
      refine (rdifferent_t A c r.parts _ (by have := HL.out; omega) HA3.out H1.out).mono ?_
      rintro e W4 ⟨rfl, hb⟩
      have HX4 := hid (HX3.out.below hb)
      have HB4 := hid (HB3.out.below hb)
      have HI4 := hid (HI3.out.kept (Kept.of_below hb))
      have HA4 := hid (HA3.out.kept (Kept.of_below hb))
      have HD4 := hid (HD3.out.trans (hb.mono HD3.out.size))
      have hat := HX4.out.at_
      obtain ⟨c0, c1, c2, c3, c4, c5, c6, c7, c8, c9, c10, c11, c12, c13, c14⟩ := hat
      clear hb c0 c1 c2 c3 c4 c5 c7 c8 c9 c10 c11 c12 c13 c14
      go_wp2_with fail
      go_meet
      case rel => exact ⟨by rw [HO.out]; simp, hid ⟨_, _, HB4.out, HI4.out⟩, HX4, HA4, HD4⟩
   have d3 : (r.kind == 3) = false := beq_eq_false_iff_ne.2 k3
   by_cases k4 : r.kind = 4
   ·as_aux_lemma =>
     have d4 : (r.kind == 4) = true := beq_iff_eq.2 k4
     obtain ⟨b1, h1⟩ : ∃ b, parcelB r.parcel = b := ⟨_, rfl⟩
     obtain ⟨b2, h2⟩ : ∃ b, spanB r.lo r.hi = b := ⟨_, rfl⟩
     have HO : Hid ((r.ok0 && r.fine) = (t0 && (b1 && b2))) := hid (by
      rw [HT0.out, Rep.fine, if_neg k1, if_neg k2, if_neg k3, if_pos k4]
      rw [← h1, ← h2])
     have H1 := hid h1
     clear h1
     have H2 := hid h2
     clear h2
     have HCE : Hid (r.want.cells none 0 = _) := hid (by rw [Rep.want, if_neg k1, if_neg k2, if_neg k3, if_pos k4, k4])
     obtain ⟨c0, c1, c2, c3, c4, c5, c6, c7, c8, c9, c10, c11, c12, c13, c14⟩ := HX.out.at_
     go_upto_region 22 with fail
     refine want_gen none 0 (R := r.want) (HCE.out.trans rfl) ?_
     intro W3 hB3 hb3
     have HX3 := hid (HX.out.below hb3)
     have HB3 := hid hB3
     have HI3 : Hid (IntsAt W3 none r.want.parts) := hid (by rw [Rep.want, if_neg k1, if_neg k2, if_neg k3, if_pos k4]; exact IntsAt.nil _ _)
     have HA3 := hid (HAW.out.kept (Kept.of_below hb3))
     have HD3 := hid (HBW.out.trans (hb3.mono HBW.out.size))
     clear hW c0 c1 c2 c3 c4 c5 c6 c7 c8 c9 c10 c11 c12 c13 c14 hB3 hb3
     obtain ⟨c0, c1, c2, c3, c4, c5, c6, c7, c8, c9, c10, c11, c12, c13, c14⟩ := HX3.out.at_
     clear c0 c1 c2 c3 c5 c6 c7 c8 c9 c12 c13 c14
     rcases t0 with _ | _
     ·go_wp2_with fail
      go_meet
      case rel => exact ⟨by rw [HO.out]; simp, hid ⟨_, _, HB3.out, HI3.out⟩, HX3, HA3, HD3⟩
     ·skip
      go_wp2_with fail
      refine (rparcel_t _ _ H1.out).mono ?_
      rintro e wz ⟨rfl, rfl⟩
      rcases b1 with _ | _
      ·go_wp2_with fail
       go_meet
       case rel => exact ⟨by rw [HO.out]; simp, hid ⟨_, _, HB3.out, HI3.out⟩, HX3, HA3, HD3⟩
      ·skip
       go_wp2_with fail
       refine (rspan_t _ _ _ H2.out).mono ?_
       rintro e W4 ⟨rfl, hb⟩
       have HX4 := hid (HX3.out.below hb)
       have HB4 := hid (HB3.out.below hb)
       have HI4 := hid (HI3.out.kept (Kept.of_below hb))
       have HA4 := hid (HA3.out.kept (Kept.of_below hb))
       have HD4 := hid (HD3.out.trans (hb.mono HD3.out.size))
       have hat := HX4.out.at_
       obtain ⟨c0, c1, c2, c3, c4, c5, c6, c7, c8, c9, c10, c11, c12, c13, c14⟩ := hat
       clear hb c0 c1 c2 c3 c5 c6 c7 c8 c9 c12 c13 c14
       go_wp2_with fail
       go_meet
       case rel => exact ⟨by rw [HO.out]; simp, hid ⟨_, _, HB4.out, HI4.out⟩, HX4, HA4, HD4⟩
   have d4 : (r.kind == 4) = false := beq_eq_false_iff_ne.2 k4
   by_cases k5 : r.kind = 5
   ·as_aux_lemma =>
     have d5 : (r.kind == 5) = true := beq_iff_eq.2 k5
     obtain ⟨b1, h1⟩ : ∃ b, parcelB r.parcel = b := ⟨_, rfl⟩
     obtain ⟨b2, h2⟩ : ∃ b, partyB r.party = b := ⟨_, rfl⟩
     have HO : Hid ((r.ok0 && r.fine) = (t0 && (b1 && b2))) := hid (by
      rw [HT0.out, Rep.fine, if_neg k1, if_neg k2, if_neg k3, if_neg k4, if_pos (show r.kind = 5 ∨ r.kind = 6 by omega)]
      rw [← h1, ← h2])
     have H1 := hid h1
     clear h1
     have H2 := hid h2
     clear h2
     have HCE : Hid (r.want.cells none 0 = _) := hid (by rw [Rep.want, if_neg k1, if_neg k2, if_neg k3, if_neg k4, if_pos (show r.kind = 5 ∨ r.kind = 6 by omega), k5])
     obtain ⟨c0, c1, c2, c3, c4, c5, c6, c7, c8, c9, c10, c11, c12, c13, c14⟩ := HX.out.at_
     go_upto_region 27 with fail
     refine want_gen none 0 (R := r.want) (HCE.out.trans rfl) ?_
     intro W3 hB3 hb3
     have HX3 := hid (HX.out.below hb3)
     have HB3 := hid hB3
     have HI3 : Hid (IntsAt W3 none r.want.parts) := hid (by rw [Rep.want, if_neg k1, if_neg k2, if_neg k3, if_neg k4, if_pos (show r.kind = 5 ∨ r.kind = 6 by omega)]; exact IntsAt.nil _ _)
     have HA3 := hid (HAW.out.kept (Kept.of_below hb3))
     have HD3 := hid (HBW.out.trans (hb3.mono HBW.out.size))
     clear hW c0 c1 c2 c3 c4 c5 c6 c7 c8 c9 c10 c11 c12 c13 c14 hB3 hb3
     obtain ⟨c0, c1, c2, c3, c4, c5, c6, c7, c8, c9, c10, c11, c12, c13, c14⟩ := HX3.out.at_
     clear c0 c1 c2 c3 c5 c6 c7 c8 c9 c10 c11 c13 c14
     rcases t0 with _ | _
     ·go_wp2_with fail
      go_meet
      case rel => exact ⟨by rw [HO.out]; simp, hid ⟨_, _, HB3.out, HI3.out⟩, HX3, HA3, HD3⟩
     ·skip
      go_wp2_with fail
      refine (rparcel_t _ _ H1.out).mono ?_
      rintro e wz ⟨rfl, rfl⟩
      rcases b1 with _ | _
      ·go_wp2_with fail
       go_meet
       case rel => exact ⟨by rw [HO.out]; simp, hid ⟨_, _, HB3.out, HI3.out⟩, HX3, HA3, HD3⟩
      ·skip
       go_wp2_with fail
       refine (rwithin_t _ _ _ _ H2.out).mono ?_
       rintro e wz ⟨rfl, rfl⟩
       go_wp2_with fail
       go_meet
       case rel => exact ⟨by rw [HO.out]; simp, hid ⟨_, _, HB3.out, HI3.out⟩, HX3, HA3, HD3⟩
   have d5 : (r.kind == 5) = false := beq_eq_false_iff_ne.2 k5
   by_cases k6 : r.kind = 6
   ·as_aux_lemma =>
     have d6 : (r.kind == 6) = true := beq_iff_eq.2 k6
     obtain ⟨b1, h1⟩ : ∃ b, parcelB r.parcel = b := ⟨_, rfl⟩
     obtain ⟨b2, h2⟩ : ∃ b, partyB r.party = b := ⟨_, rfl⟩
     have HO : Hid ((r.ok0 && r.fine) = (t0 && (b1 && b2))) := hid (by
      rw [HT0.out, Rep.fine, if_neg k1, if_neg k2, if_neg k3, if_neg k4, if_pos (show r.kind = 5 ∨ r.kind = 6 by omega)]
      rw [← h1, ← h2])
     have H1 := hid h1
     clear h1
     have H2 := hid h2
     clear h2
     have HCE : Hid (r.want.cells none 0 = _) := hid (by rw [Rep.want, if_neg k1, if_neg k2, if_neg k3, if_neg k4, if_pos (show r.kind = 5 ∨ r.kind = 6 by omega), k6])
     obtain ⟨c0, c1, c2, c3, c4, c5, c6, c7, c8, c9, c10, c11, c12, c13, c14⟩ := HX.out.at_
     go_upto_region 27 with fail
     refine want_gen none 0 (R := r.want) (HCE.out.trans rfl) ?_
     intro W3 hB3 hb3
     have HX3 := hid (HX.out.below hb3)
     have HB3 := hid hB3
     have HI3 : Hid (IntsAt W3 none r.want.parts) := hid (by rw [Rep.want, if_neg k1, if_neg k2, if_neg k3, if_neg k4, if_pos (show r.kind = 5 ∨ r.kind = 6 by omega)]; exact IntsAt.nil _ _)
     have HA3 := hid (HAW.out.kept (Kept.of_below hb3))
     have HD3 := hid (HBW.out.trans (hb3.mono HBW.out.size))
     clear hW c0 c1 c2 c3 c4 c5 c6 c7 c8 c9 c10 c11 c12 c13 c14 hB3 hb3
     obtain ⟨c0, c1, c2, c3, c4, c5, c6, c7, c8, c9, c10, c11, c12, c13, c14⟩ := HX3.out.at_
     clear c0 c1 c2 c3 c5 c6 c7 c8 c9 c10 c11 c13 c14
     rcases t0 with _ | _
     ·go_wp2_with fail
      go_meet
      case rel => exact ⟨by rw [HO.out]; simp, hid ⟨_, _, HB3.out, HI3.out⟩, HX3, HA3, HD3⟩
     ·skip
      go_wp2_with fail
      refine (rparcel_t _ _ H1.out).mono ?_
      rintro e wz ⟨rfl, rfl⟩
      rcases b1 with _ | _
      ·go_wp2_with fail
       go_meet
       case rel => exact ⟨by rw [HO.out]; simp, hid ⟨_, _, HB3.out, HI3.out⟩, HX3, HA3, HD3⟩
      ·skip
       go_wp2_with fail
       refine (rwithin_t _ _ _ _ H2.out).mono ?_
       rintro e wz ⟨rfl, rfl⟩
       go_wp2_with fail
       go_meet
       case rel => exact ⟨by rw [HO.out]; simp, hid ⟨_, _, HB3.out, HI3.out⟩, HX3, HA3, HD3⟩
   have d6 : (r.kind == 6) = false := beq_eq_false_iff_ne.2 k6
   by_cases k7 : r.kind = 7
   ·as_aux_lemma =>
     have d7 : (r.kind == 7) = true := beq_iff_eq.2 k7
     obtain ⟨b1, h1⟩ : ∃ b, parcelB r.parcel = b := ⟨_, rfl⟩
     obtain ⟨b2, h2⟩ : ∃ b, parcelB r.other = b := ⟨_, rfl⟩
     obtain ⟨b3, h3⟩ : ∃ b, (r.parcel != r.other) = b := ⟨_, rfl⟩
     have HO : Hid ((r.ok0 && r.fine) = (t0 && (b1 && b2 && b3))) := hid (by
      rw [HT0.out, Rep.fine, if_neg k1, if_neg k2, if_neg k3, if_neg k4, if_neg (show ¬ (r.kind = 5 ∨ r.kind = 6) by omega), if_pos k7]
      have hx : decide (r.parcel ≠ r.other) = b3 := by rw [← h3, Bool.eq_iff_iff]; simp
      rw [h1, h2, hx])
     have H1 := hid h1
     clear h1
     have H2 := hid h2
     clear h2
     have HCE : Hid (r.want.cells none 0 = _) := hid (by rw [Rep.want, if_neg k1, if_neg k2, if_neg k3, if_neg k4, if_neg (show ¬ (r.kind = 5 ∨ r.kind = 6) by omega), if_pos k7, k7])
     obtain ⟨c0, c1, c2, c3, c4, c5, c6, c7, c8, c9, c10, c11, c12, c13, c14⟩ := HX.out.at_
     go_upto_region 31 with fail
     refine want_gen none 0 (R := r.want) (HCE.out.trans rfl) ?_
     intro W3 hB3 hb3
     have HX3 := hid (HX.out.below hb3)
     have HB3 := hid hB3
     have HI3 : Hid (IntsAt W3 none r.want.parts) := hid (by rw [Rep.want, if_neg k1, if_neg k2, if_neg k3, if_neg k4, if_neg (show ¬ (r.kind = 5 ∨ r.kind = 6) by omega), if_pos k7]; exact IntsAt.nil _ _)
     have HA3 := hid (HAW.out.kept (Kept.of_below hb3))
     have HD3 := hid (HBW.out.trans (hb3.mono HBW.out.size))
     clear hW c0 c1 c2 c3 c4 c5 c6 c7 c8 c9 c10 c11 c12 c13 c14 hB3 hb3
     obtain ⟨c0, c1, c2, c3, c4, c5, c6, c7, c8, c9, c10, c11, c12, c13, c14⟩ := HX3.out.at_
     clear c0 c1 c2 c3 c5 c6 c7 c8 c9 c10 c11 c12 c14
     rcases t0 with _ | _
     ·go_wp2_with fail
      go_meet
      case rel => exact ⟨by rw [HO.out]; simp, hid ⟨_, _, HB3.out, HI3.out⟩, HX3, HA3, HD3⟩
     ·skip
      go_wp2_with fail
      refine (rparcel_t _ _ H1.out).mono ?_
      rintro e wz ⟨rfl, rfl⟩
      rcases b1 with _ | _
      ·go_wp2_with fail
       go_meet
       case rel => exact ⟨by rw [HO.out]; simp, hid ⟨_, _, HB3.out, HI3.out⟩, HX3, HA3, HD3⟩
      ·skip
       go_wp2_with fail
       refine (rparcel_t _ _ H2.out).mono ?_
       rintro e wz ⟨rfl, rfl⟩
       rcases b2 with _ | _
       ·go_wp2_with fail
        go_meet
        case rel => exact ⟨by rw [HO.out]; simp, hid ⟨_, _, HB3.out, HI3.out⟩, HX3, HA3, HD3⟩
       ·skip
        go_wp2_with fail
        go_meet
        case rel => exact ⟨by rw [HO.out]; simp, hid ⟨_, _, HB3.out, HI3.out⟩, HX3, HA3, HD3⟩
   have d7 : (r.kind == 7) = false := beq_eq_false_iff_ne.2 k7
   by_cases k8 : r.kind = 8
   ·as_aux_lemma =>
     have d8 : (r.kind == 8) = true := beq_iff_eq.2 k8
     obtain ⟨b1, h1⟩ : ∃ b, (r.hour == 0) = b := ⟨_, rfl⟩
     obtain ⟨b2, h2⟩ : ∃ b, decide (1 ≤ r.of ∧ r.of ≤ 1000000) = b := ⟨_, rfl⟩
     obtain ⟨b3, h3⟩ : ∃ b, (r.of != r.id) = b := ⟨_, rfl⟩
     have HO : Hid ((r.ok0 && r.fine) = (t0 && (b1 && b2 && b3))) := hid (by
      rw [HT0.out, Rep.fine, if_neg k1, if_neg k2, if_neg k3, if_neg k4, if_neg (show ¬ (r.kind = 5 ∨ r.kind = 6) by omega), if_neg k7, if_pos k8]
      have hx : decide (r.hour = 0) = b1 := by rw [← h1, Bool.eq_iff_iff]; simp
      have hy : decide (r.of ≠ r.id) = b3 := by rw [← h3, Bool.eq_iff_iff]; simp
      rw [hx, h2, hy])
     have H2 := hid h2
     clear h2
     have HCE : Hid (r.want.cells none 0 = _) := hid (by rw [Rep.want, if_neg k1, if_neg k2, if_neg k3, if_neg k4, if_neg (show ¬ (r.kind = 5 ∨ r.kind = 6) by omega), if_neg k7, if_pos k8, k8])
     obtain ⟨c0, c1, c2, c3, c4, c5, c6, c7, c8, c9, c10, c11, c12, c13, c14⟩ := HX.out.at_
     go_upto_region 34 with fail
     refine want_gen none 0 (R := r.want) (HCE.out.trans rfl) ?_
     intro W3 hB3 hb3
     have HX3 := hid (HX.out.below hb3)
     have HB3 := hid hB3
     have HI3 : Hid (IntsAt W3 none r.want.parts) := hid (by rw [Rep.want, if_neg k1, if_neg k2, if_neg k3, if_neg k4, if_neg (show ¬ (r.kind = 5 ∨ r.kind = 6) by omega), if_neg k7, if_pos k8]; exact IntsAt.nil _ _)
     have HA3 := hid (HAW.out.kept (Kept.of_below hb3))
     have HD3 := hid (HBW.out.trans (hb3.mono HBW.out.size))
     clear hW c0 c1 c2 c3 c4 c5 c6 c7 c8 c9 c10 c11 c12 c13 c14 hB3 hb3
     obtain ⟨c0, c1, c2, c3, c4, c5, c6, c7, c8, c9, c10, c11, c12, c13, c14⟩ := HX3.out.at_
     clear c1 c3 c4 c5 c6 c7 c8 c9 c10 c11 c12 c13
     rcases t0 with _ | _
     ·go_wp2_with fail
      go_meet
      case rel => exact ⟨by rw [HO.out]; simp, hid ⟨_, _, HB3.out, HI3.out⟩, HX3, HA3, HD3⟩
     ·skip
      rcases b1 with _ | _
      ·go_wp2_with fail
       go_meet
       case rel => exact ⟨by rw [HO.out]; simp, hid ⟨_, _, HB3.out, HI3.out⟩, HX3, HA3, HD3⟩
      ·skip
       go_wp2_with fail
       refine (rwithin_t _ _ _ _ H2.out).mono ?_
       rintro e wz ⟨rfl, rfl⟩
       rcases b2 with _ | _
       ·go_wp2_with fail
        go_meet
        case rel => exact ⟨by rw [HO.out]; simp, hid ⟨_, _, HB3.out, HI3.out⟩, HX3, HA3, HD3⟩
       ·skip
        go_wp2_with fail
        go_meet
        case rel => exact ⟨by rw [HO.out]; simp, hid ⟨_, _, HB3.out, HI3.out⟩, HX3, HA3, HD3⟩
   have d8 : (r.kind == 8) = false := beq_eq_false_iff_ne.2 k8
   have HO : Hid ((r.ok0 && r.fine) = false) := hid (by rw [Rep.fine, if_neg k1, if_neg k2, if_neg k3, if_neg k4, if_neg (by omega), if_neg k7, if_neg k8]; simp)
   have HCE : Hid (r.want.cells none 0 = _) := hid (by rw [Rep.want, if_neg k1, if_neg k2, if_neg k3, if_neg k4, if_neg (by omega), if_neg k7, if_neg k8])
   refine want_gen none 0 (R := r.want) (HCE.out.trans rfl) ?_
   intro W3 hB3 hb3
   have HX3 := hid (HX.out.below hb3)
   have HB3 := hid hB3
   have HI3 : Hid (IntsAt W3 none r.want.parts) := hid (by rw [Rep.want, if_neg k1, if_neg k2, if_neg k3, if_neg k4, if_neg (by omega), if_neg k7, if_neg k8]; exact IntsAt.nil _ _)
   have HA3 := hid (HAW.out.kept (Kept.of_below hb3))
   have HD3 := hid (HBW.out.trans (hb3.mono HBW.out.size))
   obtain ⟨_, _, _, c3, _⟩ := HX3.out.at_
   clear hW hB3 hb3
   go_wp2_with fail
   go_meet
   case rel => exact ⟨by rw [HO.out], hid ⟨_, _, HB3.out, HI3.out⟩, HX3, HA3, HD3⟩
  case rest =>
   obtain ⟨rfl, hB, hX, hAA, hD⟩ := hcut
   obtain ⟨B, d, hB1, hB2⟩ := hB.out
   have HB1 := hid hB1
   have HB2 := hid hB2
   clear hW hB hB1 hB2
   obtain ⟨b1, h1⟩ : ∃ b, (r.ok0 && r.fine) = b := ⟨_, rfl⟩
   obtain ⟨b2, h2⟩ : ∃ b, decide (r = r.want) = b := ⟨_, rfl⟩
   have HO : Hid (wfE r = if (b1 && b2) = true then 0 else 1) := hid (by unfold wfE; rw [HWF.out, h1, h2])
   have H2 := hid h2
   rw [h1]
   clear h1 h2
   rcases b1 with _ | _
   ·go_wp2_with (first | refine load_rep_g rfl _ rfl _ rfl hX.out ?_ | refine load_rep_g rfl _ rfl _ rfl HB1.out ?_)
    go_ret
    exact ⟨ret_int (by rw [HO.out]; rfl), hD.out⟩
   ·go_wp2_with (first | refine load_rep_g rfl _ rfl _ rfl hX.out ?_ | refine load_rep_g rfl _ rfl _ rfl HB1.out ?_)
    refine (rsameR_t r r.want A B c d _ HL.out HWL.out hAA.out HB2.out H2.out).mono ?_
    rintro e w3 ⟨rfl, hb3⟩
    have HD3 := hid (hD.out.trans (hb3.mono hD.out.size))
    clear hb3
    cases b2
    all_goals
     go_wp2_with fail
     go_ret
     exact ⟨ret_int (by rw [HO.out]; rfl), HD3.out⟩
end
end Go.Proofs.YtfaoillnakhejaaGreat
