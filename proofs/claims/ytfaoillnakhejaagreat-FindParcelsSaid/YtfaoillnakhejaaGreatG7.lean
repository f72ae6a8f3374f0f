/- fields: kind 1. -/
import Derived.Test.YtfaoillnakhejaaGreatG6
namespace Go.Proofs.YtfaoillnakhejaaGreat
set_option maxRecDepth 100000
open Go.RowKit
set_option maxHeartbeats 8000000 in
theorem fields_found (r : Rep) (A : Option Addr) (c : Nat) (w : World) (k : r.kind = 1) :
    Calls Tryz.prog 137 #[r.val A c] w (FieldsPost r w) := by
  obtain ⟨W, hW, hbx, hbW, hlt⟩ := boxC r A c w
  have HX := hid hbx
  have HBW := hid hbW
  have hx := hbx.at_
  obtain ⟨c0, c1, c2, c3, c4, c5, c6, c7, c8, c9, c10, c11, c12, c13, c14⟩ := hx
  clear hbx hbW c4 c5 c6 c13 c14
  have d1 : (r.kind == 1) = true := beq_iff_eq.2 k
  have K1 := hid k
  clear k
  go_enter Tryz.func137, Tryz.ntmps137
  go_wp2_with fail
  refine (in_t _ _ _ _ rfl).mono ?_
  rintro e w' ⟨rfl, rfl⟩
  go_wp2_with fail
  go_region
  have hw : r.want = ⟨r.id, r.known, r.hour, r.kind, 0, 0, [], r.cell, r.mark, r.goods, r.lo, r.hi, r.party, 0, 0⟩ := by
    have := K1.out
    unfold Rep.want
    rw [if_pos this]
  have ho : r.okB = (inB r.hour 0 r.known && inB r.cell 0 39 && markB r.mark && nameB r.goods && spanB r.lo r.hi && inB r.party 1 40) := by
    have := K1.out
    unfold Rep.okB
    rw [if_pos this, inB_eq, inB_eq, inB_eq, partyB]
  have hcl : ∀ (b : Bool), b = (inB r.hour 0 r.known && inB r.cell 0 39 && markB r.mark && nameB r.goods && spanB r.lo r.hi && inB r.party 1 40) → ∀ w', Below w.heap.size w w' → ∀ e, e = Ending.returned (.tuple #[(⟨r.id, r.known, r.hour, r.kind, 0, 0, [], r.cell, r.mark, r.goods, r.lo, r.hi, r.party, 0, 0⟩ : Rep).val none 0, .bool b]) → FieldsPost r w e w' := by
    rintro b rfl w' hb e rfl
    refine ⟨hb, none, 0, ?_, ?_⟩
    · rw [hw, ho]
    · rw [hw]
      exact IntsAt.nil _ _
  have HCL := hid hcl
  clear hw ho hcl
  refine mid_gen' (R := ⟨r.id, r.known, r.hour, r.kind, 0, 0, [], r.cell, r.mark, r.goods, r.lo, r.hi, r.party, 0, 0⟩) (B := none) (d := 0) HX.out HBW.out hlt ?_ ?_ ?_
  · rfl
  · rfl
  intro W3 M
  have HM := hid M
  obtain ⟨c0, c1, c2, c3, c4, c5, c6, c7, c8, c9, c10, c11, c12, c13, c14⟩ := M.own.at_
  clear M hW
  rcases h1 : inB r.hour 0 r.known with _ | _
  · have H1 := hid h1
    clear h1
    obtain ⟨old, hos, hR⟩ := HM.out.row
    have HR := hid hR
    have HBB := hid HM.out.box
    clear hR
    go_wp2_with (first | refine load_rep rfl _ rfl _ rfl HBB.out ?_ | refine store_rep rfl _ _ rfl _ rfl rfl HR.out hos ?_)
    refine bodyPost_ret (fields_ret _ _ W.heap.size (r := ⟨r.id, r.known, r.hour, r.kind, 0, 0, [], r.cell, r.mark, r.goods, r.lo, r.hi, r.party, 0, 0⟩) (A := none) (c := 0) (b := false) ?_ ?_ (box_set HR.out)) rfl ?_
    · rfl
    · rfl
    · exact HCL.out _ (by rw [H1.out]; rfl) _ (below_setRow HM.out.below (Nat.le_of_lt HM.out.lt) _) _ rfl
  · have H1 := hid h1
    clear h1
    rcases h2 : inB r.cell 0 39 with _ | _
    · have H2 := hid h2
      clear h2
      go_wp2_with fail
      refine (in_t _ _ _ _ H2.out).mono ?_
      rintro e w' ⟨rfl, rfl⟩
      obtain ⟨old, hos, hR⟩ := HM.out.row
      have HR := hid hR
      have HBB := hid HM.out.box
      clear hR
      go_wp2_with (first | refine load_rep rfl _ rfl _ rfl HBB.out ?_ | refine store_rep rfl _ _ rfl _ rfl rfl HR.out hos ?_)
      refine bodyPost_ret (fields_ret _ _ W.heap.size (r := ⟨r.id, r.known, r.hour, r.kind, 0, 0, [], r.cell, r.mark, r.goods, r.lo, r.hi, r.party, 0, 0⟩) (A := none) (c := 0) (b := false) ?_ ?_ (box_set HR.out)) rfl ?_
      · rfl
      · rfl
      · exact HCL.out _ (by rw [H1.out, H2.out]; rfl) _ (below_setRow HM.out.below (Nat.le_of_lt HM.out.lt) _) _ rfl
    · have H2 := hid h2
      clear h2
      rcases h3 : markB r.mark with _ | _
      · have H3 := hid h3
        clear h3
        go_wp2_with fail
        refine (in_t _ _ _ _ H2.out).mono ?_
        rintro e w' ⟨rfl, rfl⟩
        go_wp2_with fail
        refine (isMark_t _ _ H3.out).mono ?_
        rintro e w2 ⟨rfl, hb⟩
        have HM2 := hid (HM.out.next hb)
        obtain ⟨c0, c1, c2, c3, c4, c5, c6, c7, c8, c9, c10, c11, c12, c13, c14⟩ := HM2.out.own.at_
        clear hb
        obtain ⟨old, hos, hR⟩ := HM2.out.row
        have HR := hid hR
        have HBB := hid HM2.out.box
        clear hR
        go_wp2_with (first | refine load_rep rfl _ rfl _ rfl HBB.out ?_ | refine store_rep rfl _ _ rfl _ rfl rfl HR.out hos ?_)
        refine bodyPost_ret (fields_ret _ _ W.heap.size (r := ⟨r.id, r.known, r.hour, r.kind, 0, 0, [], r.cell, r.mark, r.goods, r.lo, r.hi, r.party, 0, 0⟩) (A := none) (c := 0) (b := false) ?_ ?_ (box_set HR.out)) rfl ?_
        · rfl
        · rfl
        · exact HCL.out _ (by rw [H1.out, H2.out, H3.out]; rfl) _ (below_setRow HM2.out.below (Nat.le_of_lt HM2.out.lt) _) _ rfl
      · have H3 := hid h3
        clear h3
        rcases h4 : nameB r.goods with _ | _
        · have H4 := hid h4
          clear h4
          go_wp2_with fail
          refine (in_t _ _ _ _ H2.out).mono ?_
          rintro e w' ⟨rfl, rfl⟩
          go_wp2_with fail
          refine (isMark_t _ _ H3.out).mono ?_
          rintro e w2 ⟨rfl, hb⟩
          have HM2 := hid (HM.out.next hb)
          obtain ⟨c0, c1, c2, c3, c4, c5, c6, c7, c8, c9, c10, c11, c12, c13, c14⟩ := HM2.out.own.at_
          clear hb
          go_wp2_with fail
          refine (isName_t _ _ H4.out).mono ?_
          rintro e w3 ⟨rfl, hb⟩
          have HM3 := hid (HM2.out.next hb)
          obtain ⟨c0, c1, c2, c3, c4, c5, c6, c7, c8, c9, c10, c11, c12, c13, c14⟩ := HM3.out.own.at_
          clear hb
          obtain ⟨old, hos, hR⟩ := HM3.out.row
          have HR := hid hR
          have HBB := hid HM3.out.box
          clear hR
          go_wp2_with (first | refine load_rep rfl _ rfl _ rfl HBB.out ?_ | refine store_rep rfl _ _ rfl _ rfl rfl HR.out hos ?_)
          refine bodyPost_ret (fields_ret _ _ W.heap.size (r := ⟨r.id, r.known, r.hour, r.kind, 0, 0, [], r.cell, r.mark, r.goods, r.lo, r.hi, r.party, 0, 0⟩) (A := none) (c := 0) (b := false) ?_ ?_ (box_set HR.out)) rfl ?_
          · rfl
          · rfl
          · exact HCL.out _ (by rw [H1.out, H2.out, H3.out, H4.out]; rfl) _ (below_setRow HM3.out.below (Nat.le_of_lt HM3.out.lt) _) _ rfl
        · have H4 := hid h4
          clear h4
          rcases h5 : spanB r.lo r.hi with _ | _
          · have H5 := hid h5
            clear h5
            go_wp2_with fail
            refine (in_t _ _ _ _ H2.out).mono ?_
            rintro e w' ⟨rfl, rfl⟩
            go_wp2_with fail
            refine (isMark_t _ _ H3.out).mono ?_
            rintro e w2 ⟨rfl, hb⟩
            have HM2 := hid (HM.out.next hb)
            obtain ⟨c0, c1, c2, c3, c4, c5, c6, c7, c8, c9, c10, c11, c12, c13, c14⟩ := HM2.out.own.at_
            clear hb
            go_wp2_with fail
            refine (isName_t _ _ H4.out).mono ?_
            rintro e w3 ⟨rfl, hb⟩
            have HM3 := hid (HM2.out.next hb)
            obtain ⟨c0, c1, c2, c3, c4, c5, c6, c7, c8, c9, c10, c11, c12, c13, c14⟩ := HM3.out.own.at_
            clear hb
            go_wp2_with fail
            refine (isSpan_t _ _ _ H5.out).mono ?_
            rintro e w4 ⟨rfl, hb⟩
            have HM4 := hid (HM3.out.next hb)
            obtain ⟨c0, c1, c2, c3, c4, c5, c6, c7, c8, c9, c10, c11, c12, c13, c14⟩ := HM4.out.own.at_
            clear hb
            obtain ⟨old, hos, hR⟩ := HM4.out.row
            have HR := hid hR
            have HBB := hid HM4.out.box
            clear hR
            go_wp2_with (first | refine load_rep rfl _ rfl _ rfl HBB.out ?_ | refine store_rep rfl _ _ rfl _ rfl rfl HR.out hos ?_)
            refine bodyPost_ret (fields_ret _ _ W.heap.size (r := ⟨r.id, r.known, r.hour, r.kind, 0, 0, [], r.cell, r.mark, r.goods, r.lo, r.hi, r.party, 0, 0⟩) (A := none) (c := 0) (b := false) ?_ ?_ (box_set HR.out)) rfl ?_
            · rfl
            · rfl
            · exact HCL.out _ (by rw [H1.out, H2.out, H3.out, H4.out, H5.out]; rfl) _ (below_setRow HM4.out.below (Nat.le_of_lt HM4.out.lt) _) _ rfl
          · have H5 := hid h5
            clear h5
            obtain ⟨b6, h6⟩ : ∃ b6, inB r.party 1 40 = b6 := ⟨_, rfl⟩
            have H6 := hid h6
            clear h6
            go_wp2_with fail
            refine (in_t _ _ _ _ H2.out).mono ?_
            rintro e w' ⟨rfl, rfl⟩
            go_wp2_with fail
            refine (isMark_t _ _ H3.out).mono ?_
            rintro e w2 ⟨rfl, hb⟩
            have HM2 := hid (HM.out.next hb)
            obtain ⟨c0, c1, c2, c3, c4, c5, c6, c7, c8, c9, c10, c11, c12, c13, c14⟩ := HM2.out.own.at_
            clear hb
            go_wp2_with fail
            refine (isName_t _ _ H4.out).mono ?_
            rintro e w3 ⟨rfl, hb⟩
            have HM3 := hid (HM2.out.next hb)
            obtain ⟨c0, c1, c2, c3, c4, c5, c6, c7, c8, c9, c10, c11, c12, c13, c14⟩ := HM3.out.own.at_
            clear hb
            go_wp2_with fail
            refine (isSpan_t _ _ _ H5.out).mono ?_
            rintro e w4 ⟨rfl, hb⟩
            have HM4 := hid (HM3.out.next hb)
            obtain ⟨c0, c1, c2, c3, c4, c5, c6, c7, c8, c9, c10, c11, c12, c13, c14⟩ := HM4.out.own.at_
            clear hb
            go_wp2_with fail
            refine (in_t _ _ _ _ H6.out).mono ?_
            rintro e w' ⟨rfl, rfl⟩
            obtain ⟨old, hos, hR⟩ := HM4.out.row
            have HR := hid hR
            have HBB := hid HM4.out.box
            clear hR
            go_wp2_with (first | refine load_rep rfl _ rfl _ rfl HBB.out ?_ | refine store_rep rfl _ _ rfl _ rfl rfl HR.out hos ?_)
            refine bodyPost_ret (fields_ret _ _ W.heap.size (r := ⟨r.id, r.known, r.hour, r.kind, 0, 0, [], r.cell, r.mark, r.goods, r.lo, r.hi, r.party, 0, 0⟩) (A := none) (c := 0) (b := b6) ?_ ?_ (box_set HR.out)) rfl ?_
            · rfl
            · rfl
            · exact HCL.out _ (by rw [H1.out, H2.out, H3.out, H4.out, H5.out, H6.out]; rfl) _ (below_setRow HM4.out.below (Nat.le_of_lt HM4.out.lt) _) _ rfl
end Go.Proofs.YtfaoillnakhejaaGreat
