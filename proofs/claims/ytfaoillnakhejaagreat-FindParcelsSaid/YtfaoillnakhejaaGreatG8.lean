/- fields: kind 5; fields: kind 6. -/
import Derived.Test.YtfaoillnakhejaaGreatG6
namespace Go.Proofs.YtfaoillnakhejaaGreat
set_option maxRecDepth 100000
open Go.RowKit
set_option maxHeartbeats 8000000 in
theorem fields_hidden (r : Rep) (A : Option Addr) (c : Nat) (w : World) (k : r.kind = 5) :
    Calls Tryz.prog 137 #[r.val A c] w (FieldsPost r w) := by
  obtain ⟨W, hW, hbx, hbW, hlt⟩ := boxC r A c w
  have HX := hid hbx
  have HBW := hid hbW
  have hx := hbx.at_
  obtain ⟨c0, c1, c2, c3, c4, c5, c6, c7, c8, c9, c10, c11, c12, c13, c14⟩ := hx
  clear hbx hbW c5 c6 c7 c8 c9 c10 c11 c13 c14
  have d1 : (r.kind == 1) = false := beq_eq_false_iff_ne.2 (by omega)
  have d2 : (r.kind == 2) = false := beq_eq_false_iff_ne.2 (by omega)
  have d3 : (r.kind == 3) = false := beq_eq_false_iff_ne.2 (by omega)
  have d4 : (r.kind == 4) = false := beq_eq_false_iff_ne.2 (by omega)
  have d5 : (r.kind == 5) = true := beq_iff_eq.2 k
  have K1 := hid k
  clear k
  go_enter Tryz.func137, Tryz.ntmps137
  go_wp2_with fail
  refine (in_t _ _ _ _ rfl).mono ?_
  rintro e w' ⟨rfl, rfl⟩
  go_wp2_with fail
  go_region
  have hw : r.want = ⟨r.id, r.known, r.hour, r.kind, r.parcel, 0, [], 0, .empty, .empty, 0, 0, r.party, 0, 0⟩ := by
    have := K1.out
    unfold Rep.want
    rw [if_neg (by omega), if_neg (by omega), if_neg (by omega), if_neg (by omega), if_pos (by omega)]
  have ho : r.okB = (inB r.hour 0 r.known && parcelB r.parcel && inB r.party 1 40) := by
    have := K1.out
    unfold Rep.okB
    rw [if_neg (by omega), if_neg (by omega), if_neg (by omega), if_neg (by omega), if_pos (by omega), inB_eq, inB_eq, partyB]
  have hcl : ∀ (b : Bool), b = (inB r.hour 0 r.known && parcelB r.parcel && inB r.party 1 40) → ∀ (o : Obj) e, e = Ending.returned (.tuple #[(⟨r.id, r.known, r.hour, r.kind, r.parcel, 0, [], 0, .empty, .empty, 0, 0, r.party, 0, 0⟩ : Rep).val none 0, .bool b]) → ∀ o2, FieldsPost r w e ((W.alloc o).alloc o2).drew := by
    rintro b rfl o e rfl o2
    refine ⟨((HBW.out.alloc HBW.out.size _).alloc (HBW.out.alloc HBW.out.size _).size _).drew, none, 0, ?_, ?_⟩
    · rw [hw, ho]
    · rw [hw]
      exact IntsAt.nil _ _
  have HCL := hid hcl
  clear hw ho hcl
  rcases h1 : inB r.hour 0 r.known with _ | _
  · have H1 := hid h1
    clear h1
    go_wp2_with fail
    refine bodyPost_ret (fields_ret _ _ W.heap.size (r := ⟨r.id, r.known, r.hour, r.kind, r.parcel, 0, [], 0, .empty, .empty, 0, 0, r.party, 0, 0⟩) (A := none) (c := 0) (b := false) ?_ ?_ ?_) rfl ?_
    · rfl
    · rfl
    · exact box_first_t W _ _ _ _ _ rfl
    · exact HCL.out _ (by rw [H1.out]; rfl) _ _ rfl _
  · have H1 := hid h1
    clear h1
    rcases h2 : parcelB r.parcel with _ | _
    · have H2 := hid h2
      clear h2
      go_wp2_with fail
      refine (isParcel_t _ _ H2.out).mono ?_
      rintro e w' ⟨rfl, rfl⟩
      go_wp2_with fail
      refine bodyPost_ret (fields_ret _ _ W.heap.size (r := ⟨r.id, r.known, r.hour, r.kind, r.parcel, 0, [], 0, .empty, .empty, 0, 0, r.party, 0, 0⟩) (A := none) (c := 0) (b := false) ?_ ?_ ?_) rfl ?_
      · rfl
      · rfl
      · exact box_first_t W _ _ _ _ _ rfl
      · exact HCL.out _ (by rw [H1.out, H2.out]; rfl) _ _ rfl _
    · have H2 := hid h2
      clear h2
      obtain ⟨b3, h3⟩ : ∃ b3, inB r.party 1 40 = b3 := ⟨_, rfl⟩
      have H3 := hid h3
      clear h3
      go_wp2_with fail
      refine (isParcel_t _ _ H2.out).mono ?_
      rintro e w' ⟨rfl, rfl⟩
      go_wp2_with fail
      refine (in_t _ _ _ _ H3.out).mono ?_
      rintro e w' ⟨rfl, rfl⟩
      go_wp2_with fail
      refine bodyPost_ret (fields_ret _ _ W.heap.size (r := ⟨r.id, r.known, r.hour, r.kind, r.parcel, 0, [], 0, .empty, .empty, 0, 0, r.party, 0, 0⟩) (A := none) (c := 0) (b := b3) ?_ ?_ ?_) rfl ?_
      · rfl
      · rfl
      · exact box_first_t W _ _ _ _ _ rfl
      · exact HCL.out _ (by rw [H1.out, H2.out, H3.out]; rfl) _ _ rfl _
set_option maxHeartbeats 8000000 in
theorem fields_shown (r : Rep) (A : Option Addr) (c : Nat) (w : World) (k : r.kind = 6) :
    Calls Tryz.prog 137 #[r.val A c] w (FieldsPost r w) := by
  obtain ⟨W, hW, hbx, hbW, hlt⟩ := boxC r A c w
  have HX := hid hbx
  have HBW := hid hbW
  have hx := hbx.at_
  obtain ⟨c0, c1, c2, c3, c4, c5, c6, c7, c8, c9, c10, c11, c12, c13, c14⟩ := hx
  clear hbx hbW c5 c6 c7 c8 c9 c10 c11 c13 c14
  have d1 : (r.kind == 1) = false := beq_eq_false_iff_ne.2 (by omega)
  have d2 : (r.kind == 2) = false := beq_eq_false_iff_ne.2 (by omega)
  have d3 : (r.kind == 3) = false := beq_eq_false_iff_ne.2 (by omega)
  have d4 : (r.kind == 4) = false := beq_eq_false_iff_ne.2 (by omega)
  have d5 : (r.kind == 5) = false := beq_eq_false_iff_ne.2 (by omega)
  have d6 : (r.kind == 6) = true := beq_iff_eq.2 k
  have K1 := hid k
  clear k
  go_enter Tryz.func137, Tryz.ntmps137
  go_wp2_with fail
  refine (in_t _ _ _ _ rfl).mono ?_
  rintro e w' ⟨rfl, rfl⟩
  go_wp2_with fail
  go_region
  have hw : r.want = ⟨r.id, r.known, r.hour, r.kind, r.parcel, 0, [], 0, .empty, .empty, 0, 0, r.party, 0, 0⟩ := by
    have := K1.out
    unfold Rep.want
    rw [if_neg (by omega), if_neg (by omega), if_neg (by omega), if_neg (by omega), if_pos (by omega)]
  have ho : r.okB = (inB r.hour 0 r.known && parcelB r.parcel && inB r.party 1 40) := by
    have := K1.out
    unfold Rep.okB
    rw [if_neg (by omega), if_neg (by omega), if_neg (by omega), if_neg (by omega), if_pos (by omega), inB_eq, inB_eq, partyB]
  have hcl : ∀ (b : Bool), b = (inB r.hour 0 r.known && parcelB r.parcel && inB r.party 1 40) → ∀ (o : Obj) e, e = Ending.returned (.tuple #[(⟨r.id, r.known, r.hour, r.kind, r.parcel, 0, [], 0, .empty, .empty, 0, 0, r.party, 0, 0⟩ : Rep).val none 0, .bool b]) → ∀ o2, FieldsPost r w e ((W.alloc o).alloc o2).drew := by
    rintro b rfl o e rfl o2
    refine ⟨((HBW.out.alloc HBW.out.size _).alloc (HBW.out.alloc HBW.out.size _).size _).drew, none, 0, ?_, ?_⟩
    · rw [hw, ho]
    · rw [hw]
      exact IntsAt.nil _ _
  have HCL := hid hcl
  clear hw ho hcl
  rcases h1 : inB r.hour 0 r.known with _ | _
  · have H1 := hid h1
    clear h1
    go_wp2_with fail
    refine bodyPost_ret (fields_ret _ _ W.heap.size (r := ⟨r.id, r.known, r.hour, r.kind, r.parcel, 0, [], 0, .empty, .empty, 0, 0, r.party, 0, 0⟩) (A := none) (c := 0) (b := false) ?_ ?_ ?_) rfl ?_
    · rfl
    · rfl
    · exact box_first_t W _ _ _ _ _ rfl
    · exact HCL.out _ (by rw [H1.out]; rfl) _ _ rfl _
  · have H1 := hid h1
    clear h1
    rcases h2 : parcelB r.parcel with _ | _
    · have H2 := hid h2
      clear h2
      go_wp2_with fail
      refine (isParcel_t _ _ H2.out).mono ?_
      rintro e w' ⟨rfl, rfl⟩
      go_wp2_with fail
      refine bodyPost_ret (fields_ret _ _ W.heap.size (r := ⟨r.id, r.known, r.hour, r.kind, r.parcel, 0, [], 0, .empty, .empty, 0, 0, r.party, 0, 0⟩) (A := none) (c := 0) (b := false) ?_ ?_ ?_) rfl ?_
      · rfl
      · rfl
      · exact box_first_t W _ _ _ _ _ rfl
      · exact HCL.out _ (by rw [H1.out, H2.out]; rfl) _ _ rfl _
    · have H2 := hid h2
      clear h2
      obtain ⟨b3, h3⟩ : ∃ b3, inB r.party 1 40 = b3 := ⟨_, rfl⟩
      have H3 := hid h3
      clear h3
      go_wp2_with fail
      refine (isParcel_t _ _ H2.out).mono ?_
      rintro e w' ⟨rfl, rfl⟩
      go_wp2_with fail
      refine (in_t _ _ _ _ H3.out).mono ?_
      rintro e w' ⟨rfl, rfl⟩
      go_wp2_with fail
      refine bodyPost_ret (fields_ret _ _ W.heap.size (r := ⟨r.id, r.known, r.hour, r.kind, r.parcel, 0, [], 0, .empty, .empty, 0, 0, r.party, 0, 0⟩) (A := none) (c := 0) (b := b3) ?_ ?_ ?_) rfl ?_
      · rfl
      · rfl
      · exact box_first_t W _ _ _ _ _ rfl
      · exact HCL.out _ (by rw [H1.out, H2.out, H3.out]; rfl) _ _ rfl _
end Go.Proofs.YtfaoillnakhejaaGreat
