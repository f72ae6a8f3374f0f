/- fields: kind 8; fields, at every report; CheckReport. -/
import Derived.Test.YtfaoillnakhejaaGreatG6
import Derived.Test.YtfaoillnakhejaaGreatG3
import Derived.Test.YtfaoillnakhejaaGreatG7
import Derived.Test.YtfaoillnakhejaaGreatG8
import Derived.Test.YtfaoillnakhejaaGreatG9
namespace Go.Proofs.YtfaoillnakhejaaGreat
set_option maxRecDepth 100000
open Go.RowKit
set_option maxHeartbeats 8000000 in
theorem fields_void (r : Rep) (A : Option Addr) (c : Nat) (w : World) (k : r.kind = 8) :
    Calls Tryz.prog 137 #[r.val A c] w (FieldsPost r w) := by
  obtain ⟨W, hW, hbx, hbW, hlt⟩ := boxC r A c w
  have HX := hid hbx
  have HBW := hid hbW
  have hx := hbx.at_
  obtain ⟨c0, c1, c2, c3, c4, c5, c6, c7, c8, c9, c10, c11, c12, c13, c14⟩ := hx
  clear hbx hbW c4 c5 c6 c7 c8 c9 c10 c11 c12
  have d1 : (r.kind == 1) = false := beq_eq_false_iff_ne.2 (by omega)
  have d2 : (r.kind == 2) = false := beq_eq_false_iff_ne.2 (by omega)
  have d3 : (r.kind == 3) = false := beq_eq_false_iff_ne.2 (by omega)
  have d4 : (r.kind == 4) = false := beq_eq_false_iff_ne.2 (by omega)
  have d5 : (r.kind == 5) = false := beq_eq_false_iff_ne.2 (by omega)
  have d6 : (r.kind == 6) = false := beq_eq_false_iff_ne.2 (by omega)
  have d7 : (r.kind == 7) = false := beq_eq_false_iff_ne.2 (by omega)
  have d8 : (r.kind == 8) = true := beq_iff_eq.2 k
  have K1 := hid k
  clear k
  go_enter Tryz.func137, Tryz.ntmps137
  go_wp2_with fail
  refine (in_t _ _ _ _ rfl).mono ?_
  rintro e w' ⟨rfl, rfl⟩
  go_upto_region 31 with (fail)
  have hw : r.want = ⟨r.id, r.known, r.hour, r.kind, 0, 0, [], 0, .empty, .empty, 0, 0, 0, 0, r.of⟩ := by
    have := K1.out
    unfold Rep.want
    rw [if_neg (by omega), if_neg (by omega), if_neg (by omega), if_neg (by omega), if_neg (by omega), if_neg (by omega), if_pos (by omega)]
  have ho : r.okB = ((r.hour == 0) && inB r.of 1 1000000 && (r.of != r.id)) := by
    have := K1.out
    unfold Rep.okB
    rw [if_neg (by omega), if_neg (by omega), if_neg (by omega), if_neg (by omega), if_neg (by omega), if_neg (by omega), if_pos (by omega), beq_dec, inB_eq, bne_dec]
  have hcl : ∀ (b : Bool), b = ((r.hour == 0) && inB r.of 1 1000000 && (r.of != r.id)) → ∀ w', Below w.heap.size w w' → ∀ e, e = Ending.returned (.tuple #[(⟨r.id, r.known, r.hour, r.kind, 0, 0, [], 0, .empty, .empty, 0, 0, 0, 0, r.of⟩ : Rep).val none 0, .bool b]) → FieldsPost r w e w' := by
    rintro b rfl w' hb e rfl
    refine ⟨hb, none, 0, ?_, ?_⟩
    · rw [hw, ho]
    · rw [hw]
      exact IntsAt.nil _ _
  have HCL := hid hcl
  clear hw ho hcl
  refine mid_gen (R := ⟨r.id, r.known, r.hour, r.kind, 0, 0, [], 0, .empty, .empty, 0, 0, 0, 0, r.of⟩) (B := none) (d := 0) HX.out HBW.out hlt ?_ ?_ ?_
  · rfl
  · rfl
  intro W3 M
  have HM := hid M
  obtain ⟨c0, c1, c2, c3, c4, c5, c6, c7, c8, c9, c10, c11, c12, c13, c14⟩ := M.own.at_
  obtain ⟨old, hos, hR⟩ := M.row
  have HR := hid hR
  have HBB := hid M.box
  clear M hW hR
  rcases h1 : (r.hour == 0) with _ | _
  · have H1 := hid h1
    go_wp2_with (first | refine load_rep rfl _ rfl _ rfl HBB.out ?_ | refine store_rep rfl _ _ rfl _ rfl rfl HR.out hos ?_)
    refine bodyPost_ret (fields_ret _ _ W.heap.size (r := ⟨r.id, r.known, r.hour, r.kind, 0, 0, [], 0, .empty, .empty, 0, 0, 0, 0, r.of⟩) (A := none) (c := 0) (b := false) ?_ ?_ (box_set HR.out)) rfl ?_
    · rfl
    · rfl
    · exact HCL.out _ (by rw [H1.out]; rfl) _ (below_setRow HM.out.below (Nat.le_of_lt HM.out.lt) _) _ rfl
  · have H1 := hid h1
    rcases h2 : inB r.of 1 1000000 with _ | _
    · have H2 := hid h2
      clear h2
      go_wp2_with fail
      refine (in_t _ _ _ _ H2.out).mono ?_
      rintro e w' ⟨rfl, rfl⟩
      go_wp2_with (first | refine load_rep rfl _ rfl _ rfl HBB.out ?_ | refine store_rep rfl _ _ rfl _ rfl rfl HR.out hos ?_)
      refine bodyPost_ret (fields_ret _ _ W.heap.size (r := ⟨r.id, r.known, r.hour, r.kind, 0, 0, [], 0, .empty, .empty, 0, 0, 0, 0, r.of⟩) (A := none) (c := 0) (b := false) ?_ ?_ (box_set HR.out)) rfl ?_
      · rfl
      · rfl
      · exact HCL.out _ (by rw [H1.out, H2.out]; rfl) _ (below_setRow HM.out.below (Nat.le_of_lt HM.out.lt) _) _ rfl
    · have H2 := hid h2
      clear h2
      obtain ⟨b3, h3⟩ : ∃ b3, (r.of != r.id) = b3 := ⟨_, rfl⟩
      have H3 := hid h3
      go_wp2_with fail
      refine (in_t _ _ _ _ H2.out).mono ?_
      rintro e w' ⟨rfl, rfl⟩
      go_wp2_with (first | refine load_rep rfl _ rfl _ rfl HBB.out ?_ | refine store_rep rfl _ _ rfl _ rfl rfl HR.out hos ?_)
      refine bodyPost_ret (fields_ret _ _ W.heap.size (r := ⟨r.id, r.known, r.hour, r.kind, 0, 0, [], 0, .empty, .empty, 0, 0, 0, 0, r.of⟩) (A := none) (c := 0) (b := b3) ?_ ?_ (box_set HR.out)) rfl ?_
      · rfl
      · rfl
      · exact HCL.out _ (by rw [H1.out, H2.out, H3.out]; rfl) _ (below_setRow HM.out.below (Nat.le_of_lt HM.out.lt) _) _ rfl
theorem fields_any (r : Rep) (A : Option Addr) (c : Nat) (w : World) (hA : IntsAt w A r.parts) (hl : r.parts.length ≤ 100) (hc : r.parts.length ≤ c) :
    Calls Tryz.prog 137 #[r.val A c] w (FieldsPost r w) := by
  by_cases h0 : r.kind < 1 ∨ 8 < r.kind
  · exact fields_none r A c w h0
  have h : r.kind = 1 ∨ r.kind = 2 ∨ r.kind = 3 ∨ r.kind = 4 ∨ r.kind = 5 ∨ r.kind = 6 ∨ r.kind = 7 ∨ r.kind = 8 := by omega
  rcases h with h | h | h | h | h | h | h | h
  · exact fields_found r A c w h
  · exact fields_divided r A c w h
  · exact fields_joined r A c w h hA hl hc
  · exact fields_weighed r A c w h
  · exact fields_hidden r A c w h
  · exact fields_shown r A c w h
  · exact fields_same r A c w h
  · exact fields_void r A c w h
/-- What CheckReport says. -/
def wfE (r : Rep) : Int := if r.wfB then 0 else 1
theorem want_parts (r : Rep) : r.want.parts = r.parts ∨ r.want.parts = [] := by
  unfold Rep.want Rep.base
  repeat' split
  all_goals simp
theorem equal_t (r s : Rep) (A B : Option Addr) (c d : Nat) (w : World) (hr : r.parts.length ≤ 100) (hs : s.parts.length ≤ 100) (hA : IntsAt w A r.parts) (hB : IntsAt w B s.parts) {t : Bool} (ht : decide (r = s) = t) :
    Calls Tryz.prog 138 #[r.val A c, s.val B d] w fun e w' => e = .returned (.bool t) ∧ Below w.heap.size w w' := by
  subst ht
  exact equal_any r s A B c d w hr hs hA hB
/-- Room for a report, and the report stored there: a box of its own. -/
theorem store_rep_new {ops : Array Oper} {rest : List Oper} {o : Oper} {a : Act} {w : World} {Q : Exit → Act → World → Prop} (hgd : o.guard = none) (x y : Operand) (ho : o.op = .store 46 x y)
    {g : Nat} (hx : a.eval x = .pointer (some ⟨g, 0, none⟩)) (hgw : g = w.heap.size) {r : Rep} {A : Option Addr} {c : Nat} (hy : a.eval y = r.val A c) {zs : Array Value} (hs : zs.size = 15)
    (h : ∀ W, BoxIs W g r A c → Below w.heap.size w W → w.heap.size < W.heap.size → wpList Tryz.prog ops Q rest (a.put o.dst undef) W) : wpList Tryz.prog ops Q (o :: rest) a (w.alloc (.cells zs 46)) := by
  subst hgw
  refine store_rep hgd x y ho w.heap.size hx hy (heap_alloc_new w _) hs (h _ (box_set (heap_alloc_new w _)) (below_setRow ((Below.refl _ _).alloc (Nat.le_refl _) _) (Nat.le_refl _) _) ?_)
  simp
set_option maxHeartbeats 8000000 in
theorem checkReport_any (r : Rep) (A : Option Addr) (c : Nat) (w : World) (hA : IntsAt w A r.parts) (hl : r.parts.length ≤ 100) (hc : r.parts.length ≤ c) :
    Calls Tryz.prog 98 #[r.val A c] w fun e w' => e = .returned (.int .i64 (wfE r)) ∧ Below w.heap.size w w' := by
  obtain ⟨W, hW, hbx, hbW, hlt⟩ := boxC r A c w
  have HX := hid hbx
  have HBW := hid hbW
  have HAW := hid (hA.kept (Kept.of_below hbW))
  have HL := hid hl
  have HF := hid (fields_any r A c W HAW.out hl hc)
  have HWF := hid r.wfB_want
  have hwl : r.want.parts.length ≤ 100 := by
    rcases want_parts r with e | e <;> rw [e]
    · exact hl
    · simp
  have HWL := hid hwl
  clear hbx hbW hA hl hc hwl
  go_enter Tryz.func98, Tryz.ntmps98
  go_wp2_with (refine load_rep rfl _ rfl _ rfl HX.out ?_)
  refine HF.out.mono ?_
  rintro e w1 ⟨hb, B, d, rfl, hI⟩
  have HB1 := hid (HBW.out.trans (hb.mono HBW.out.size))
  have HX1 := hid (HX.out.below hb)
  have HI1 := hid hI
  have HA1 := hid (HAW.out.kept (Kept.of_below hb))
  clear hb hI HX HAW HF hW
  rcases h1 : r.okB with _ | _
  · have H1 := hid h1
    clear h1
    go_wp2_with (first | (refine store_rep_new rfl _ _ rfl rfl rfl rfl rfl ?_; intro W2 hbx2 hb2 hlt2; have HX2 := hid (HX1.out.below hb2); have HB2 := hid hbx2; have HD2 := hid (HB1.out.trans (hb2.mono HB1.out.size)); have HI2 := hid (HI1.out.kept (Kept.of_below hb2)); have HA2 := hid (HA1.out.kept (Kept.of_below hb2)); clear hbx2 hb2) | refine load_rep_g rfl _ rfl _ rfl HX2.out ?_ | refine load_rep_g rfl _ rfl _ rfl HB2.out ?_)
    go_ret
    exact ⟨ret_int (by unfold wfE; rw [HWF.out, H1.out]; rfl), HD2.out⟩
  have H1 := hid h1
  clear h1
  rcases h2 : decide (r = r.want) with _ | _
  · have H2 := hid h2
    clear h2
    go_wp2_with (first | (refine store_rep_new rfl _ _ rfl rfl rfl rfl rfl ?_; intro W2 hbx2 hb2 hlt2; have HX2 := hid (HX1.out.below hb2); have HB2 := hid hbx2; have HD2 := hid (HB1.out.trans (hb2.mono HB1.out.size)); have HI2 := hid (HI1.out.kept (Kept.of_below hb2)); have HA2 := hid (HA1.out.kept (Kept.of_below hb2)); clear hbx2 hb2) | refine load_rep_g rfl _ rfl _ rfl HX2.out ?_ | refine load_rep_g rfl _ rfl _ rfl HB2.out ?_)
    refine (equal_t r r.want A B c d W2 HL.out HWL.out HA2.out HI2.out H2.out).mono ?_
    rintro e w3 ⟨rfl, hb3⟩
    have HD3 := hid (HD2.out.trans (hb3.mono HD2.out.size))
    clear hb3
    go_wp2_with fail
    go_ret
    exact ⟨ret_int (by unfold wfE; rw [HWF.out, H1.out, H2.out]; rfl), HD3.out⟩
  have H2 := hid h2
  clear h2
  have hi3 := inB_eq r.id 1 1000000
  have hi4 := inB_eq r.known 0 1000000
  have HI3 := hid hi3
  have HI4 := hid hi4
  clear hi3 hi4
  rcases h3 : inB r.id 1 1000000 with _ | _
  all_goals
    rw [h3] at HI3
    have H3 := hid HI3.out.symm
    have H3' := hid h3
    clear h3
  · go_wp2_with (first | (refine store_rep_new rfl _ _ rfl rfl rfl rfl rfl ?_; intro W2 hbx2 hb2 hlt2; have HX2 := hid (HX1.out.below hb2); have HB2 := hid hbx2; have HD2 := hid (HB1.out.trans (hb2.mono HB1.out.size)); have HI2 := hid (HI1.out.kept (Kept.of_below hb2)); have HA2 := hid (HA1.out.kept (Kept.of_below hb2)); clear hbx2 hb2) | refine load_rep_g rfl _ rfl _ rfl HX2.out ?_ | refine load_rep_g rfl _ rfl _ rfl HB2.out ?_)
    refine (equal_t r r.want A B c d W2 HL.out HWL.out HA2.out HI2.out H2.out).mono ?_
    rintro e w3 ⟨rfl, hb3⟩
    have HD3 := hid (HD2.out.trans (hb3.mono HD2.out.size))
    obtain ⟨c0, c1, _⟩ := (HX2.out.below hb3).at_
    clear hb3
    go_wp2_with fail
    refine (in_t _ _ _ _ H3'.out).mono ?_
    rintro e w' ⟨rfl, rfl⟩
    go_wp2_with fail
    go_ret
    exact ⟨ret_int (by unfold wfE; rw [HWF.out, H1.out, H2.out, H3.out]; rfl), HD3.out⟩
  · obtain ⟨b4, h4⟩ : ∃ b, inB r.known 0 1000000 = b := ⟨_, rfl⟩
    rw [h4] at HI4
    have H4 := hid HI4.out.symm
    have H4' := hid h4
    clear h4
    go_wp2_with (first | (refine store_rep_new rfl _ _ rfl rfl rfl rfl rfl ?_; intro W2 hbx2 hb2 hlt2; have HX2 := hid (HX1.out.below hb2); have HB2 := hid hbx2; have HD2 := hid (HB1.out.trans (hb2.mono HB1.out.size)); have HI2 := hid (HI1.out.kept (Kept.of_below hb2)); have HA2 := hid (HA1.out.kept (Kept.of_below hb2)); clear hbx2 hb2) | refine load_rep_g rfl _ rfl _ rfl HX2.out ?_ | refine load_rep_g rfl _ rfl _ rfl HB2.out ?_)
    refine (equal_t r r.want A B c d W2 HL.out HWL.out HA2.out HI2.out H2.out).mono ?_
    rintro e w3 ⟨rfl, hb3⟩
    have HD3 := hid (HD2.out.trans (hb3.mono HD2.out.size))
    obtain ⟨c0, c1, _⟩ := (HX2.out.below hb3).at_
    clear hb3
    go_wp2_with fail
    refine (in_t _ _ _ _ H3'.out).mono ?_
    rintro e w' ⟨rfl, rfl⟩
    go_wp2_with fail
    refine (in_t _ _ _ _ H4'.out).mono ?_
    rintro e w' ⟨rfl, rfl⟩
    cases b4
    all_goals
      go_wp2_with fail
      go_ret
      exact ⟨ret_int (by unfold wfE; rw [HWF.out, H1.out, H2.out, H3.out, H4.out]; rfl), HD3.out⟩
end Go.Proofs.YtfaoillnakhejaaGreat
