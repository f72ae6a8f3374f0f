/- equal (two reports); fields. -/
import Derived.Test.YtfaoillnakhejaaGreatG3
import Derived.Test.YtfaoillnakhejaaGreatG4
import Derived.Test.YtfaoillnakhejaaGreatG1
namespace Go.Proofs.YtfaoillnakhejaaGreat
set_option maxRecDepth 100000
open Go.RowKit
theorem ba_loop (s : ByteArray) : ∀ (n i : Nat) (r : List UInt8), s.size - i ≤ n → ByteArray.toList.loop s i r = r.reverse ++ s.data.toList.drop i := by
  intro n
  induction n with
  | zero =>
    intro i r h
    unfold ByteArray.toList.loop
    rw [if_neg (by omega), List.drop_of_length_le (by have : s.data.size = s.size := rfl; simp; omega), List.append_nil]
  | succ n ih =>
    intro i r h
    unfold ByteArray.toList.loop
    by_cases hi : i < s.size
    · rw [if_pos hi, ih _ _ (by omega)]
      have hd : i < s.data.toList.length := by have : s.data.size = s.size := rfl; simp; omega
      rw [List.drop_eq_getElem_cons hd]
      have : s.get! i = s.data.toList[i] := by
        show s.data[i]! = _
        rw [getElem!_pos s.data i hi]
        simp
      rw [this]
      simp
    · rw [if_neg hi, List.drop_of_length_le (by have : s.data.size = s.size := rfl; simp; omega), List.append_nil]
theorem ba_toList (s : ByteArray) : s.toList = s.data.toList := by
  unfold ByteArray.toList
  rw [ba_loop s s.size 0 [] (by omega)]
  simp
theorem ba_inj {a b : ByteArray} (h : a.toList = b.toList) : a = b := by
  rw [ba_toList, ba_toList] at h
  cases a
  cases b
  congr
  exact Array.toList_inj.1 h
theorem rep_ext {r s : Rep} (a0 : r.id = s.id) (a1 : r.known = s.known) (a2 : r.hour = s.hour) (a3 : r.kind = s.kind) (a4 : r.parcel = s.parcel) (a5 : r.count = s.count) (ap : r.parts = s.parts) (a6 : r.cell = s.cell) (a7 : r.mark = s.mark) (a8 : r.goods = s.goods) (a9 : r.lo = s.lo) (a10 : r.hi = s.hi) (a11 : r.party = s.party) (a12 : r.other = s.other) (a13 : r.of = s.of) : r = s := by
  cases r
  cases s
  simp only at a0 a1 a2 a3 a4 a5 ap a6 a7 a8 a9 a10 a11 a12 a13
  subst a0 a1 a2 a3 a4 a5 ap a6 a7 a8 a9 a10 a11 a12 a13
  rfl
set_option maxHeartbeats 8000000 in
theorem equal_any (r s : Rep) (A B : Option Addr) (c d : Nat) (w : World) (hr : r.parts.length ≤ 100) (hs : s.parts.length ≤ 100) (hA : IntsAt w A r.parts) (hB : IntsAt w B s.parts) :
    Calls Tryz.prog 138 #[r.val A c, s.val B d] w fun e w' => e = .returned (.bool (decide (r = s))) ∧ Below w.heap.size w w' := by
  obtain ⟨W, hW, hbx, hbW, hlt⟩ := boxC r A c w
  obtain ⟨V, hV, hby, hbV, hltV⟩ := boxC s B d W
  have hbx := (hbx.below hbV).at_
  have hby := hby.at_
  have hWV : Below w.heap.size w V := hbW.trans (hbV.mono hbW.size)
  have HX := hid hbx
  have HY := hid hby
  have HA := hid (hA.kept (Kept.of_below hWV))
  have HB := hid (hB.kept (Kept.of_below hWV))
  have HWV := hid hWV
  have c6 := hbx.2.2.2.2.2.2.1
  have e6 := hby.2.2.2.2.2.2.1
  clear hbx hby hbW hbV hWV hltV hA hB
  have hparts := fun (t : Bool) (ht : decide (r.parts = s.parts) = t) => eqInts_t A B c d r.parts s.parts V (by omega) (by omega) HA.out HB.out ht
  have HP := hid hparts
  clear hparts
  rcases hp : decide (r.parts = s.parts) with _ | _
  · have e : decide (r = s) = false := decide_eq_false (fun e => of_decide_eq_false hp (by rw [e]))
    rw [e]
    have HPP := hid hp
    clear hp e
    go_enter Tryz.func138, Tryz.ntmps138
    go_wp2_with fail
    refine (HP.out _ HPP.out).mono ?_
    rintro e w1 ⟨rfl, hb⟩
    have HB1 := hid (HWV.out.trans (hb.mono HWV.out.size))
    clear hb hW hV c6 e6
    go_upto_region 2 with (fail)
    refine strip_lit ?_
    simp only [List.append_eq, List.map_cons, List.map_nil, strip, List.cons_append, List.nil_append]
    go_wp2_with fail
    go_ret
    exact ⟨rfl, HB1.out⟩
  · have HPP := hid hp
    clear hp
    go_enter Tryz.func138, Tryz.ntmps138
    go_wp2_with fail
    refine (HP.out _ HPP.out).mono ?_
    rintro e w1 ⟨rfl, hb⟩
    have HB1 := hid (HWV.out.trans (hb.mono HWV.out.size))
    have HX1 := hid (HX.out.kept (Kept.of_below hb))
    have HY1 := hid (HY.out.kept (Kept.of_below hb))
    clear hb hW hV c6 e6
    obtain ⟨c0, c1, c2, c3, c4, c5, c6, c7, c8, c9, c10, c11, c12, c13, c14⟩ := HX1.out
    obtain ⟨e0, e1, e2, e3, e4, e5, e6, e7, e8, e9, e10, e11, e12, e13, e14⟩ := HY1.out
    go_upto_region 2 with (fail)
    refine strip_lit ?_
    simp only [List.append_eq, List.map_cons, List.map_nil, strip, List.cons_append, List.nil_append]
    go_wp2_with fail
    all_goals go_ret
    all_goals refine ⟨ret_bool ?_, HB1.out⟩
    all_goals first
      | (symm
         refine decide_eq_false ?_
         rintro rfl
         contradiction)
      | (rw [Bool.eq_iff_iff, decide_eq_true_eq, beq_iff_eq]
         constructor
         · intro ho
           exact rep_ext (by assumption) (by assumption) (by assumption) (by assumption) (by assumption) (by assumption) (of_decide_eq_true HPP.out) (by assumption) (ba_inj (by assumption)) (ba_inj (by assumption)) (by assumption) (by assumption) (by assumption) (by assumption) ho
         · rintro rfl
           rfl)
/-- What fields hands back. -/
def FieldsPost (r : Rep) (w : World) (e : Ending) (w' : World) : Prop :=
  Below w.heap.size w w' ∧ ∃ A c, e = .returned (.tuple #[r.want.val A c, .bool r.okB]) ∧ IntsAt w' A r.want.parts
/-- The pair that fields returns: the report of its first result's cell, and the flag. -/
theorem fields_ret (tmps : Array Value) (w : World) (g : Nat) {r : Rep} {A : Option Addr} {c : Nat} {b : Bool} (hp : tmps.getD 2 undef = .pointer (some ⟨g, 0, none⟩)) (hu : tmps.getD 3 undef = .bool b) (hg : BoxIs w g r A c) :
    (results Tryz.f137 tmps).run Tryz.prog w = .ok (.tuple #[r.val A c, .bool b]) w := by
  rw [results_cell_tmp rfl, hp, hu]
  simp [asAddr, run_loadVar_row w g _ _ (r.cells A c) (0, 0) _ hg Tryz.underlying46 rfl rep_info]
theorem box_first (W : World) (r : Rep) (A : Option Addr) (c : Nat) (o : Obj) : BoxIs ((W.alloc (.cells (r.cells A c) 46)).alloc o) W.heap.size r A c := by
  unfold BoxIs
  rw [heap_alloc_old _ _ (by simp), heap_alloc_new]
theorem box_first_t (W : World) (r : Rep) (A : Option Addr) (c : Nat) (o : Obj) (cs : Array Value) (h : r.cells A c = cs) : BoxIs ((W.alloc (.cells cs 46)).alloc o) W.heap.size r A c := by
  subst h
  exact box_first W r A c o
set_option maxHeartbeats 8000000 in
theorem fields_none (r : Rep) (A : Option Addr) (c : Nat) (w : World) (k : r.kind < 1 ∨ 8 < r.kind) :
    Calls Tryz.prog 137 #[r.val A c] w (FieldsPost r w) := by
  obtain ⟨W, hW, hbx, hbW, hlt⟩ := boxC r A c w
  have HX := hid hbx
  have HBW := hid hbW
  have hx := hbx.at_
  obtain ⟨c0, c1, c2, c3, c4, c5, c6, c7, c8, c9, c10, c11, c12, c13, c14⟩ := hx
  clear hbx hbW
  have d1 : (r.kind == 1) = false := beq_eq_false_iff_ne.2 (by omega)
  have d2 : (r.kind == 2) = false := beq_eq_false_iff_ne.2 (by omega)
  have d3 : (r.kind == 3) = false := beq_eq_false_iff_ne.2 (by omega)
  have d4 : (r.kind == 4) = false := beq_eq_false_iff_ne.2 (by omega)
  have d5 : (r.kind == 5) = false := beq_eq_false_iff_ne.2 (by omega)
  have d6 : (r.kind == 6) = false := beq_eq_false_iff_ne.2 (by omega)
  have d7 : (r.kind == 7) = false := beq_eq_false_iff_ne.2 (by omega)
  have d8 : (r.kind == 8) = false := beq_eq_false_iff_ne.2 (by omega)
  go_enter Tryz.func137, Tryz.ntmps137
  go_wp2_with fail
  refine (in_t _ _ _ _ rfl).mono ?_
  rintro e w' ⟨rfl, rfl⟩
  go_wp2_with fail
  have hw : r.want = r.base := by
    unfold Rep.want
    rw [if_neg (by omega), if_neg (by omega), if_neg (by omega), if_neg (by omega), if_neg (by omega), if_neg (by omega), if_neg (by omega)]
  have ho : r.okB = false := by
    unfold Rep.okB
    rw [if_neg (by omega), if_neg (by omega), if_neg (by omega), if_neg (by omega), if_neg (by omega), if_neg (by omega), if_neg (by omega)]
  refine bodyPost_ret (fields_ret _ _ W.heap.size (r := r.base) (A := none) (c := 0) (b := false) ?_ ?_ ?_) rfl ?_
  · rfl
  · rfl
  · exact box_first_t W _ _ _ _ _ rfl
  refine ⟨(HBW.out.alloc HBW.out.size _).alloc (HBW.out.alloc HBW.out.size _).size _, none, 0, ?_, ?_⟩
  · rw [hw, ho]
  · rw [hw]
    exact IntsAt.nil _ _
end Go.Proofs.YtfaoillnakhejaaGreat
