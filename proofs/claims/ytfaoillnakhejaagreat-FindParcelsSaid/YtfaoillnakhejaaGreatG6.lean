/- fields: a divided parcel; fields: what stands behind its calls; fields: kind 3; fields: kind 4. -/
import Derived.Test.YtfaoillnakhejaaGreatG5
import Derived.BigRegion
import Derived.Laws.CopyOwn
namespace Go.Proofs.YtfaoillnakhejaaGreat
set_option maxRecDepth 100000
open Go.RowKit
theorem inB_eq (n a b : Int) : inB n a b = decide (a ≤ n ∧ n ≤ b) := by
  unfold inB
  rw [Bool.eq_iff_iff]
  simp
theorem bne_dec (a b : Int) : decide (a ≠ b) = (a != b) := by
  rw [Bool.eq_iff_iff]
  simp
set_option maxHeartbeats 8000000 in
theorem fields_divided (r : Rep) (A : Option Addr) (c : Nat) (w : World) (k : r.kind = 2) :
    Calls Tryz.prog 137 #[r.val A c] w (FieldsPost r w) := by
  obtain ⟨W, hW, hbx, hbW, hlt⟩ := boxC r A c w
  have HX := hid hbx
  have HBW := hid hbW
  have hx := hbx.at_
  obtain ⟨c0, c1, c2, c3, c4, c5, c6, c7, c8, c9, c10, c11, c12, c13, c14⟩ := hx
  clear hbx hbW c6 c7 c8 c9 c10 c11 c12 c13 c14
  have d1 : (r.kind == 1) = false := beq_eq_false_iff_ne.2 (by omega)
  have d2 : (r.kind == 2) = true := beq_iff_eq.2 k
  have K1 := hid k
  clear k
  go_enter Tryz.func137, Tryz.ntmps137
  go_wp2_with fail
  refine (in_t _ _ _ _ rfl).mono ?_
  rintro e w' ⟨rfl, rfl⟩
  go_wp2_with fail
  go_region
  have hw : r.want = ⟨r.id, r.known, r.hour, r.kind, r.parcel, r.count, [], 0, .empty, .empty, 0, 0, 0, 0, 0⟩ := by
    have := K1.out
    unfold Rep.want
    rw [if_neg (by omega), if_pos this]
  have ho : r.okB = (inB r.hour 0 r.known && parcelB r.parcel && inB r.count 2 8) := by
    have := K1.out
    unfold Rep.okB
    rw [if_neg (by omega), if_pos this, inB_eq, inB_eq]
  have hcl : ∀ (b : Bool), b = (inB r.hour 0 r.known && parcelB r.parcel && inB r.count 2 8) → ∀ (o : Obj) e, e = Ending.returned (.tuple #[(⟨r.id, r.known, r.hour, r.kind, r.parcel, r.count, [], 0, .empty, .empty, 0, 0, 0, 0, 0⟩ : Rep).val none 0, .bool b]) → ∀ o2, FieldsPost r w e ((W.alloc o).alloc o2).drew := by
    rintro b rfl o e rfl o2
    refine ⟨((HBW.out.alloc HBW.out.size _).alloc (HBW.out.alloc HBW.out.size _).size _).drew, none, 0, ?_, ?_⟩
    · rw [hw, ho]
    · rw [hw]
      exact IntsAt.nil _ _
  have HCL := hid hcl
  clear hw ho hcl
  rcases h1 : inB r.hour 0 r.known with _ | _
  · have H1 := hid h1
    clear h1
    go_wp2_with fail
    refine bodyPost_ret (fields_ret _ _ W.heap.size (r := ⟨r.id, r.known, r.hour, r.kind, r.parcel, r.count, [], 0, .empty, .empty, 0, 0, 0, 0, 0⟩) (A := none) (c := 0) (b := false) ?_ ?_ ?_) rfl ?_
    · rfl
    · rfl
    · exact box_first_t W _ _ _ _ _ rfl
    · exact HCL.out _ (by rw [H1.out]; rfl) _ _ rfl _
  · have H1 := hid h1
    clear h1
    rcases h2 : parcelB r.parcel with _ | _
    · have H2 := hid h2
      clear h2
      go_wp2_with fail
      refine (isParcel_t _ _ H2.out).mono ?_
      rintro e w' ⟨rfl, rfl⟩
      go_wp2_with fail
      refine bodyPost_ret (fields_ret _ _ W.heap.size (r := ⟨r.id, r.known, r.hour, r.kind, r.parcel, r.count, [], 0, .empty, .empty, 0, 0, 0, 0, 0⟩) (A := none) (c := 0) (b := false) ?_ ?_ ?_) rfl ?_
      · rfl
      · rfl
      · exact box_first_t W _ _ _ _ _ rfl
      · exact HCL.out _ (by rw [H1.out, H2.out]; rfl) _ _ rfl _
    · have H2 := hid h2
      clear h2
      obtain ⟨b3, h3⟩ : ∃ b3, inB r.count 2 8 = b3 := ⟨_, rfl⟩
      have H3 := hid h3
      clear h3
      go_wp2_with fail
      refine (isParcel_t _ _ H2.out).mono ?_
      rintro e w' ⟨rfl, rfl⟩
      go_wp2_with fail
      refine (in_t _ _ _ _ H3.out).mono ?_
      rintro e w' ⟨rfl, rfl⟩
      go_wp2_with fail
      refine bodyPost_ret (fields_ret _ _ W.heap.size (r := ⟨r.id, r.known, r.hour, r.kind, r.parcel, r.count, [], 0, .empty, .empty, 0, 0, 0, 0, 0⟩) (A := none) (c := 0) (b := b3) ?_ ?_ ?_) rfl ?_
      · rfl
      · rfl
      · exact box_first_t W _ _ _ _ _ rfl
      · exact HCL.out _ (by rw [H1.out, H2.out, H3.out]; rfl) _ _ rfl _
theorem beq_dec (a b : Int) : decide (a = b) = (a == b) := by
  rw [Bool.eq_iff_iff]
  simp
theorem isMark_t (s : ByteArray) (w : World) {t : Bool} (ht : markB s = t) : Calls Tryz.prog 175 #[.string s] w fun e w' => e = .returned (.bool t) ∧ Below w.heap.size w w' := by
  subst ht
  exact isMark_any s w
theorem isName_t (s : ByteArray) (w : World) {t : Bool} (ht : nameB s = t) : Calls Tryz.prog 176 #[.string s] w fun e w' => e = .returned (.bool t) ∧ Below w.heap.size w w' := by
  subst ht
  exact isName_any s w
theorem isSpan_t (lo hi : Int) (w : World) {t : Bool} (ht : spanB lo hi = t) : Calls Tryz.prog 177 #[.agg #[.int .i64 lo, .int .i64 hi]] w fun e w' => e = .returned (.bool t) ∧ Below w.heap.size w w' := by
  subst ht
  exact isSpan_any lo hi w
theorem rep_one (r : Rep) (A : Option Addr) (c : Nat) : (r.cells A c).all (·.oneCell') = true := by
  simp [Rep.cells, Value.oneCell']
theorem rep_size (r : Rep) (A : Option Addr) (c : Nat) : (r.cells A c).size = 15 := rfl
/-- A whole report stored into a row. -/
theorem store_rep {ops : Array Oper} {rest : List Oper} {o : Oper} {a : Act} {w : World} {Q : Exit → Act → World → Prop} (hgd : o.guard = none) (x y : Operand) (ho : o.op = .store 46 x y)
    (g : Nat) (hx : a.eval x = .pointer (some ⟨g, 0, none⟩)) {r : Rep} {A : Option Addr} {c : Nat} (hy : a.eval y = r.val A c) {old : Array Value} (hg : w.heap[g]? = some (.cells old 46 (0, 0))) (hs : old.size = 15)
    (h : wpList Tryz.prog ops Q rest (a.put o.dst undef) (w.setRow g (r.cells A c))) : wpList Tryz.prog ops Q (o :: rest) a w :=
  wpList_store_row hgd _ x y ho g (r.cells A c) hx hy _ old hg rep_info (hs.trans (rep_size r A c).symm) (rep_one r A c) h
theorem box_set {w : World} {g : Nat} {r : Rep} {A : Option Addr} {c : Nat} {old : Array Value} (hg : w.heap[g]? = some (.cells old 46 (0, 0))) : BoxIs (w.setRow g (r.cells A c)) g r A c :=
  setRow_heap w g old _ _ _ hg
/-- The rows of fields in a later world: the result's cell, the report that is made, and the argument's box. -/
structure Mid (w W w1 : World) (r : Rep) (A : Option Addr) (c : Nat) (R : Rep) (B : Option Addr) (d : Nat) : Prop where
  row : ∃ old : Array Value, old.size = 15 ∧ w1.heap[W.heap.size]? = some (.cells old 46 (0, 0))
  box : BoxIs w1 (W.heap.size + 1) R B d
  own : BoxIs w1 w.heap.size r A c
  below : Below w.heap.size w w1
  lt : w.heap.size < W.heap.size
theorem Mid.next {w W w1 w2 : World} {r R : Rep} {A B : Option Addr} {c d : Nat} (h : Mid w W w1 r A c R B d) (hb : Below w1.heap.size w1 w2) : Mid w W w2 r A c R B d := by
  obtain ⟨⟨old, hs, hr⟩, h2, h3, h4, h5⟩ := h
  exact ⟨⟨old, hs, (hb.block _ (Array.getElem?_eq_some_iff.1 hr).1).trans hr⟩, h2.below hb, h3.below hb, h4.trans (hb.mono h4.size), h5⟩
theorem Mid.start {w W : World} {r R : Rep} {A B : Option Addr} {c d : Nat} {cs1 cs2 : Array Value} (hx : BoxIs W w.heap.size r A c) (hb : Below w.heap.size w W) (hl : w.heap.size < W.heap.size) (hs : cs1.size = 15) (h2 : R.cells B d = cs2) :
    Mid w W ((W.alloc (.cells cs1 46)).alloc (.cells cs2 46)) r A c R B d := by
  subst h2
  have hB : Below W.heap.size W ((W.alloc (.cells cs1 46)).alloc (.cells (R.cells B d) 46)) := ((Below.refl _ _).alloc (Nat.le_refl _) _).alloc (by simp) _
  refine ⟨⟨cs1, hs, ?_⟩, ?_, hx.below hB, hb.trans (hB.mono hb.size), hl⟩
  · rw [heap_alloc_old _ _ (by simp), heap_alloc_new]
  · unfold BoxIs
    have : W.heap.size + 1 = (W.alloc (.cells cs1 46)).heap.size := by simp
    rw [this, heap_alloc_new]
theorem Mid.start' {w W : World} {r R : Rep} {A B : Option Addr} {c d : Nat} {cs1 cs2 : Array Value} (hx : BoxIs W w.heap.size r A c) (hb : Below w.heap.size w W) (hl : w.heap.size < W.heap.size) (hs : cs1.size = 15) (h2 : R.cells B d = cs2) :
    Mid w W ((W.alloc (.cells cs1 46)).alloc (.cells cs2 46)).drew r A c R B d := by
  obtain ⟨h3, h4, h5, h6, h7⟩ := Mid.start hx hb hl hs h2
  exact ⟨h3, h4, h5, h6.drew, h7⟩
/-- The two new rows as a world with a name. -/
theorem mid_gen {w W : World} {r R : Rep} {A B : Option Addr} {c d : Nat} {cs1 cs2 : Array Value} {F : World → Prop} (hx : BoxIs W w.heap.size r A c) (hb : Below w.heap.size w W) (hl : w.heap.size < W.heap.size) (hs : cs1.size = 15) (h2 : R.cells B d = cs2)
    (h : ∀ W3, Mid w W W3 r A c R B d → F W3) : F ((W.alloc (.cells cs1 46)).alloc (.cells cs2 46)) := h _ (Mid.start hx hb hl hs h2)
theorem mid_gen' {w W : World} {r R : Rep} {A B : Option Addr} {c d : Nat} {cs1 cs2 : Array Value} {F : World → Prop} (hx : BoxIs W w.heap.size r A c) (hb : Below w.heap.size w W) (hl : w.heap.size < W.heap.size) (hs : cs1.size = 15) (h2 : R.cells B d = cs2)
    (h : ∀ W3, Mid w W W3 r A c R B d → F W3) : F ((W.alloc (.cells cs1 46)).alloc (.cells cs2 46)).drew := h _ (Mid.start' hx hb hl hs h2)
theorem IntsAt.take {w : World} {A : Option Addr} {xs : List Int} (h : IntsAt w A xs) (k : Nat) : IntsAt w A (xs.take k) := fun h0 => by
  have h1 : 0 < xs.length := by
    have := List.length_take_le k xs
    have h2 := List.length_take (i := k) (l := xs)
    omega
  obtain ⟨b, off, e, hc⟩ := h h1
  refine ⟨b, off, e, fun j hj => ?_⟩
  have h3 : j < xs.length := by simp at hj; omega
  rw [hc j h3]
  simp
/-- The parts ahead of k are different numbers of parcels. -/
def fair (b : Bool) (l : List Int) (k : Nat) : Bool := b && (l.take k).all parcelB && decide (l.take k).Nodup
theorem fair_zero (b : Bool) (l : List Int) : fair b l 0 = b := by simp [fair]
theorem nodup_snoc (l : List Int) (x : Int) : decide (l ++ [x]).Nodup = (decide l.Nodup && !decide (x ∈ l)) := by
  rw [Bool.eq_iff_iff]
  simp only [decide_eq_true_eq, Bool.and_eq_true, Bool.not_eq_true', decide_eq_false_iff_not, List.nodup_append, List.nodup_cons, List.not_mem_nil, not_false_eq_true, List.nodup_nil, and_true, List.mem_singleton, forall_eq, true_and]
  constructor
  · rintro ⟨h1, h2⟩
    exact ⟨h1, fun h => h2 x h rfl⟩
  · rintro ⟨h1, h2⟩
    exact ⟨h1, fun a ha e => h2 (e ▸ ha)⟩
theorem fair_step (b : Bool) (l : List Int) (k : Nat) (h : k < l.length) : fair b l (k + 1) = (fair b l k && (parcelB l[k] && !decide (l[k] ∈ l.take k))) := by
  unfold fair
  rw [List.take_succ_eq_append_getElem h, List.all_append, nodup_snoc]
  simp only [List.all_cons, List.all_nil, Bool.and_true]
  rw [Bool.eq_iff_iff]
  simp only [Bool.and_eq_true]
  constructor
  · rintro ⟨⟨a, b, c⟩, d, e⟩
    exact ⟨⟨⟨a, b⟩, d⟩, c, e⟩
  · rintro ⟨⟨⟨a, b⟩, d⟩, c, e⟩
    exact ⟨⟨a, b, c⟩, d, e⟩
theorem fair_all (b : Bool) (l : List Int) : fair b l l.length = (b && l.all parcelB && decide l.Nodup) := by
  unfold fair
  rw [List.take_length]
set_option maxHeartbeats 8000000 in
theorem fields_joined (r : Rep) (A : Option Addr) (c : Nat) (w : World) (k : r.kind = 3) (hA : IntsAt w A r.parts) (hl : r.parts.length ≤ 100) (hc : r.parts.length ≤ c) :
    Calls Tryz.prog 137 #[r.val A c] w (FieldsPost r w) := by
  obtain ⟨W, hW, hbx, hbW, hlt⟩ := boxC r A c w
  have HX := hid hbx
  have HBW := hid hbW
  have HA := hid hA
  have HL := hid hl
  have HC := hid hc
  have hx := hbx.at_
  obtain ⟨c0, c1, c2, c3, c4, c5, c6, c7, c8, c9, c10, c11, c12, c13, c14⟩ := hx
  clear hbx hbW hA c4 c5 c7 c8 c9 c10 c11 c12 c13 c14
  have d1 : (r.kind == 1) = false := beq_eq_false_iff_ne.2 (by omega)
  have d2 : (r.kind == 2) = false := beq_eq_false_iff_ne.2 (by omega)
  have d3 : (r.kind == 3) = true := beq_iff_eq.2 k
  have K1 := hid k
  have hw : r.want = ⟨r.id, r.known, r.hour, r.kind, 0, 0, r.parts, 0, .empty, .empty, 0, 0, 0, 0, 0⟩ := by
    unfold Rep.want
    rw [if_neg (by omega), if_neg (by omega), if_pos k]
  have ho : r.okB = fair (inB r.hour 0 r.known && inB (r.parts.length : Int) 2 8) r.parts r.parts.length := by
    unfold Rep.okB
    rw [if_neg (by omega), if_neg (by omega), if_pos k, fair_all, inB_eq, inB_eq]
    unfold partsB
    rw [show decide ((2 : Int) ≤ (r.parts.length : Int) ∧ (r.parts.length : Int) ≤ 8) = decide (2 ≤ r.parts.length ∧ r.parts.length ≤ 8) from decide_eq_decide.2 (by omega)]
    simp only [Bool.and_assoc]
  have hcl : ∀ (b : Bool), b = fair (inB r.hour 0 r.known && inB (r.parts.length : Int) 2 8) r.parts r.parts.length → ∀ w', Below w.heap.size w w' → ∀ e, e = Ending.returned (.tuple #[(⟨r.id, r.known, r.hour, r.kind, 0, 0, r.parts, 0, .empty, .empty, 0, 0, 0, 0, 0⟩ : Rep).val A c, .bool b]) → FieldsPost r w e w' := by
    rintro b rfl w' hb e rfl
    refine ⟨hb, A, c, ?_, ?_⟩
    · rw [hw, ho]
    · rw [hw]
      exact HA.out.kept (Kept.of_below hb)
  have HCL := hid hcl
  clear hw ho hcl k hl hc
  go_enter Tryz.func137, Tryz.ntmps137
  go_wp2_with fail
  refine (in_t _ _ _ _ rfl).mono ?_
  rintro e w' ⟨rfl, rfl⟩
  go_upto_region 13 with (fail)
  refine mid_gen (R := ⟨r.id, r.known, r.hour, r.kind, 0, 0, r.parts, 0, .empty, .empty, 0, 0, 0, 0, 0⟩) (B := A) (d := c) HX.out HBW.out hlt ?_ ?_ ?_
  · rfl
  · rfl
  intro W3 M
  have HM := hid M
  obtain ⟨c0, c1, c2, c3, c4, c5, c6, c7, c8, c9, c10, c11, c12, c13, c14⟩ := M.own.at_
  obtain ⟨old, hos, hR⟩ := M.row
  have HR := hid hR
  have HBB := hid M.box
  have HI := hid (HA.out.kept (Kept.of_below M.below))
  clear M hW hR c0 c1 c2 c3 c4 c5 c7 c8 c9 c10 c11 c12 c13 c14 d1 d2 d3
  rcases h1 : inB r.hour 0 r.known with _ | _
  · have H1 := hid h1
    clear h1
    go_wp2_with fail
    go_loopg [5, 101] (r.parts.length) (fun g ok i wr => wr = W3 ∧ ∃ k : Nat, k ≤ r.parts.length ∧ g = r.parts.length - k ∧ i = .int .i64 k ∧ ok = .bool (fair false r.parts k))
    case atStart => exact ⟨rfl, 0, by omega, by omega, rfl, by rw [fair_zero]⟩
    case round =>
      obtain ⟨rfl, k, hk, hgk, rfl, rfl⟩ := hrel
      by_cases hlt2 : k < r.parts.length
      · obtain ⟨b, off, hAe, hcc⟩ := HI.out (by omega)
        subst hAe
        have hck := hcc k hlt2
        have hll := HL.out
        have i0 : (0 : Int) ≤ k := by omega
        have i1 : (k : Int) < r.parts.length := by omega
        have i2 : (k : Int) ≤ c := by have := HC.out; omega
        have hst := fair_step false r.parts k hlt2
        have hct := fun (t : Bool) (ht : decide (r.parts[k] ∈ r.parts.take k) = t) => contains_t (some ⟨b, off, none⟩) k (r.parts.take k) (r.parts[k]) wr (by have := HL.out; simp; omega) (HI.out.take k) (t := t) ht
        rw [List.length_take_of_le (by omega)] at hct
        have HCT := hid hct
        obtain ⟨p, hp⟩ : ∃ p, r.parts[k] = p := ⟨_, rfl⟩
        rw [hp] at hck hst HCT
        have HP := hid hp
        clear hcc hct hp
        rcases hf : fair false r.parts k with _ | _
        · rw [hf, Bool.false_and] at hst
          have HF := hid hst
          have HE := hid hf
          clear hst hf
          go_wp2_with fail
          go_roundg (r.parts.length - (k + 1))
          case measure => omega
          case rel => exact ⟨rfl, k + 1, by omega, rfl, by go_num, by rw [HF.out]⟩
        · rw [hf, Bool.true_and] at hst
          clear hf
          rcases h3 : parcelB p with _ | _
          · rw [h3, Bool.false_and] at hst
            have HF := hid hst
            have H3 := hid h3
            clear hst h3
            go_wp2_with fail
            refine (isParcel_t _ _ H3.out).mono ?_
            rintro e w' ⟨rfl, rfl⟩
            go_wp2_with fail
            go_roundg (r.parts.length - (k + 1))
            case measure => omega
            case rel => exact ⟨rfl, k + 1, by omega, rfl, by go_num, by rw [HF.out]⟩
          · rw [h3, Bool.true_and] at hst
            have H3 := hid h3
            clear h3
            rcases h4 : decide (p ∈ r.parts.take k) with _ | _
            all_goals
              rw [h4] at hst
              have HF := hid hst
              have H4 := hid h4
              clear hst h4
              go_wp2_with fail
              refine (isParcel_t _ _ H3.out).mono ?_
              rintro e w' ⟨rfl, rfl⟩
              go_wp2_with fail
              refine (HCT.out _ H4.out).mono ?_
              rintro e w' ⟨rfl, rfl⟩
              go_wp2_with fail
              go_roundg (r.parts.length - (k + 1))
              case measure => omega
              case rel => exact ⟨rfl, k + 1, by omega, rfl, by go_num, by rw [HF.out]; rfl⟩
      · obtain rfl : k = r.parts.length := by omega
        go_wp2_with (first | refine load_rep rfl _ rfl _ rfl HBB.out ?_ | refine store_rep rfl _ _ rfl _ rfl rfl HR.out hos ?_)
        refine bodyPost_ret (fields_ret _ _ W.heap.size (r := ⟨r.id, r.known, r.hour, r.kind, 0, 0, r.parts, 0, .empty, .empty, 0, 0, 0, 0, 0⟩) (A := A) (c := c) (b := fair false r.parts r.parts.length) ?_ ?_ (box_set HR.out)) rfl ?_
        · rfl
        · rfl
        · exact HCL.out _ (by rw [H1.out]; rfl) _ (below_setRow HM.out.below (Nat.le_of_lt HM.out.lt) _) _ rfl
  · have H1 := hid h1
    clear h1
    obtain ⟨b2, h2⟩ : ∃ b2, inB (r.parts.length : Int) 2 8 = b2 := ⟨_, rfl⟩
    have H2 := hid h2
    clear h2
    go_wp2_with fail
    refine (in_t _ _ _ _ H2.out).mono ?_
    rintro e w' ⟨rfl, rfl⟩
    go_wp2_with fail
    go_loopg [5, 101] (r.parts.length) (fun g ok i wr => wr = W3 ∧ ∃ k : Nat, k ≤ r.parts.length ∧ g = r.parts.length - k ∧ i = .int .i64 k ∧ ok = .bool (fair b2 r.parts k))
    case atStart => exact ⟨rfl, 0, by omega, by omega, rfl, by rw [fair_zero]⟩
    case round =>
      obtain ⟨rfl, k, hk, hgk, rfl, rfl⟩ := hrel
      by_cases hlt2 : k < r.parts.length
      · obtain ⟨b, off, hAe, hcc⟩ := HI.out (by omega)
        subst hAe
        have hck := hcc k hlt2
        have hll := HL.out
        have i0 : (0 : Int) ≤ k := by omega
        have i1 : (k : Int) < r.parts.length := by omega
        have i2 : (k : Int) ≤ c := by have := HC.out; omega
        have hst := fair_step b2 r.parts k hlt2
        have hct := fun (t : Bool) (ht : decide (r.parts[k] ∈ r.parts.take k) = t) => contains_t (some ⟨b, off, none⟩) k (r.parts.take k) (r.parts[k]) wr (by have := HL.out; simp; omega) (HI.out.take k) (t := t) ht
        rw [List.length_take_of_le (by omega)] at hct
        have HCT := hid hct
        obtain ⟨p, hp⟩ : ∃ p, r.parts[k] = p := ⟨_, rfl⟩
        rw [hp] at hck hst HCT
        have HP := hid hp
        clear hcc hct hp
        rcases hf : fair b2 r.parts k with _ | _
        · rw [hf, Bool.false_and] at hst
          have HF := hid hst
          have HE := hid hf
          clear hst hf
          go_wp2_with fail
          go_roundg (r.parts.length - (k + 1))
          case measure => omega
          case rel => exact ⟨rfl, k + 1, by omega, rfl, by go_num, by rw [HF.out]⟩
        · rw [hf, Bool.true_and] at hst
          clear hf
          rcases h3 : parcelB p with _ | _
          · rw [h3, Bool.false_and] at hst
            have HF := hid hst
            have H3 := hid h3
            clear hst h3
            go_wp2_with fail
            refine (isParcel_t _ _ H3.out).mono ?_
            rintro e w' ⟨rfl, rfl⟩
            go_wp2_with fail
            go_roundg (r.parts.length - (k + 1))
            case measure => omega
            case rel => exact ⟨rfl, k + 1, by omega, rfl, by go_num, by rw [HF.out]⟩
          · rw [h3, Bool.true_and] at hst
            have H3 := hid h3
            clear h3
            rcases h4 : decide (p ∈ r.parts.take k) with _ | _
            all_goals
              rw [h4] at hst
              have HF := hid hst
              have H4 := hid h4
              clear hst h4
              go_wp2_with fail
              refine (isParcel_t _ _ H3.out).mono ?_
              rintro e w' ⟨rfl, rfl⟩
              go_wp2_with fail
              refine (HCT.out _ H4.out).mono ?_
              rintro e w' ⟨rfl, rfl⟩
              go_wp2_with fail
              go_roundg (r.parts.length - (k + 1))
              case measure => omega
              case rel => exact ⟨rfl, k + 1, by omega, rfl, by go_num, by rw [HF.out]; rfl⟩
      · obtain rfl : k = r.parts.length := by omega
        go_wp2_with (first | refine load_rep rfl _ rfl _ rfl HBB.out ?_ | refine store_rep rfl _ _ rfl _ rfl rfl HR.out hos ?_)
        refine bodyPost_ret (fields_ret _ _ W.heap.size (r := ⟨r.id, r.known, r.hour, r.kind, 0, 0, r.parts, 0, .empty, .empty, 0, 0, 0, 0, 0⟩) (A := A) (c := c) (b := fair b2 r.parts r.parts.length) ?_ ?_ (box_set HR.out)) rfl ?_
        · rfl
        · rfl
        · exact HCL.out _ (by rw [H1.out, H2.out]; rfl) _ (below_setRow HM.out.below (Nat.le_of_lt HM.out.lt) _) _ rfl
set_option maxHeartbeats 8000000 in
theorem fields_weighed (r : Rep) (A : Option Addr) (c : Nat) (w : World) (k : r.kind = 4) :
    Calls Tryz.prog 137 #[r.val A c] w (FieldsPost r w) := by
  obtain ⟨W, hW, hbx, hbW, hlt⟩ := boxC r A c w
  have HX := hid hbx
  have HBW := hid hbW
  have hx := hbx.at_
  obtain ⟨c0, c1, c2, c3, c4, c5, c6, c7, c8, c9, c10, c11, c12, c13, c14⟩ := hx
  clear hbx hbW c5 c6 c7 c8 c9 c12 c13 c14
  have d1 : (r.kind == 1) = false := beq_eq_false_iff_ne.2 (by omega)
  have d2 : (r.kind == 2) = false := beq_eq_false_iff_ne.2 (by omega)
  have d3 : (r.kind == 3) = false := beq_eq_false_iff_ne.2 (by omega)
  have d4 : (r.kind == 4) = true := beq_iff_eq.2 k
  have K1 := hid k
  clear k
  go_enter Tryz.func137, Tryz.ntmps137
  go_wp2_with fail
  refine (in_t _ _ _ _ rfl).mono ?_
  rintro e w' ⟨rfl, rfl⟩
  go_wp2_with fail
  go_region
  have hw : r.want = ⟨r.id, r.known, r.hour, r.kind, r.parcel, 0, [], 0, .empty, .empty, r.lo, r.hi, 0, 0, 0⟩ := by
    have := K1.out
    unfold Rep.want
    rw [if_neg (by omega), if_neg (by omega), if_neg (by omega), if_pos this]
  have ho : r.okB = (inB r.hour 0 r.known && parcelB r.parcel && spanB r.lo r.hi) := by
    have := K1.out
    unfold Rep.okB
    rw [if_neg (by omega), if_neg (by omega), if_neg (by omega), if_pos this, inB_eq]
  have hcl : ∀ (b : Bool), b = (inB r.hour 0 r.known && parcelB r.parcel && spanB r.lo r.hi) → ∀ w', Below w.heap.size w w' → ∀ e, e = Ending.returned (.tuple #[(⟨r.id, r.known, r.hour, r.kind, r.parcel, 0, [], 0, .empty, .empty, r.lo, r.hi, 0, 0, 0⟩ : Rep).val none 0, .bool b]) → FieldsPost r w e w' := by
    rintro b rfl w' hb e rfl
    refine ⟨hb, none, 0, ?_, ?_⟩
    · rw [hw, ho]
    · rw [hw]
      exact IntsAt.nil _ _
  have HCL := hid hcl
  clear hw ho hcl
  refine mid_gen' (R := ⟨r.id, r.known, r.hour, r.kind, r.parcel, 0, [], 0, .empty, .empty, r.lo, r.hi, 0, 0, 0⟩) (B := none) (d := 0) HX.out HBW.out hlt ?_ ?_ ?_
  · rfl
  · rfl
  intro W3 M
  have HM := hid M
  obtain ⟨c0, c1, c2, c3, c4, c5, c6, c7, c8, c9, c10, c11, c12, c13, c14⟩ := M.own.at_
  clear M hW
  rcases h1 : inB r.hour 0 r.known with _ | _
  · have H1 := hid h1
    clear h1
    obtain ⟨old, hos, hR⟩ := HM.out.row
    have HR := hid hR
    have HBB := hid HM.out.box
    clear hR
    go_wp2_with (first | refine load_rep rfl _ rfl _ rfl HBB.out ?_ | refine store_rep rfl _ _ rfl _ rfl rfl HR.out hos ?_)
    refine bodyPost_ret (fields_ret _ _ W.heap.size (r := ⟨r.id, r.known, r.hour, r.kind, r.parcel, 0, [], 0, .empty, .empty, r.lo, r.hi, 0, 0, 0⟩) (A := none) (c := 0) (b := false) ?_ ?_ (box_set HR.out)) rfl ?_
    · rfl
    · rfl
    · exact HCL.out _ (by rw [H1.out]; rfl) _ (below_setRow HM.out.below (Nat.le_of_lt HM.out.lt) _) _ rfl
  · have H1 := hid h1
    clear h1
    rcases h2 : parcelB r.parcel with _ | _
    · have H2 := hid h2
      clear h2
      go_wp2_with fail
      refine (isParcel_t _ _ H2.out).mono ?_
      rintro e w' ⟨rfl, rfl⟩
      obtain ⟨old, hos, hR⟩ := HM.out.row
      have HR := hid hR
      have HBB := hid HM.out.box
      clear hR
      go_wp2_with (first | refine load_rep rfl _ rfl _ rfl HBB.out ?_ | refine store_rep rfl _ _ rfl _ rfl rfl HR.out hos ?_)
      refine bodyPost_ret (fields_ret _ _ W.heap.size (r := ⟨r.id, r.known, r.hour, r.kind, r.parcel, 0, [], 0, .empty, .empty, r.lo, r.hi, 0, 0, 0⟩) (A := none) (c := 0) (b := false) ?_ ?_ (box_set HR.out)) rfl ?_
      · rfl
      · rfl
      · exact HCL.out _ (by rw [H1.out, H2.out]; rfl) _ (below_setRow HM.out.below (Nat.le_of_lt HM.out.lt) _) _ rfl
    · have H2 := hid h2
      clear h2
      obtain ⟨b3, h3⟩ : ∃ b3, spanB r.lo r.hi = b3 := ⟨_, rfl⟩
      have H3 := hid h3
      clear h3
      go_wp2_with fail
      refine (isParcel_t _ _ H2.out).mono ?_
      rintro e w' ⟨rfl, rfl⟩
      go_wp2_with fail
      refine (isSpan_t _ _ _ H3.out).mono ?_
      rintro e w2 ⟨rfl, hb⟩
      have HM2 := hid (HM.out.next hb)
      obtain ⟨c0, c1, c2, c3, c4, c5, c6, c7, c8, c9, c10, c11, c12, c13, c14⟩ := HM2.out.own.at_
      clear hb
      obtain ⟨old, hos, hR⟩ := HM2.out.row
      have HR := hid hR
      have HBB := hid HM2.out.box
      clear hR
      go_wp2_with (first | refine load_rep rfl _ rfl _ rfl HBB.out ?_ | refine store_rep rfl _ _ rfl _ rfl rfl HR.out hos ?_)
      refine bodyPost_ret (fields_ret _ _ W.heap.size (r := ⟨r.id, r.known, r.hour, r.kind, r.parcel, 0, [], 0, .empty, .empty, r.lo, r.hi, 0, 0, 0⟩) (A := none) (c := 0) (b := b3) ?_ ?_ (box_set HR.out)) rfl ?_
      · rfl
      · rfl
      · exact HCL.out _ (by rw [H1.out, H2.out, H3.out]; rfl) _ (below_setRow HM2.out.below (Nat.le_of_lt HM2.out.lt) _) _ rfl
end Go.Proofs.YtfaoillnakhejaaGreat
