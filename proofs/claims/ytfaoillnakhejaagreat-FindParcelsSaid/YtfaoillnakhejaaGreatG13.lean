/- slices.IndexFunc and ContainsFunc over numbers and over reports, for any function that captures one value; there; the closures of admits and releases; admits; In what counts each parcel has one maker and one user; so the store says what the plain words say; alias; Rows of strings; slices.IndexFunc and ContainsFunc over strings; common. -/
import Derived.Test.YtfaoillnakhejaaGreatG12
import Derived.Maps.AppendAt
namespace Go.Proofs.YtfaoillnakhejaaGreat
set_option maxRecDepth 100000
open Go.RowKit
/-- A call of this function value is entered. -/
def Enters (fid : FuncId) : Prop := ∀ (args : Array Value) (w : World), (callFunc fid args).run Tryz.prog w = .ok (.enter fid args) w
/-- What a function says of each number, and that it writes nothing older. -/
def Asks (w : World) (fid : FuncId) (cv : Value) (xs : List Int) (q : Int → Bool) : Prop :=
  ∀ x wr, x ∈ xs → Below w.heap.size w wr → Calls Tryz.prog fid #[.int .i64 x, cv] wr fun e w' => e = .returned (.bool (q x)) ∧ Below wr.heap.size wr w'
def AsksR (w : World) (fid : FuncId) (cv : Value) (L : List Ent) (q : Rep → Bool) : Prop :=
  ∀ e wr, e ∈ L → Below w.heap.size w wr → Calls Tryz.prog fid #[e.1.val e.2.1 e.2.2, cv] wr fun en w' => en = .returned (.bool (q e.1)) ∧ Below wr.heap.size wr w'
theorem any_take_snoc {α : Type} (q : α → Bool) (l : List α) (k : Nat) (h : k < l.length) : (l.take (k + 1)).any q = ((l.take k).any q || q l[k]) := by
  rw [List.take_succ_eq_append_getElem h, List.any_append, List.any_cons, List.any_nil, Bool.or_false]
set_option maxHeartbeats 4000000 in
theorem indexInts_any (fid : FuncId) (hcf : Enters fid) (cv : Value) (q : Int → Bool) (A : Option Addr) (cap : Nat) (xs : List Int) (w : World) (hm : xs.length ≤ 1000000) (hA : IntsAt w A xs) (hF : Asks w fid cv xs q) :
    Calls Tryz.prog 93 #[.slice A xs.length cap, .func (.func fid) #[] #[cv]] w fun e w' => (∃ i : Int, e = .returned (.int .i64 i) ∧ decide (0 ≤ i) = xs.any q) ∧ Below w.heap.size w w' := by
  have HA := hid hA
  have HF := hid hF
  clear hA hF
  unfold Enters at hcf
  go_enter Tryz.func93, Tryz.ntmps93
  go_wp2_with fail
  go_loopg [8] (xs.length) (fun g i wr => ∃ k : Nat, k ≤ xs.length ∧ g = xs.length - k ∧ i = .int .i64 k ∧ Hid ((xs.take k).any q = false) ∧ Hid (Below w.heap.size w wr))
  case atStart => exact ⟨0, by omega, by omega, rfl, hid (by simp), hid (Below.refl _ _)⟩
  case round =>
    obtain ⟨k, hk, hgk, rfl, hno, hbw⟩ := hrel
    by_cases hlt : k < xs.length
    · obtain ⟨b, off, hAe, hc⟩ := (HA.out.kept (Kept.of_below hbw.out)) (by omega)
      subst hAe
      have hck := hc k hlt
      have i0 : (0 : Int) ≤ k := by omega
      have i1 : (k : Int) < xs.length := by omega
      have hsn := any_take_snoc q xs k hlt
      have hmem := List.getElem_mem hlt
      obtain ⟨x, hx⟩ : ∃ x, xs[k] = x := ⟨_, rfl⟩
      rw [hx] at hck hsn hmem
      have HSN := hid hsn
      have HMEM := hid hmem
      clear hc hx hsn hmem
      rcases hb : q x with _ | _
      · have hcl := HF.out x wr HMEM.out hbw.out
        rw [hb] at hcl
        have HCL := hid hcl
        have HB := hid hb
        clear hb hcl
        go_wp2_with fail
        refine HCL.out.mono ?_
        rintro e w' ⟨rfl, hb'⟩
        have HB' := hid (hbw.out.trans (hb'.mono hbw.out.size))
        clear hb'
        go_wp2_with fail
        go_roundg (xs.length - (k + 1))
        case measure => omega
        case rel => exact ⟨k + 1, by omega, rfl, by go_num, hid (by rw [HSN.out, hno.out, HB.out]; rfl), HB'⟩
      · have hcl := HF.out x wr HMEM.out hbw.out
        rw [hb] at hcl
        have HCL := hid hcl
        have HB := hid hb
        clear hb hcl
        go_wp2_with fail
        refine HCL.out.mono ?_
        rintro e w' ⟨rfl, hb'⟩
        have HB' := hid (hbw.out.trans (hb'.mono hbw.out.size))
        clear hb'
        go_wp2_with fail
        go_ret
        refine ⟨⟨_, rfl, ?_⟩, HB'.out⟩
        rw [List.any_eq_true.2 ⟨x, HMEM.out, HB.out⟩]
        exact decide_eq_true (by omega)
    · obtain rfl : k = xs.length := by omega
      have hno2 := hno.out
      rw [List.take_length] at hno2
      have HN := hid hno2
      clear hno2 hno
      go_wp2_with fail
      go_ret
      exact ⟨⟨_, rfl, by rw [HN.out]; rfl⟩, hbw.out⟩
set_option maxHeartbeats 4000000 in
theorem containsInts_any (fid : FuncId) (hcf : Enters fid) (cv : Value) (q : Int → Bool) (A : Option Addr) (cap : Nat) (xs : List Int) (w : World) (hm : xs.length ≤ 1000000) (hA : IntsAt w A xs) (hF : Asks w fid cv xs q) {t : Bool} (ht : xs.any q = t) :
    Calls Tryz.prog 142 #[.slice A xs.length cap, .func (.func fid) #[] #[cv]] w fun e w' => e = .returned (.bool t) ∧ Below w.heap.size w w' := by
  have HA := hid hA
  have HF := hid hF
  have HT := hid ht
  have HC := hid hcf
  clear hA hF ht hcf
  go_enter Tryz.func142, Tryz.ntmps142
  go_wp2_with fail
  refine (indexInts_any fid HC.out cv q A cap xs w hm HA.out HF.out).mono ?_
  rintro e w' ⟨⟨i, rfl, hi⟩, hb⟩
  have HI := hid hi
  have HB := hid hb
  clear hi hb
  go_wp2_with fail
  go_ret
  exact ⟨ret_bool (HI.out.trans HT.out), HB.out⟩
/-- The first report of which a function says yes. -/
def FirstAt (L : List Ent) (q : Rep → Bool) (i : Int) : Prop := (i = -1 ∧ ∀ e ∈ L, q e.1 = false) ∨ ∃ k : Nat, ∃ h : k < L.length, i = k ∧ q L[k].1 = true ∧ ∀ e ∈ L.take k, q e.1 = false
set_option maxHeartbeats 4000000 in
theorem indexReps_any (fid : FuncId) (hcf : Enters fid) (cv : Value) (q : Rep → Bool) (A : Option Addr) (cap : Nat) (L : List Ent) (w : World) (hm : L.length ≤ 1000000) (hA : RowsAt w A L) (hF : AsksR w fid cv L q) :
    Calls Tryz.prog 139 #[.slice A L.length cap, .func (.func fid) #[] #[cv]] w fun e w' => (∃ i : Int, e = .returned (.int .i64 i) ∧ FirstAt L q i) ∧ Below w.heap.size w w' := by
  have HA := hid hA
  have HF := hid hF
  clear hA hF
  unfold Enters at hcf
  go_enter Tryz.func139, Tryz.ntmps139
  go_wp2_with fail
  go_loopg [8] (L.length) (fun g i wr => ∃ k : Nat, k ≤ L.length ∧ g = L.length - k ∧ i = .int .i64 k ∧ Hid (∀ e ∈ L.take k, q e.1 = false) ∧ Hid (Below w.heap.size w wr))
  case atStart => exact ⟨0, by omega, by omega, rfl, hid (by simp), hid (Below.refl _ _)⟩
  case round =>
    obtain ⟨k, hk, hgk, rfl, hno, hbw⟩ := hrel
    by_cases hlt : k < L.length
    · obtain ⟨b, off, hAe, hc⟩ := (HA.out.kept (Kept.of_below hbw.out)) (by omega)
      subst hAe
      have hrange := hc k hlt
      have i0 : (0 : Int) ≤ k := by omega
      have i1 : (k : Int) < L.length := by omega
      have hmem := List.getElem_mem hlt
      have hsn : L.take (k + 1) = L.take k ++ [L[k]] := List.take_succ_eq_append_getElem hlt
      obtain ⟨⟨r, P, c⟩, hx⟩ : ∃ x, L[k] = x := ⟨_, rfl⟩
      have HX := hid hx
      rw [hx] at hrange hmem hsn
      have HR := hid hrange
      have HMEM := hid hmem
      have HSN := hid hsn
      clear hc hx hrange hmem hsn
      rcases hb : q r with _ | _
      · have hcl := HF.out (r, P, c) wr HMEM.out hbw.out
        dsimp only at hcl
        rw [hb] at hcl
        have HCL := hid hcl
        have HB := hid hb
        clear hb hcl
        go_wp2_with (refine load_rep_mid rfl _ rfl _ _ rfl HR.out ?_)
        refine HCL.out.mono ?_
        rintro e w' ⟨rfl, hb'⟩
        have HB' := hid (hbw.out.trans (hb'.mono hbw.out.size))
        clear hb'
        go_wp2_with fail
        go_roundg (L.length - (k + 1))
        case measure => omega
        case rel => exact ⟨k + 1, by omega, rfl, by go_num, hid (by
          rw [HSN.out]
          intro e he
          rcases List.mem_append.1 he with h | h
          · exact hno.out e h
          · rw [List.mem_singleton] at h
            subst h
            exact HB.out), HB'⟩
      · have hcl := HF.out (r, P, c) wr HMEM.out hbw.out
        dsimp only at hcl
        rw [hb] at hcl
        have HCL := hid hcl
        have HB := hid hb
        clear hb hcl
        go_wp2_with (refine load_rep_mid rfl _ rfl _ _ rfl HR.out ?_)
        refine HCL.out.mono ?_
        rintro e w' ⟨rfl, hb'⟩
        have HB' := hid (hbw.out.trans (hb'.mono hbw.out.size))
        clear hb'
        go_wp2_with fail
        go_ret
        exact ⟨⟨_, rfl, .inr ⟨k, hlt, rfl, by rw [HX.out]; exact HB.out, hno.out⟩⟩, HB'.out⟩
    · obtain rfl : k = L.length := by omega
      have hno2 := hno.out
      rw [List.take_length] at hno2
      have HN := hid hno2
      clear hno2 hno
      go_wp2_with fail
      go_ret
      exact ⟨⟨_, rfl, .inl ⟨rfl, HN.out⟩⟩, hbw.out⟩
theorem FirstAt.any {L : List Ent} {q : Rep → Bool} {i : Int} (h : FirstAt L q i) : decide (0 ≤ i) = (reps L).any q := by
  rcases h with ⟨rfl, h⟩ | ⟨k, hk, rfl, h, _⟩
  · symm
    rw [show decide ((0 : Int) ≤ -1) = false from rfl, List.any_eq_false]
    intro r hr
    obtain ⟨e, he, rfl⟩ := List.mem_map.1 hr
    simp [h e he]
  · rw [decide_eq_true (by omega)]
    symm
    exact List.any_eq_true.2 ⟨_, List.mem_map_of_mem (f := Prod.fst) (List.getElem_mem hk), h⟩
set_option maxHeartbeats 4000000 in
theorem containsReps_any (fid : FuncId) (hcf : Enters fid) (cv : Value) (q : Rep → Bool) (A : Option Addr) (cap : Nat) (L : List Ent) (w : World) (hm : L.length ≤ 1000000) (hA : RowsAt w A L) (hF : AsksR w fid cv L q) {t : Bool} (ht : (reps L).any q = t) :
    Calls Tryz.prog 99 #[.slice A L.length cap, .func (.func fid) #[] #[cv]] w fun e w' => e = .returned (.bool t) ∧ Below w.heap.size w w' := by
  have HA := hid hA
  have HF := hid hF
  have HT := hid ht
  have HC := hid hcf
  clear hA hF ht hcf
  go_enter Tryz.func99, Tryz.ntmps99
  go_wp2_with fail
  refine (indexReps_any fid HC.out cv q A cap L w hm HA.out HF.out).mono ?_
  rintro e w' ⟨⟨i, rfl, hi⟩, hb⟩
  have HI := hid hi.any
  have HB := hid hb
  clear hi hb
  go_wp2_with fail
  go_ret
  exact ⟨ret_bool (HI.out.trans HT.out), HB.out⟩
/-- The report whose fields are all nought. -/
def zr : Rep := ⟨0, 0, 0, 0, 0, 0, [], 0, .empty, .empty, 0, 0, 0, 0, 0⟩
theorem rep_zero (w : World) : (zeroValue 46).run Tryz.prog w = .ok (zr.val none 0) w := by kernel_rfl
def entOr (o : Option Ent) : Ent := o.getD (zr, none, 0)
theorem orZ_ent (o : Option Ent) : orZ (zr.val none 0) evR o = (entOr o).1.val (entOr o).2.1 (entOr o).2.2 := by
  cases o <;> rfl
theorem MapOf.lookR {w : World} {r : Nat} {f : Int → Option Ent} (h : MapOf w r evR f) (p : Int) :
    (Instr.lookup 82 (.map (some r)) (.int .i64 p) false).run Tryz.prog w = .ok ((entOr (f p)).1.val (entOr (f p)).2.1 (entOr (f p)).2.2) w := by
  rw [← orZ_ent]
  exact h.look mapR_u (zr.val none 0) (rep_zero w) p
theorem MapOf.lookR2 {w : World} {r : Nat} {f : Int → Option Ent} (h : MapOf w r evR f) (p : Int) :
    (Instr.lookup 82 (.map (some r)) (.int .i64 p) true).run Tryz.prog w = .ok (.tuple #[(entOr (f p)).1.val (entOr (f p)).2.1 (entOr (f p)).2.2, .bool (f p).isSome]) w := by
  rw [← orZ_ent]
  exact h.look2 mapR_u (zr.val none 0) (rep_zero w) p
theorem enters119 : Enters 145 := fun args w => by kernel_rfl
set_option maxHeartbeats 4000000 in
theorem there_any {w : World} {s r1 r2 r3 : Nat} {A : Option Addr} {n cap : Nat} {fm fu : Int → Option Ent} {fh : Int → Option Bool} (h : StoreIs w s r1 r2 r3 A n cap fm fu fh) (p : Int) :
    Calls Tryz.prog 133 #[.pointer (some ⟨s, 0, none⟩), .int .i64 p] w fun e w' => e = .returned (.bool ((fm p).isSome && (fu p).isNone)) ∧ Below w.heap.size w w' := by
  have H := hid h
  obtain ⟨s0, s1, s2, s3⟩ := h.cell
  have hlk := h.maker.lookR2 p
  obtain ⟨⟨r, P, c⟩, hr⟩ : ∃ x, entOr (fm p) = x := ⟨_, rfl⟩
  rw [hr] at hlk
  obtain ⟨b1, hb1⟩ : ∃ b, (fm p).isSome = b := ⟨_, rfl⟩
  rw [hb1] at hlk ⊢
  have hlk2 := fun W (hb : Below w.heap.size w W) => (h.below hb).user.lookR2 p
  obtain ⟨⟨r', P', c'⟩, hr'⟩ : ∃ x, entOr (fu p) = x := ⟨_, rfl⟩
  obtain ⟨b2, hb2⟩ : ∃ b, (fu p).isSome = b := ⟨_, rfl⟩
  have hn : (fu p).isNone = !b2 := by rw [← hb2]; cases fu p <;> rfl
  simp only [hr', hb2] at hlk2
  rw [hn]
  have HL2 := hid hlk2
  clear h hr hr' hb1 hb2 hlk2 hn
  cases b1
  all_goals
    go_enter Tryz.func133, Tryz.ntmps133
    go_upto_region 2 with (refine store_rep_new rfl _ _ rfl rfl rfl rfl rfl ?_; intro W2 hbx2 hb2 hlt2)
    obtain ⟨s0, s1, s2, s3⟩ := (H.out.below hb2).cell
    have hlk2 := HL2.out W2 hb2
    have HB2 := hid hb2
    clear hlk hbx2 hb2
    go_upto_region 3 with (refine store_rep_new rfl _ _ rfl rfl rfl rfl rfl ?_; intro W3 hbx3 hb3 hlt3)
    have HB3 := hid (HB2.out.trans (hb3.mono HB2.out.size))
    clear hlk2 hbx3 hb3
    go_wp2_with fail
    go_ret
    exact ⟨ret_bool (by simp), HB3.out⟩
set_option maxHeartbeats 4000000 in
/-- The closure of admits: a report whose box it captures names a number. -/
theorem admits1_asks {w : World} {g : Nat} {r : Rep} {P : Option Addr} {c : Nat} (hx : BoxIs w g r P c) (hp : PartsAt w (r, P, c)) (hr : r.Wf) (xs : List Int) :
    Asks w 145 (.pointer (some ⟨g, 0, none⟩)) xs (fun p => decide (r.names p)) := by
  intro p wr _ hb
  have HX := hid (hx.below hb)
  have HP := hid (hp.kept (Kept.of_below hb))
  have HR := hid hr
  clear hx hp hr hb
  go_enter Tryz.func145, Tryz.ntmps145
  go_wp2_with (refine load_rep rfl _ rfl _ rfl HX.out ?_)
  refine (names_any r P c p wr HR.out HP.out.len HP.out.ints).mono ?_
  rintro e w' ⟨rfl, hb⟩
  have HB := hid hb
  clear hb
  go_wp2_with fail
  go_ret
  exact ⟨rfl, HB.out⟩
set_option maxHeartbeats 4000000 in
/-- The last closure of releases: a report whose box it captures names a number. -/
theorem releases2_asks {w : World} {g : Nat} {r : Rep} {P : Option Addr} {c : Nat} (hx : BoxIs w g r P c) (hp : PartsAt w (r, P, c)) (hr : r.Wf) (xs : List Int) :
    Asks w 143 (.pointer (some ⟨g, 0, none⟩)) xs (fun p => decide (r.names p)) := by
  intro p wr _ hb
  have HX := hid (hx.below hb)
  have HP := hid (hp.kept (Kept.of_below hb))
  have HR := hid hr
  clear hx hp hr hb
  go_enter Tryz.func143, Tryz.ntmps143
  go_wp2_with (refine load_rep rfl _ rfl _ rfl HX.out ?_)
  refine (names_any r P c p wr HR.out HP.out.len HP.out.ints).mono ?_
  rintro e w' ⟨rfl, hb⟩
  have HB := hid hb
  clear hb
  go_wp2_with fail
  go_ret
  exact ⟨rfl, HB.out⟩
theorem enters117 : Enters 143 := fun args w => by kernel_rfl
theorem enters114 : Enters 140 := fun args w => by kernel_rfl
theorem enters90 : Enters 100 := fun args w => by kernel_rfl
set_option maxHeartbeats 4000000 in
/-- The first closure of releases: a report has the Id that it captures. -/
theorem releases1_asks {w : World} {g : Nat} {n : Int} (hx : w.cell? ⟨g, 0, none⟩ = some (.int .i64 n)) (L : List Ent) :
    AsksR w 140 (.pointer (some ⟨g, 0, none⟩)) L (fun r => decide (r.id = n)) := by
  rintro ⟨r, P, c⟩ wr _ hb
  obtain ⟨W, hW, hbx, hbW, hlt⟩ := boxC r P c wr
  have hn := Kept.of_below hbW _ _ (Kept.of_below hb _ _ hx)
  have HB := hid hbW
  obtain ⟨c0, c1, c2, c3, c4, c5, c6, c7, c8, c9, c10, c11, c12, c13, c14⟩ := hbx.at_
  clear hbx hbW hx hb c1 c2 c3 c4 c5 c6 c7 c8 c9 c10 c11 c12 c13 c14
  go_enter Tryz.func140, Tryz.ntmps140
  go_wp2_with fail
  go_ret
  exact ⟨ret_bool (by rw [Bool.eq_iff_iff]; simp), HB.out⟩
set_option maxHeartbeats 4000000 in
/-- The closure of follows: a report has the Id of the one whose box it captures. -/
theorem follows1_asks {w : World} {g : Nat} {x : Rep} {A : Option Addr} {d : Nat} (hx : BoxIs w g x A d) (L : List Ent) :
    AsksR w 100 (.pointer (some ⟨g, 0, none⟩)) L (fun r => decide (r.id = x.id)) := by
  rintro ⟨r, P, c⟩ wr _ hb
  obtain ⟨W, hW, hbx, hbW, hlt⟩ := boxC r P c wr
  have hn := ((hx.below hb).below hbW).at_.1
  have HB := hid hbW
  obtain ⟨c0, c1, c2, c3, c4, c5, c6, c7, c8, c9, c10, c11, c12, c13, c14⟩ := hbx.at_
  clear hbx hbW hx hb c1 c2 c3 c4 c5 c6 c7 c8 c9 c10 c11 c12 c13 c14
  go_enter Tryz.func100, Tryz.ntmps100
  go_wp2_with fail
  go_ret
  exact ⟨ret_bool (by rw [Bool.eq_iff_iff]; simp), HB.out⟩
def bad1 (fm fu : Int → Option Ent) (x : Rep) (p : Int) : Bool := !((fm p).isSome && (fu p).isNone) || ((x.kind == 7) && ((entOr (fm p)).1.kind != 1))
def bad2 (fh : Int → Option Bool) (x : Rep) (p : Int) : Bool := (fh p).getD false != (x.kind == 6)
def late (x y : Rep) : Bool := decide (x.hour < y.hour) && x.touches.any (fun p => decide (y.names p))
/-- Why a report is not admissible behind a store. -/
def admitsG (fm fu : Int → Option Ent) (fh : Int → Option Bool) (l : List Rep) (x : Rep) : Int :=
  if x.touches.any (bad1 fm fu x) then 30 else if x.touches.any (bad2 fh x) then 31 else if l.any (late x) then 7
  else if ((x.kind == 7) && !decide ((entOr (fm x.parcel)).1.goods = (entOr (fm x.other)).1.goods)) then 8 else 0
theorem field_id (r : Rep) (P : Option Addr) (c : Nat) (w : World) : (Instr.field 46 (r.val P c) 0).run Tryz.prog w = .ok (.int .i64 r.id) w := by kernel_rfl
theorem field_kind (r : Rep) (P : Option Addr) (c : Nat) (w : World) : (Instr.field 46 (r.val P c) 3).run Tryz.prog w = .ok (.int .u8 r.kind) w := by kernel_rfl
theorem field_goods (r : Rep) (P : Option Addr) (c : Nat) (w : World) : (Instr.field 46 (r.val P c) 9).run Tryz.prog w = .ok (.string r.goods) w := by kernel_rfl
theorem orZ_bool (o : Option Bool) : orZ (.bool false) Value.bool o = .bool (o.getD false) := by cases o <;> rfl
theorem touches_len (x : Rep) (h : x.parts.length ≤ 100) : x.touches.length ≤ 102 := by
  have := List.length_filter_le (fun p => decide (0 < p)) ([x.parcel, x.other] ++ x.parts)
  simp at this
  unfold Rep.touches
  simp
  omega
set_option maxHeartbeats 16000000 in
theorem admits_any {w : World} {s r1 r2 r3 : Nat} {A : Option Addr} {cap : Nat} {L : List Ent} {fm fu : Int → Option Ent} {fh : Int → Option Bool} (h : StoreIs w s r1 r2 r3 A L.length cap fm fu fh) (hA : EntsAt w A L) (hwf : ∀ e ∈ L, e.1.Wf) (hl : L.length ≤ 210)
    (x : Rep) (P : Option Addr) (c : Nat) (hP : PartsAt w (x, P, c)) :
    Calls Tryz.prog 102 #[.pointer (some ⟨s, 0, none⟩), x.val P c] w fun e w' => e = .returned (.int .i64 (admitsG fm fu fh (reps L) x)) ∧ Below w.heap.size w w' := by
  obtain ⟨W, hW, hbx, hbW, hlt⟩ := boxC x P c w
  have HX := hid hbx
  have HBW := hid hbW
  have HS := hid (h.below hbW)
  have HE := hid (hA.below hbW)
  have HP := hid (hP.kept (Kept.of_below hbW))
  have HWF := hid hwf
  obtain ⟨R, hR⟩ : ∃ R, admitsG fm fu fh (reps L) x = R := ⟨_, rfl⟩
  have v30 : x.touches.any (bad1 fm fu x) = true → R = 30 := fun h => by rw [← hR]; unfold admitsG; rw [if_pos h]
  have v31 : x.touches.any (bad1 fm fu x) = false → x.touches.any (bad2 fh x) = true → R = 31 := fun h1 h2 => by rw [← hR]; unfold admitsG; rw [if_neg (by simp [h1]), if_pos h2]
  have v7 : x.touches.any (bad1 fm fu x) = false → x.touches.any (bad2 fh x) = false → (reps L).any (late x) = true → R = 7 := fun h1 h2 h3 => by rw [← hR]; unfold admitsG; rw [if_neg (by simp [h1]), if_neg (by simp [h2]), if_pos h3]
  have v0 : x.touches.any (bad1 fm fu x) = false → x.touches.any (bad2 fh x) = false → (reps L).any (late x) = false → ∀ b, ((x.kind == 7) && !decide ((entOr (fm x.parcel)).1.goods = (entOr (fm x.other)).1.goods)) = b → R = if b then 8 else 0 := fun h1 h2 h3 b hb => by rw [← hR]; unfold admitsG; rw [if_neg (by simp [h1]), if_neg (by simp [h2]), if_neg (by simp [h3]), hb]
  have V30 := hid v30
  have V31 := hid v31
  have V7 := hid v7
  have V0 := hid v0
  rw [hR]
  have htl := touches_len x hP.len
  have hto := touches_own x P c W hP.len HP.out.ints
  obtain ⟨ts, hts⟩ : ∃ ts, x.touches = ts := ⟨_, rfl⟩
  rw [hts] at htl hto V30 V31 V7 V0
  have HTO := hid hto
  have HTS := hid hts
  clear h hA hP hbx hbW hwf hR v30 v31 v7 v0 hto hts
  go_enter Tryz.func102, Tryz.ntmps102
  go_wp2_with (refine load_rep rfl _ rfl _ rfl HX.out ?_)
  refine HTO.out.mono ?_
  rintro e w1 ⟨v, rfl, ho, hb⟩
  obtain ⟨A1, k1, rfl, hx9⟩ := ownsRow.form ho
  have HI1 := hid (ownsRow_ints ho)
  have HB1 := hid (HBW.out.trans (hb.mono HBW.out.size))
  have HX1 := hid (HX.out.below hb)
  have HS1 := hid (HS.out.below hb)
  have HE1 := hid (HE.out.below hb)
  have hw1 : w.heap.size < w1.heap.size := by have := hb.size; omega
  clear ho hb hx9 HX HS HE HP HTO HBW hW hlt
  go_wp2_with fail
  go_loopg [16] (ts.length) (fun g i wr => ∃ k : Nat, k ≤ ts.length ∧ g = ts.length - k ∧ i = .int .i64 k ∧ Hid ((ts.take k).any (bad1 fm fu x) = false) ∧ Hid (Below w1.heap.size w1 wr))
  case atStart => exact ⟨0, by omega, by omega, rfl, hid (by simp), hid (Below.refl _ _)⟩
  case round =>
    obtain ⟨k, hk, hgk, rfl, hno, hbw⟩ := hrel
    by_cases hkl : k < ts.length
    · obtain ⟨b, off, hAe, hc⟩ := (HI1.out.kept (Kept.of_below hbw.out)) (by omega)
      subst hAe
      have hck := hc k hkl
      have i0 : (0 : Int) ≤ k := by omega
      have i1 : (k : Int) < ts.length := by omega
      have hsn := any_take_snoc (bad1 fm fu x) ts k hkl
      have hmem := List.getElem_mem hkl
      have hyes : bad1 fm fu x ts[k] = true → R = 30 := fun h => V30.out (List.any_eq_true.2 ⟨_, hmem, h⟩)
      obtain ⟨p, hp⟩ : ∃ p, ts[k] = p := ⟨_, rfl⟩
      rw [hp] at hck hsn hyes
      have hbd : bad1 fm fu x p = (!((fm p).isSome && (fu p).isNone) || ((x.kind == 7) && ((entOr (fm p)).1.kind != 1))) := rfl
      have hth := there_any (HS1.out.below hbw.out) p
      obtain ⟨⟨r', P', c'⟩, hr'⟩ : ∃ y, entOr (fm p) = y := ⟨_, rfl⟩
      have hlk := fun W (hb : Below w1.heap.size w1 W) => (HS1.out.below hb).maker.lookR p
      simp only [hr'] at hlk
      have hfk := field_kind r' P' c'
      rw [hr'] at hbd
      dsimp only at hbd
      obtain ⟨bt, hbt⟩ : ∃ bt, ((fm p).isSome && (fu p).isNone) = bt := ⟨_, rfl⟩
      rw [hbt] at hbd hth
      have HTH := hid hth
      have HSN := hid hsn
      have HYES := hid hyes
      have HLK := hid hlk
      have HBD := hid hbd
      clear hc hp hsn hmem hyes hth hr' hlk hbd hbt
      rcases bt with _ | _
      · go_wp2_with fail
        refine HTH.out.mono ?_
        rintro e w2 ⟨rfl, hb2⟩
        have HB2 := hid (HB1.out.trans ((hbw.out.trans (hb2.mono hbw.out.size)).mono HB1.out.size))
        clear hb2
        go_wp2_with fail
        go_ret
        exact ⟨ret_int (HYES.out (by rw [HBD.out]; rfl)).symm, HB2.out⟩
      rcases h7 : (x.kind == 7) with _ | _
      · have H7 := hid h7
        go_wp2_with fail
        refine HTH.out.mono ?_
        rintro e w2 ⟨rfl, hb2⟩
        have HB2 := hid (hbw.out.trans (hb2.mono hbw.out.size))
        obtain ⟨c0, c1, c2, c3, _⟩ := (HX1.out.below HB2.out).at_
        clear hb2 c0 c1 c2
        go_wp2_with fail
        go_roundg (ts.length - (k + 1))
        case measure => omega
        case rel => exact ⟨k + 1, by omega, rfl, by go_num, hid (by rw [HSN.out, hno.out, HBD.out, H7.out]; rfl), HB2⟩
      · have H7 := hid h7
        rcases h1 : (r'.kind != 1) with _ | _
        · have H1 := hid h1
          go_wp2_with fail
          refine HTH.out.mono ?_
          rintro e w2 ⟨rfl, hb2⟩
          have HB2 := hid (hbw.out.trans (hb2.mono hbw.out.size))
          obtain ⟨c0, c1, c2, c3, _⟩ := (HX1.out.below HB2.out).at_
          obtain ⟨s0, s1, s2, s3⟩ := (HS1.out.below HB2.out).cell
          have hlk := HLK.out w2 HB2.out
          clear hb2 c0 c1 c2 s0 s2 s3
          go_wp2_with fail
          go_roundg (ts.length - (k + 1))
          case measure => omega
          case rel => exact ⟨k + 1, by omega, rfl, by go_num, hid (by rw [HSN.out, hno.out, HBD.out, H7.out, H1.out]; rfl), HB2⟩
        · have H1 := hid h1
          go_wp2_with fail
          refine HTH.out.mono ?_
          rintro e w2 ⟨rfl, hb2⟩
          have HB2 := hid (hbw.out.trans (hb2.mono hbw.out.size))
          have HB3 := hid (HB1.out.trans (HB2.out.mono HB1.out.size))
          obtain ⟨c0, c1, c2, c3, _⟩ := (HX1.out.below HB2.out).at_
          obtain ⟨s0, s1, s2, s3⟩ := (HS1.out.below HB2.out).cell
          have hlk := HLK.out w2 HB2.out
          clear hb2 c0 c1 c2 s0 s2 s3
          go_wp2_with fail
          go_ret
          exact ⟨ret_int (HYES.out (by rw [HBD.out, H7.out, H1.out]; rfl)).symm, HB3.out⟩
    · obtain rfl : k = ts.length := by omega
      have hn1 := hno.out
      rw [List.take_length] at hn1
      have N1 := hid hn1
      obtain ⟨w2, hw2⟩ : ∃ y, y = wr := ⟨_, rfl⟩
      subst hw2
      have HBq := hbw
      clear hn1 hno hbw hk hgk hkl V30
      go_wp2_with fail
      go_loopg [42] (ts.length) (fun g i wr => ∃ k : Nat, k ≤ ts.length ∧ g = ts.length - k ∧ i = .int .i64 k ∧ Hid ((ts.take k).any (bad2 fh x) = false) ∧ Hid (Below w1.heap.size w1 wr))
      case atStart => exact ⟨0, by omega, by omega, rfl, hid (by simp), HBq⟩
      case round =>
        obtain ⟨k, hk, hgk, rfl, hno, hbw⟩ := hrel
        by_cases hkl : k < ts.length
        · obtain ⟨b, off, hAe, hc⟩ := (HI1.out.kept (Kept.of_below hbw.out)) (by omega)
          subst hAe
          have hck := hc k hkl
          have i0 : (0 : Int) ≤ k := by omega
          have i1 : (k : Int) < ts.length := by omega
          have hsn := any_take_snoc (bad2 fh x) ts k hkl
          have hmem := List.getElem_mem hkl
          have hyes : bad2 fh x ts[k] = true → R = 31 := fun h => V31.out N1.out (List.any_eq_true.2 ⟨_, hmem, h⟩)
          obtain ⟨p, hp⟩ : ∃ p, ts[k] = p := ⟨_, rfl⟩
          rw [hp] at hck hsn hyes
          have hbd : bad2 fh x p = ((fh p).getD false != (x.kind == 6)) := rfl
          have hlk := fun n => ((HS1.out.below hbw.out).hidden.same (w' := wr.drewN n) rfl).look mapB_u (.bool false) (bool_zeroV _) p
          simp only [orZ_bool] at hlk
          obtain ⟨bt, hbt⟩ : ∃ bt, (fh p).getD false = bt := ⟨_, rfl⟩
          rw [hbt] at hbd
          simp only [hbt] at hlk
          have HSN := hid hsn
          have HYES := hid hyes
          have HBD := hid hbd
          obtain ⟨c0, c1, c2, c3, _⟩ := (HX1.out.below hbw.out).at_
          obtain ⟨s0, s1, s2, s3⟩ := (HS1.out.below hbw.out).cell
          clear hc hp hsn hmem hyes hbd hbt c0 c1 c2 s0 s1 s2
          have HB2 := hid (HB1.out.trans (hbw.out.mono HB1.out.size))
          rcases h6 : (x.kind == 6) with _ | _
          all_goals
            have H6 := hid h6
            rcases bt with _ | _
            all_goals
              go_wp2_with fail
              go_quiet (fail)
              go_wp2_with fail
              first
                | (go_ret
                   exact ⟨ret_int (HYES.out (by rw [HBD.out, H6.out]; rfl)).symm, Below.drewN' HB2.out _⟩)
                | (go_roundg (ts.length - (k + 1))
                   case measure => omega
                   case rel => exact ⟨k + 1, by omega, rfl, by go_num, hid (by rw [HSN.out, hno.out, HBD.out, H6.out]; rfl), hid (Below.drewN' hbw.out _)⟩)
        · obtain rfl : k = ts.length := by omega
          have hn1 := hno.out
          rw [List.take_length] at hn1
          have N2 := hid hn1
          obtain ⟨w3, hw3⟩ : ∃ y, y = wr := ⟨_, rfl⟩
          subst hw3
          have HBr := hbw
          obtain ⟨s0, s1, s2, s3⟩ := (HS1.out.below HBr.out).cell
          clear hn1 hno hbw hk hgk hkl V31 HBq s1 s2 s3
          go_wp2_with fail
          clear s0
          go_loopg [62] (L.length) (fun g i wr => ∃ k : Nat, k ≤ L.length ∧ g = L.length - k ∧ i = .int .i64 k ∧ Hid (((reps L).take k).any (late x) = false) ∧ Hid (Below w1.heap.size w1 wr))
          case atStart => exact ⟨0, by omega, by omega, rfl, hid (by simp), HBr⟩
          case round =>
            obtain ⟨k, hk, hgk, rfl, hno, hbw⟩ := hrel
            by_cases hkl : k < L.length
            · obtain ⟨b, off, hAe, hc⟩ := (HE1.out.below hbw.out).rows (by omega)
              subst hAe
              have hrange := hc k hkl
              have i0 : (0 : Int) ≤ k := by omega
              have i1 : (k : Int) < L.length := by omega
              have hkr : k < (reps L).length := by simpa using hkl
              have hsn := any_take_snoc (late x) (reps L) k hkr
              have hmem := List.getElem_mem hkr
              have hyes : late x (reps L)[k] = true → R = 7 := fun h => V7.out N1.out N2.out (List.any_eq_true.2 ⟨_, hmem, h⟩)
              have hwf := HWF.out L[k] (List.getElem_mem hkl)
              have hpt := (HE1.out.below hbw.out).parts L[k] (List.getElem_mem hkl)
              have hrx : (reps L)[k] = L[k].1 := by simp
              rw [hrx] at hsn hyes
              obtain ⟨⟨y, P', c'⟩, hy⟩ : ∃ y, L[k] = y := ⟨_, rfl⟩
              rw [hy] at hrange hsn hyes hwf hpt
              dsimp only at hsn hyes hwf hrange
              have hbd : late x y = (decide (x.hour < y.hour) && ts.any (fun p => decide (y.names p))) := by unfold late; rw [HTS.out]
              have HR := hid hrange
              have HSN := hid hsn
              have HYES := hid hyes
              have HBD := hid hbd
              have HW := hid hwf
              have HPT := hid hpt
              clear hc hrange hkr hsn hmem hyes hwf hpt hrx hy hbd
              by_cases hh : x.hour < y.hour
              · obtain ⟨bn, hbn⟩ : ∃ bn, ts.any (fun p => decide (y.names p)) = bn := ⟨_, rfl⟩
                have HBN := hid hbn
                have hd : decide (x.hour < y.hour) = true := decide_eq_true hh
                rw [hbn, hd, Bool.true_and] at HBD
                clear hbn hd
                go_wp2_with (first | refine load_rep_mid rfl _ rfl _ _ rfl HR.out ?_ | (refine store_rep_new rfl _ _ rfl rfl rfl rfl rfl ?_; intro W2 hbx2 hb2 hlt2; obtain ⟨c0, c1, c2, _⟩ := hbx2.at_; obtain ⟨d0, d1, d2, _⟩ := ((HX1.out.below hbw.out).below hb2).at_; have HB2 := hid (hbw.out.trans (hb2.mono hbw.out.size)); have HBX2 := hid hbx2; have HPT2 := hid (HPT.out.kept (Kept.of_below hb2)); clear hbx2 hb2 c0 c1 d0 d1))
                refine (containsInts_any _ enters119 _ _ A1 k1 ts W2 (by omega) (HI1.out.kept (Kept.of_below HB2.out)) (admits1_asks HBX2.out HPT2.out HW.out ts) HBN.out).mono ?_
                rintro e w4 ⟨rfl, hb4⟩
                have HB4 := hid (HB2.out.trans (hb4.mono HB2.out.size))
                have HB5 := hid (HB1.out.trans (HB4.out.mono HB1.out.size))
                clear hb4
                cases bn
                · go_wp2_with fail
                  go_roundg (L.length - (k + 1))
                  case measure => omega
                  case rel => exact ⟨k + 1, by omega, rfl, by go_num, hid (by rw [HSN.out, hno.out, HBD.out]; rfl), HB4⟩
                · go_wp2_with fail
                  go_ret
                  exact ⟨ret_int (HYES.out HBD.out).symm, HB5.out⟩
              · have hd : decide (x.hour < y.hour) = false := decide_eq_false hh
                rw [hd, Bool.false_and] at HBD
                clear hd
                go_wp2_with (first | refine load_rep_mid rfl _ rfl _ _ rfl HR.out ?_ | (refine store_rep_new rfl _ _ rfl rfl rfl rfl rfl ?_; intro W2 hbx2 hb2 hlt2; obtain ⟨c0, c1, c2, _⟩ := hbx2.at_; obtain ⟨d0, d1, d2, _⟩ := ((HX1.out.below hbw.out).below hb2).at_; have HB2 := hid (hbw.out.trans (hb2.mono hbw.out.size)); clear hbx2 hb2 c0 c1 d0 d1))
                go_roundg (L.length - (k + 1))
                case measure => omega
                case rel => exact ⟨k + 1, by omega, rfl, by go_num, hid (by rw [HSN.out, hno.out, HBD.out]; rfl), HB2⟩
            · obtain rfl : k = L.length := by omega
              have hn1 := hno.out
              rw [List.take_of_length_le (by simp)] at hn1
              have V := hid (V0.out N1.out N2.out hn1)
              have HB2 := hid (HB1.out.trans (hbw.out.mono HB1.out.size))
              clear hn1 hno hk hgk hkl V0
              rcases h7 : (x.kind == 7) with _ | _
              · have hv := V.out false (by rw [h7]; rfl)
                have HV := hid hv
                obtain ⟨c0, c1, c2, c3, _⟩ := (HX1.out.below hbw.out).at_
                clear hv c0 c1 c2
                go_wp2_with fail
                go_quiet (fail)
                go_wp2_with fail
                go_ret
                exact ⟨ret_int (by rw [HV.out]; rfl), Below.drewN' HB2.out _⟩
              · have hlk1 := fun n => ((HS1.out.below hbw.out).maker.same (w' := wr.drewN n) rfl).lookR x.parcel
                have hlk2 := fun n => ((HS1.out.below hbw.out).maker.same (w' := wr.drewN n) rfl).lookR x.other
                obtain ⟨⟨ra, Pa, ca⟩, hra⟩ : ∃ y, entOr (fm x.parcel) = y := ⟨_, rfl⟩
                obtain ⟨⟨rb, Pb, cb⟩, hrb⟩ : ∃ y, entOr (fm x.other) = y := ⟨_, rfl⟩
                simp only [hra] at hlk1
                simp only [hrb] at hlk2
                have hf1 := field_goods ra Pa ca
                have hf2 := field_goods rb Pb cb
                obtain ⟨c0, c1, c2, c3, c4, c5, c6, c7, c8, c9, c10, c11, c12, c13, c14⟩ := (HX1.out.below hbw.out).at_
                obtain ⟨s0, s1, s2, s3⟩ := (HS1.out.below hbw.out).cell
                by_cases hg : ra.goods = rb.goods
                · have HV := hid (V.out false (by rw [h7, hra, hrb]; simp [hg]))
                  clear hra hrb c0 c1 c2 c5 c6 c7 c8 c9 c10 c11 c12 c14 s0 s2 s3
                  go_wp2_with fail
                  go_quiet (fail)
                  go_wp2_with fail
                  go_ret
                  exact ⟨ret_int (by rw [HV.out]; rfl), Below.drewN' HB2.out _⟩
                · have HV := hid (V.out true (by rw [h7, hra, hrb]; simp [hg]))
                  have hgt : (ra.goods.toList == rb.goods.toList) = false := beq_eq_false_iff_ne.2 (fun e => hg (ba_inj e))
                  clear hra hrb c0 c1 c2 c5 c6 c7 c8 c9 c10 c11 c12 c14 s0 s2 s3
                  go_wp2_with fail
                  go_quiet (fail)
                  go_wp2_with fail
                  go_ret
                  exact ⟨ret_int (by rw [HV.out]; rfl), Below.drewN' HB2.out _⟩
theorem Sound.at_ {L : List Rep} (h : Sound L) (j : Nat) (hj : j < L.length) : Ok (L.take j) L[j] := h _ _ (L.drop (j + 1)) (by
  rw [List.getElem_cons_drop, List.take_append_drop])
theorem Sound.wfs {L : List Rep} (h : Sound L) : ∀ r ∈ L, r.Wf := fun r hr => by
  obtain ⟨j, hj, rfl⟩ := List.getElem_of_mem hr
  exact (h.at_ j hj).wf
theorem makes_id {r : Rep} (hr : r.Wf) {p : Int} (h : p ∈ r.makes) : p / 10 = r.id := by
  unfold Rep.makes at h
  split at h
  · rw [List.mem_singleton] at h
    omega
  · split at h
    · rename_i h2
      have h8 := hr.count h2
      rw [List.mem_map] at h
      obtain ⟨i, hi, rfl⟩ := h
      rw [List.mem_range] at hi
      omega
    · simp at h
theorem take_mem {L : List Rep} {i j : Nat} (hi : i < L.length) (hij : i < j) : L[i] ∈ L.take j := by
  rw [List.mem_iff_getElem]
  exact ⟨i, by simp; omega, by simp⟩
theorem Sound.ids {L : List Rep} (h : Sound L) {y z : Rep} (hy : y ∈ L) (hz : z ∈ L) (e : y.id = z.id) : y = z := by
  obtain ⟨i, hi, rfl⟩ := List.getElem_of_mem hy
  obtain ⟨j, hj, rfl⟩ := List.getElem_of_mem hz
  rcases Nat.lt_trichotomy i j with h1 | h1 | h1
  · exact absurd e ((h.at_ j hj).id _ (take_mem hi h1))
  · subst h1
    rfl
  · exact absurd e.symm ((h.at_ i hi).id _ (take_mem hj h1))
theorem Sound.maker {L : List Rep} (h : Sound L) {p : Int} {y z : Rep} (hy : y ∈ L) (hz : z ∈ L) (py : p ∈ y.makes) (pz : p ∈ z.makes) : y = z :=
  h.ids hy hz (by rw [← makes_id (h.wfs y hy) py, ← makes_id (h.wfs z hz) pz])
theorem uses_touches {r : Rep} (hr : r.Wf) {p : Int} (h : p ∈ r.uses) : p ∈ r.touches := by
  unfold Rep.uses at h
  unfold Rep.touches
  rw [List.mem_filter]
  split at h
  · rename_i h2
    rw [List.mem_singleton] at h
    subst h
    have := hr.parcel (.inl h2)
    exact ⟨by simp, decide_eq_true (by omega)⟩
  · split at h
    · rename_i h3
      have := (hr.parts h3).2.2.2 p h
      exact ⟨by simp [h], decide_eq_true (by omega)⟩
    · split at h
      · rename_i h7
        rw [List.mem_singleton] at h
        subst h
        have := hr.other h7
        exact ⟨by simp, decide_eq_true (by omega)⟩
      · simp at h
theorem Sound.user {L : List Rep} (h : Sound L) {p : Int} {y z : Rep} (hy : y ∈ L) (hz : z ∈ L) (py : p ∈ y.uses) (pz : p ∈ z.uses) : y = z := by
  obtain ⟨i, hi, rfl⟩ := List.getElem_of_mem hy
  obtain ⟨j, hj, rfl⟩ := List.getElem_of_mem hz
  rcases Nat.lt_trichotomy i j with h1 | h1 | h1
  · exact absurd py ((h.at_ j hj).free p (uses_touches (h.at_ j hj).wf pz) _ (take_mem hi h1))
  · subst h1
    rfl
  · exact absurd pz ((h.at_ i hi).free p (uses_touches (h.at_ i hi).wf py) _ (take_mem hj h1))
theorem maker_same {L : List Ent} (h : Sound (reps L)) (p : Int) : makerOf (reps L) p = (makerE L p).map (·.1) := by
  rcases he : makerE L p with _ | e
  · rw [Option.map_none]
    unfold makerOf
    rw [List.find?_eq_none]
    intro r hr
    obtain ⟨e, he2, rfl⟩ := List.mem_map.1 hr
    simpa using makerE_none he e he2
  · obtain ⟨h1, h2⟩ := makerE_some he
    rcases hm : makerOf (reps L) p with _ | r
    · unfold makerOf at hm
      rw [List.find?_eq_none] at hm
      exact absurd h2 (by simpa using hm e.1 (List.mem_map_of_mem (f := Prod.fst) h1))
    · obtain ⟨h3, h4⟩ := maker_some hm
      rw [Option.map_some, h.maker h3 (List.mem_map_of_mem (f := Prod.fst) h1) h4 h2]
theorem user_same {L : List Ent} (h : Sound (reps L)) (p : Int) : userOf (reps L) p = (userE L p).map (·.1) := by
  rcases he : userE L p with _ | e
  · rw [Option.map_none]
    unfold userOf
    rw [List.find?_eq_none]
    intro r hr
    obtain ⟨e, he2, rfl⟩ := List.mem_map.1 hr
    simpa using userE_none he e he2
  · obtain ⟨h1, h2⟩ := userE_some he
    rcases hm : userOf (reps L) p with _ | r
    · unfold userOf at hm
      rw [List.find?_eq_none] at hm
      exact absurd h2 (by simpa using hm e.1 (List.mem_map_of_mem (f := Prod.fst) h1))
    · obtain ⟨h3, h4⟩ := user_some hm
      rw [Option.map_some, h.user h3 (List.mem_map_of_mem (f := Prod.fst) h1) h4 h2]
theorem hid_same (L : List Ent) (p : Int) : (hidE L p).getD false = hiddenB (reps L) p := by
  have h1 := hidE_orZ L p
  rw [orZ_bool] at h1
  simpa using h1
theorem goods_same {L : List Ent} (h : Sound (reps L)) (p : Int) : goodsAt (reps L) p = (entOr (makerE L p)).1.goods := by
  unfold goodsAt
  rw [maker_same h]
  cases makerE L p <;> rfl
theorem admitsG_eq {L : List Ent} (h : Sound (reps L)) (x : Rep) : admitsG (makerE L) (userE L) (hidE L) (reps L) x = admits (reps L) x := by
  have h1 : ∀ p, bad1 (makerE L) (userE L) x p = (!thereB (reps L) p || (decide (x.kind = 7) && !foundB (reps L) p)) := fun p => by
    unfold bad1 thereB foundB
    rw [maker_same h, user_same h]
    rcases makerE L p with _ | e
    · simp [entOr, zr]
    · rcases userE L p with _ | u <;> simp [entOr] <;> rfl
  have h2 : ∀ p, bad2 (hidE L) x p = (hiddenB (reps L) p != decide (x.kind = 6)) := fun p => by
    unfold bad2
    rw [hid_same]
    rfl
  unfold admitsG admits
  rw [show bad1 (makerE L) (userE L) x = _ from funext h1, show bad2 (hidE L) x = _ from funext h2, goods_same h, goods_same h]
  by_cases h7 : x.kind = 7
  · by_cases hg : (entOr (makerE L x.parcel)).1.goods = (entOr (makerE L x.other)).1.goods
    · simp [h7, hg]
      rfl
    · simp [h7, hg]
      rfl
  · simp [h7]
    rfl
/-- The parcel that another one is the same as, again and again. -/
def aliasF (C : List Rep) : Nat → Int → Int
  | 0, p => p
  | n + 1, p => match userOf C p with
    | some u => if u.kind = 7 then aliasF C n u.parcel else p
    | none => p
def aliasOf (C : List Rep) (p : Int) : Int := aliasF C C.length p
/-- At most g reports use what p is the same as. -/
def Deep (C : List Rep) (g : Nat) (p : Int) : Prop := ∀ j (h : j < C.length), p ∈ C[j].uses → C.length - j ≤ g
theorem Deep.start (C : List Rep) (p : Int) : Deep C C.length p := fun j _ _ => by omega
theorem Deep.step {C : List Rep} (h : Sound C) {g : Nat} {p : Int} {u : Rep} (hd : Deep C g p) (hu : userOf C p = some u) (h7 : u.kind = 7) : 1 ≤ g ∧ Deep C (g - 1) u.parcel := by
  obtain ⟨h1, h2⟩ := user_some hu
  obtain ⟨j, hj, rfl⟩ := List.getElem_of_mem h1
  have h3 := hd j hj h2
  refine ⟨by omega, fun j' hj' h4 => ?_⟩
  have hw := (h.at_ j hj).wf
  have hpar := hw.parcel (by omega)
  have hoth := hw.other h7
  have ht : C[j].parcel ∈ C[j].touches := by
    unfold Rep.touches
    rw [List.mem_filter]
    exact ⟨by simp, decide_eq_true (by omega)⟩
  have : j < j' := by
    rcases Nat.lt_trichotomy j j' with h5 | h5 | h5
    · exact h5
    · subst h5
      have h6 : C[j].uses = [C[j].other] := by unfold Rep.uses; rw [if_neg (by omega), if_neg (by omega), if_pos h7]
      rw [h6, List.mem_singleton] at h4
      exact absurd h4 hoth.2.2
    · exact absurd h4 ((h.at_ j hj).free _ ht _ (take_mem hj' h5))
  omega
theorem aliasF_none {C : List Rep} {n : Nat} {p : Int} (h : userOf C p = none) : aliasF C n p = p := by
  cases n with
  | zero => rfl
  | succ n => unfold aliasF; rw [h]
theorem aliasF_other {C : List Rep} {n : Nat} {p : Int} {u : Rep} (h : userOf C p = some u) (h7 : u.kind ≠ 7) : aliasF C n p = p := by
  cases n with
  | zero => rfl
  | succ n => unfold aliasF; rw [h]; exact if_neg h7
theorem aliasF_same {C : List Rep} {n : Nat} {p : Int} {u : Rep} (hn : 1 ≤ n) (h : userOf C p = some u) (h7 : u.kind = 7) : aliasF C n p = aliasF C (n - 1) u.parcel := by
  cases n with
  | zero => omega
  | succ n =>
    conv => lhs; unfold aliasF
    rw [h]
    exact if_pos h7
set_option maxHeartbeats 4000000 in
theorem alias_any {w : World} {s r1 r2 r3 : Nat} {A : Option Addr} {n cap : Nat} {C : List Ent} {fm : Int → Option Ent} {fh : Int → Option Bool} (h : StoreIs w s r1 r2 r3 A n cap fm (userE C) fh) (hs : Sound (reps C)) (p : Int) :
    Calls Tryz.prog 115 #[.pointer (some ⟨s, 0, none⟩), .int .i64 p] w fun e w' => e = .returned (.int .i64 (aliasOf (reps C) p)) ∧ Below w.heap.size w w' := by
  have HS := hid h
  have HSO := hid hs
  obtain ⟨R, hR⟩ : ∃ R, aliasOf (reps C) p = R := ⟨_, rfl⟩
  rw [hR]
  unfold aliasOf at hR
  have HR := hid hR
  have HD := hid (Deep.start (reps C) p)
  clear h hs hR
  go_enter Tryz.func115, Tryz.ntmps115
  go_wp2_with fail
  go_loopg [1] ((reps C).length) (fun g q wr => ∃ k : Int, q = .int .i64 k ∧ Hid (aliasF (reps C) g k = R) ∧ Hid (Deep (reps C) g k) ∧ Hid (Below w.heap.size w wr))
  case atStart => exact ⟨p, rfl, HR, HD, hid (Below.refl _ _)⟩
  case round =>
    obtain ⟨k, rfl, hal, hd, hbw⟩ := hrel
    obtain ⟨s0, s1, s2, s3⟩ := (HS.out.below hbw.out).cell
    have hlk := (HS.out.below hbw.out).user.lookR2 k
    have hus := user_same HSO.out k
    have HUS := hid hus
    clear hus s0 s1 s3
    rcases hu : userE C k with _ | ⟨u, P, c⟩
    · rw [hu] at hlk HUS
      have HEQ := hid ((aliasF_none (n := gk) HUS.out).symm.trans hal.out)
      clear hu
      dsimp only [entOr, Option.getD_none, Option.isSome_none] at hlk
      go_wp2_with (refine store_rep_new rfl _ _ rfl rfl rfl rfl rfl ?_; intro W2 hbx2 hb2 hlt2; have HB2 := hid (hbw.out.trans (hb2.mono hbw.out.size)); clear hbx2 hb2)
      go_ret
      exact ⟨ret_int HEQ.out, HB2.out⟩
    · rw [hu] at hlk HUS
      clear hu
      dsimp only [entOr, Option.getD_some, Option.isSome_some] at hlk
      by_cases h7 : u.kind = 7
      · obtain ⟨hg1, hd2⟩ := hd.out.step HSO.out HUS.out h7
        have HEQ := hid ((aliasF_same hg1 HUS.out h7).symm.trans hal.out)
        have HD2 := hid hd2
        have d7 : (u.kind != 7) = false := by simp [h7]
        clear h7 hd2
        go_wp2_with (refine store_rep_new rfl _ _ rfl rfl rfl rfl rfl ?_; intro W2 hbx2 hb2 hlt2; have HB2 := hid (hbw.out.trans (hb2.mono hbw.out.size)); obtain ⟨c0, c1, c2, c3, c4, _⟩ := hbx2.at_; clear hbx2 hb2 c0 c1 c2)
        go_roundg (gk - 1)
        case measure => omega
        case rel => exact ⟨u.parcel, rfl, HEQ, HD2, HB2⟩
      · have HEQ := hid ((aliasF_other (n := gk) HUS.out h7).symm.trans hal.out)
        have d7 : (u.kind != 7) = true := bne_iff_ne.2 h7
        clear h7
        go_wp2_with (refine store_rep_new rfl _ _ rfl rfl rfl rfl rfl ?_; intro W2 hbx2 hb2 hlt2; have HB2 := hid (hbw.out.trans (hb2.mono hbw.out.size)); obtain ⟨c0, c1, c2, c3, c4, _⟩ := hbx2.at_; clear hbx2 hb2 c0 c1 c2)
        go_ret
        exact ⟨ret_int HEQ.out, HB2.out⟩
def strs (xs : List ByteArray) : List Value := xs.map Value.string
def StrsAt (w : World) (A : Option Addr) (xs : List ByteArray) : Prop :=
  0 < xs.length → ∃ b off, A = some ⟨b, off, none⟩ ∧ ∀ j (h : j < xs.length), w.cell? ⟨b, off + j, none⟩ = some (.string xs[j])
theorem StrsAt.kept {w w' : World} {A : Option Addr} {xs : List ByteArray} (h : StrsAt w A xs) (k : Kept w w') : StrsAt w' A xs := fun h0 => by
  obtain ⟨b, off, e, hc⟩ := h h0
  exact ⟨b, off, e, fun j hj => k _ _ (hc j hj)⟩
theorem CellsAt.strs {w : World} {A : Option Addr} {xs : List ByteArray} (h : CellsAt w A (strs xs)) : StrsAt w A xs := fun h0 => by
  obtain ⟨b, off, e, hc⟩ := h (by simpa [YtfaoillnakhejaaGreat.strs] using h0)
  exact ⟨b, off, e, fun j hj => hc j _ (by simp [YtfaoillnakhejaaGreat.strs, hj])⟩
theorem strs_info : ∃ i, Tryz.prog.info? 9 = some i ∧ i.zero = some (.string .empty) ∧ i.size = 1 ∧ i.bytes = 16 := by
  have h : (Tryz.prog.info? 9).map (fun i => (i.zero, i.size, i.bytes)) = some (some (.string .empty), 1, 16) := by kernel_rfl
  obtain ⟨i, h1, h2, h3, h4⟩ := info_parts h
  exact ⟨i, h1, h2, h3, h4⟩
theorem strsl_u : Tryz.prog.underlying 187 = some (.slice 9) := by kernel_rfl
/-- Two rows lie apart. -/
def ApartV (v u : Value) : Prop := u.ownBlock = none ∨ u.ownBlock ≠ v.ownBlock
/-- One string more behind each of two rows of a call's own. -/
theorem app_two {w : World} {base : Nat} {v u : Value} {xs ys : List ByteArray} (a b : ByteArray) (hx : w.ownsRow base 9 1 v xs.length (strs xs)) (hy : w.ownsRow base 9 1 u ys.length (strs ys)) (hap : ApartV v u) (hlx : xs.length ≤ 1000) (hly : ys.length ≤ 1000) (hbase : base ≤ w.heap.size) :
    ∃ v' w1 u' w2, (Builtin.append_ #[187, 187] 187 #[v, .slice (some ⟨w.heap.size, 0, none⟩) 1 1]).run Tryz.prog (w.alloc (.cells #[.string a] 9)) = .ok v' w1 ∧
      (Builtin.append_ #[187, 187] 187 #[u, .slice (some ⟨w1.heap.size, 0, none⟩) 1 1]).run Tryz.prog (w1.alloc (.cells #[.string b] 9)) = .ok u' w2 ∧
      w2.ownsRow base 9 1 v' (xs ++ [a]).length (strs (xs ++ [a])) ∧ w2.ownsRow base 9 1 u' (ys ++ [b]).length (strs (ys ++ [b])) ∧ ApartV v' u' ∧ Below base w w2 := by
  obtain ⟨i, h1, h2, h3, h4⟩ := strs_info
  obtain ⟨v', w1, r1, o1, g1, _, l1⟩ := run_append_own_at (P := Tryz.prog) (w := w.alloc (.cells #[.string a] 9)) base 187 187 9 i _ 1 16 strsl_u h1 h2 h3 h4 rfl (by omega) v xs.length (strs xs) (hx.alloc _)
    ⟨w.heap.size, 0, none⟩ 1 1 [.string a] rfl (cell_one_new w _ _) (by simp [Value.oneCell']) (by unfold maxLen; omega) (by omega) (by simp; omega)
  have hy1 : w1.ownsRow base 9 1 u ys.length (strs ys) := (hy.alloc _).kept g1 hap
  have hb1 : Below base w w1 := ((Below.refl _ _).alloc hbase _).grown g1 (by simp; omega) (fun g e => (hx.lt g e).1)
  have hs1 : w.heap.size < w1.heap.size := by have := g1.size; simp at this; omega
  obtain ⟨u', w2, r2, o2, g2, _, l2⟩ := run_append_own_at (P := Tryz.prog) (w := w1.alloc (.cells #[.string b] 9)) base 187 187 9 i _ 1 16 strsl_u h1 h2 h3 h4 rfl (by omega) u ys.length (strs ys) (hy1.alloc _)
    ⟨w1.heap.size, 0, none⟩ 1 1 [.string b] rfl (cell_one_new w1 _ _) (by simp [Value.oneCell']) (by unfold maxLen; omega) (by omega) (by simp; omega)
  have hap1 : ApartV u v' := by
    unfold ApartV at hap ⊢
    rcases l1 with l | l
    · rw [l]
      rcases hv : v.ownBlock with _ | g
      · exact .inl rfl
      · right
        intro e
        rcases hap with h | h
        · rw [h] at e; cases e
        · exact h (by rw [hv, ← e])
    · right
      rw [l]
      intro e
      have := (hy.lt _ e.symm).2
      simp at this
      omega
  have hv2 : w2.ownsRow base 9 1 v' (xs.length + 1) (strs xs ++ [.string a]) := (o1.alloc _).kept g2 hap1
  have hap2 : ApartV v' u' := by
    unfold ApartV at hap1 ⊢
    rcases l2 with l | l
    · rw [l]
      rcases hu : u.ownBlock with _ | g
      · exact .inl rfl
      · right
        intro e
        rcases hap1 with h | h
        · rw [h] at e; cases e
        · exact h (by rw [hu, ← e])
    · right
      rw [l]
      intro e
      have := (o1.lt _ e.symm).2
      simp at this
      omega
  refine ⟨v', w1, u', w2, r1, r2, ?_, ?_, hap2, ?_⟩
  · rw [List.length_append]
    simpa [strs] using hv2
  · rw [List.length_append]
    simpa [strs] using o2
  · exact (hb1.alloc (by omega) _).grown g2 (by simp; omega) (fun g e => (hy1.lt g e).1)
def AsksS (w : World) (fid : FuncId) (cv : Value) (xs : List ByteArray) (q : ByteArray → Bool) : Prop :=
  ∀ x wr, x ∈ xs → Below w.heap.size w wr → Calls Tryz.prog fid #[.string x, cv] wr fun e w' => e = .returned (.bool (q x)) ∧ Below wr.heap.size wr w'
set_option maxHeartbeats 4000000 in
theorem indexStrs_any (fid : FuncId) (hcf : Enters fid) (cv : Value) (q : ByteArray → Bool) (A : Option Addr) (cap : Nat) (xs : List ByteArray) (w : World) (hm : xs.length ≤ 1000000) (hA : StrsAt w A xs) (hF : AsksS w fid cv xs q) :
    Calls Tryz.prog 192 #[.slice A xs.length cap, .func (.func fid) #[] #[cv]] w fun e w' => (∃ i : Int, e = .returned (.int .i64 i) ∧ decide (0 ≤ i) = xs.any q) ∧ Below w.heap.size w w' := by
  have HA := hid hA
  have HF := hid hF
  clear hA hF
  unfold Enters at hcf
  go_enter Tryz.func192, Tryz.ntmps192
  go_wp2_with fail
  go_loopg [8] (xs.length) (fun g i wr => ∃ k : Nat, k ≤ xs.length ∧ g = xs.length - k ∧ i = .int .i64 k ∧ Hid ((xs.take k).any q = false) ∧ Hid (Below w.heap.size w wr))
  case atStart => exact ⟨0, by omega, by omega, rfl, hid (by simp), hid (Below.refl _ _)⟩
  case round =>
    obtain ⟨k, hk, hgk, rfl, hno, hbw⟩ := hrel
    by_cases hlt : k < xs.length
    · obtain ⟨b, off, hAe, hc⟩ := (HA.out.kept (Kept.of_below hbw.out)) (by omega)
      subst hAe
      have hck := hc k hlt
      have i0 : (0 : Int) ≤ k := by omega
      have i1 : (k : Int) < xs.length := by omega
      have hsn := any_take_snoc q xs k hlt
      have hmem := List.getElem_mem hlt
      obtain ⟨x, hx⟩ : ∃ x, xs[k] = x := ⟨_, rfl⟩
      rw [hx] at hck hsn hmem
      have HSN := hid hsn
      have HMEM := hid hmem
      clear hc hx hsn hmem
      rcases hb : q x with _ | _
      · have hcl := HF.out x wr HMEM.out hbw.out
        rw [hb] at hcl
        have HCL := hid hcl
        have HB := hid hb
        clear hb hcl
        go_wp2_with fail
        refine HCL.out.mono ?_
        rintro e w' ⟨rfl, hb'⟩
        have HB' := hid (hbw.out.trans (hb'.mono hbw.out.size))
        clear hb'
        go_wp2_with fail
        go_roundg (xs.length - (k + 1))
        case measure => omega
        case rel => exact ⟨k + 1, by omega, rfl, by go_num, hid (by rw [HSN.out, hno.out, HB.out]; rfl), HB'⟩
      · have hcl := HF.out x wr HMEM.out hbw.out
        rw [hb] at hcl
        have HCL := hid hcl
        have HB := hid hb
        clear hb hcl
        go_wp2_with fail
        refine HCL.out.mono ?_
        rintro e w' ⟨rfl, hb'⟩
        have HB' := hid (hbw.out.trans (hb'.mono hbw.out.size))
        clear hb'
        go_wp2_with fail
        go_ret
        refine ⟨⟨_, rfl, ?_⟩, HB'.out⟩
        rw [List.any_eq_true.2 ⟨x, HMEM.out, HB.out⟩]
        exact decide_eq_true (by omega)
    · obtain rfl : k = xs.length := by omega
      have hno2 := hno.out
      rw [List.take_length] at hno2
      have HN := hid hno2
      clear hno2 hno
      go_wp2_with fail
      go_ret
      exact ⟨⟨_, rfl, by rw [HN.out]; rfl⟩, hbw.out⟩
set_option maxHeartbeats 4000000 in
theorem containsStrs_any (fid : FuncId) (hcf : Enters fid) (cv : Value) (q : ByteArray → Bool) (A : Option Addr) (cap : Nat) (xs : List ByteArray) (w : World) (hm : xs.length ≤ 1000000) (hA : StrsAt w A xs) (hF : AsksS w fid cv xs q) {t : Bool} (ht : xs.any q = t) :
    Calls Tryz.prog 186 #[.slice A xs.length cap, .func (.func fid) #[] #[cv]] w fun e w' => e = .returned (.bool t) ∧ Below w.heap.size w w' := by
  have HA := hid hA
  have HF := hid hF
  have HT := hid ht
  have HC := hid hcf
  clear hA hF ht hcf
  go_enter Tryz.func186, Tryz.ntmps186
  go_wp2_with fail
  refine (indexStrs_any fid HC.out cv q A cap xs w hm HA.out HF.out).mono ?_
  rintro e w' ⟨⟨i, rfl, hi⟩, hb⟩
  have HI := hid hi
  have HB := hid hb
  clear hi hb
  go_wp2_with fail
  go_ret
  exact ⟨ret_bool (HI.out.trans HT.out), HB.out⟩
/-- What all strings of a list are, or something else. -/
def commonB (l : List ByteArray) (other : ByteArray) : ByteArray := match l with
  | [] => other
  | a :: t => if (a :: t).any (fun s => !decide (s = a)) then other else a
theorem enters127 : Enters 187 := fun args w => by kernel_rfl
set_option maxHeartbeats 4000000 in
theorem common1_asks {w : World} {g : Nat} {A : Option Addr} {n c : Nat} {a : ByteArray} {t : List ByteArray} (hx : w.cell? ⟨g, 0, none⟩ = some (.slice A n c)) (hn : n = (a :: t).length) (hA : StrsAt w A (a :: t)) (xs : List ByteArray) :
    AsksS w 187 (.pointer (some ⟨g, 0, none⟩)) xs (fun s => !decide (s = a)) := by
  intro s wr _ hb
  have hk := Kept.of_below hb
  have h1 := hk _ _ hx
  obtain ⟨b, off, rfl, hc⟩ := (hA.kept hk) (by simp)
  have h2 := hc 0 (by simp)
  simp only [List.getElem_cons_zero, Nat.add_zero] at h2
  have i1 : (0 : Int) < n := by rw [hn]; simp
  clear hx hA hb hk hc
  by_cases he : s = a
  · subst he
    go_enter Tryz.func187, Tryz.ntmps187
    go_wp2_with fail
    go_ret
    exact ⟨ret_bool (by simp), Below.refl _ _⟩
  · have hne : (s.toList == a.toList) = false := beq_eq_false_iff_ne.2 (fun e => he (ba_inj e))
    go_enter Tryz.func187, Tryz.ntmps187
    go_wp2_with fail
    go_ret
    exact ⟨ret_bool (by simp [he]), Below.refl _ _⟩
set_option maxHeartbeats 4000000 in
theorem common_any (A : Option Addr) (c : Nat) (l : List ByteArray) (other : ByteArray) (w : World) (h0 : 0 < l.length) (hm : l.length ≤ 1000000) (hA : StrsAt w A l) :
    Calls Tryz.prog 173 #[.slice A l.length c, .string other] w fun e w' => e = .returned (.string (commonB l other)) ∧ Below w.heap.size w w' := by
  obtain ⟨a, t, rfl⟩ : ∃ a t, l = a :: t := by
    cases l with
    | nil => simp at h0
    | cons a t => exact ⟨a, t, rfl⟩
  obtain ⟨n, hn⟩ : ∃ n, (a :: t).length = n := ⟨_, rfl⟩
  rw [hn] at hm ⊢
  obtain ⟨W, hW⟩ : ∃ W, w.alloc (.cells #[.slice A n c] 187) = W := ⟨_, rfl⟩
  have hbW : Below w.heap.size w W := by rw [← hW]; exact (Below.refl _ _).alloc (Nat.le_refl _) _
  have hcell : W.cell? ⟨w.heap.size, 0, none⟩ = some (.slice A n c) := by rw [← hW]; simp
  have hlt : w.heap.size < W.heap.size := cell_lt hcell
  have hAW := hA.kept (Kept.of_below hbW)
  have hcm : commonB (a :: t) other = if (a :: t).any (fun s => !decide (s = a)) then other else a := rfl
  obtain ⟨bt, hbt⟩ : ∃ bt, (a :: t).any (fun s => !decide (s = a)) = bt := ⟨_, rfl⟩
  have hct := containsStrs_any _ enters127 (.pointer (some ⟨w.heap.size, 0, none⟩)) (fun s => !decide (s = a)) A c (a :: t) W (by omega) hAW (common1_asks hcell hn.symm hAW (a :: t)) hbt
  rw [hn] at hct
  rw [hbt] at hcm
  have HCT := hid hct
  have HCM := hid hcm
  have HBW := hid hbW
  have HAW := hid hAW
  have HC := hid hcell
  have i1 : (0 : Int) < n := by rw [← hn]; simp
  clear hA hbW hAW hcm hbt hct h0 hn
  go_enter Tryz.func173, Tryz.ntmps173
  go_wp2_with fail
  refine HCT.out.mono ?_
  rintro e w1 ⟨rfl, hb⟩
  have HB := hid (HBW.out.trans (hb.mono HBW.out.size))
  have hc1 := Kept.of_below hb _ _ HC.out
  obtain ⟨b, off, rfl, hc⟩ := (HAW.out.kept (Kept.of_below hb)) (by simp)
  have h2 := hc 0 (by simp)
  simp only [List.getElem_cons_zero, Nat.add_zero] at h2
  clear hb hc hW hcell
  cases bt
  all_goals
    go_wp2_with fail
    go_ret
    exact ⟨by rw [HCM.out]; rfl, HB.out⟩
end Go.Proofs.YtfaoillnakhejaaGreat
