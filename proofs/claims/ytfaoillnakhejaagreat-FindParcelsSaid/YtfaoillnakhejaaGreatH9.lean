/- The reference: maker, user; The reference: there, found, hidden; The chapter's examples: the six reports, and what the engine says of them (plain); few: a list of at most so many reports, none of them large; beach: the reports of the chapter's examples; arcs: the parcels as arcs; the iterator over them; graph. -/
import Derived.Test.YtfaoillnakhejaaGreatH6
namespace Go.Proofs.YtfaoillnakhejaaGreat
set_option maxRecDepth 100000
open Go.RowKit
theorem zr_gen {w : World} {cs : Array Value} {F : World → Prop} (h : cs = zr.cells none 0) (k : ∀ W, BoxIs W w.heap.size zr none 0 → Below w.heap.size w W → F W) : F (w.alloc (.cells cs 46)) := by
 subst h
 exact k _ (heap_alloc_new w _) ((Below.refl _ _).alloc (Nat.le_refl _) _)
theorem find_take {α : Type} {q : α → Bool} {l : List α} {k : Nat} (hk : k < l.length) (hno : ∀ e ∈ l.take k, q e = false) (hq : q l[k] = true) : l.find? q = some l[k] := by
 conv => lhs; rw [← List.take_append_drop k l, List.find?_append]
 rw [List.find?_eq_none.2 (fun e he => by simp [hno e he]), Option.none_or]
 have h : l.drop k = l[k] :: l.drop (k + 1) := (List.getElem_cons_drop hk).symm
 rw [h, List.find?_cons_of_pos hq]
theorem rmaker_ret (tmps : Array Value) (w : World) (g : Nat) {r : Rep} {A : Option Addr} {c : Nat} {b : Bool} (hp : tmps.getD 4 undef = .pointer (some ⟨g, 0, none⟩)) (hu : tmps.getD 5 undef = .bool b) (hg : BoxIs w g r A c) :
  (results Tryz.f120 tmps).run Tryz.prog w = .ok (.tuple #[r.val A c, .bool b]) w := by
 rw [results_cell_tmp rfl, hp, hu]
 simp [asAddr, run_loadVar_row w g _ _ (r.cells A c) (0, 0) _ hg Tryz.underlying46 rfl rep_info]
set_option maxHeartbeats 8000000 in
theorem rmaker_any (A : Option Addr) (cap : Nat) (C : List Ent) (p : Int) (w : World) (hA : EntsAt w A C) (hl : C.length ≤ 1000) (hw : ∀ e ∈ C, e.1.Wf) :
  Calls Tryz.prog 120 #[.slice A C.length cap, .int .i64 p] w fun e w' => Below w.heap.size w w' ∧ e = .returned (.tuple #[evR (entOr (C.find? fun e => decide (p ∈ e.1.makes))), .bool (C.find? fun e => decide (p ∈ e.1.makes)).isSome]) := by
 have HA := hid hA
 have HW := hid hw
 obtain ⟨FE, hFE⟩ : ∃ FE, (C.find? fun e => decide (p ∈ e.1.makes)) = FE := ⟨_, rfl⟩
 rw [hFE]
 have HFE := hid hFE
 clear hA hw hFE
 go_enter Tryz.func120, Tryz.ntmps120
 go_upto_region 1 with fail
 refine zr_gen rfl ?_
 intro W hz hb
 have HZ := hid hz
 have HB := hid hb
 have hlt : w.heap.size < W.heap.size := (Array.getElem?_eq_some_iff.1 hz).1
 clear hz hb
 go_upto_region 2 with fail
 go_loopg [6] (C.length) (fun g i wr => ∃ k : Nat, k ≤ C.length ∧ g = C.length - k ∧ i = .int .i64 k ∧ Hid (∀ e ∈ C.take k, decide (p ∈ e.1.makes) = false) ∧ Hid (Below W.heap.size W wr))
 case atStart => exact ⟨0, by omega, by omega, rfl, hid (by simp), hid (Below.refl _ _)⟩
 case round =>
  obtain ⟨k, hk, hgk, rfl, hno, hbw⟩ := hrel
  by_cases hkl : k < C.length
  ·have hEw := HA.out.below (HB.out.trans (hbw.out.mono HB.out.size))
   obtain ⟨b, off, hAe, hc⟩ := hEw.rows (by omega)
   subst hAe
   have hck := hc k hkl
   have hmem := List.getElem_mem hkl
   have hpa := hEw.parts _ hmem
   have hwf := HW.out _ hmem
   have hsn : C.take (k + 1) = C.take k ++ [C[k]] := List.take_succ_eq_append_getElem hkl
   have hft := fun h => find_take (q := fun e : Ent => decide (p ∈ e.1.makes)) hkl hno.out h
   obtain ⟨⟨x, P, cx⟩, hx⟩ : ∃ y, C[k] = y := ⟨_, rfl⟩
   rw [hx] at hck hpa hwf hsn hft
   dsimp only at hck hft
   have HCK := hid hck
   have HSN := hid hsn
   have HFT := hid hft
   have i0 : (0 : Int) ≤ k := by omega
   have i1 : (k : Int) < C.length := by omega
   have hul : x.makes.length ≤ 8 := makes_len _ hwf
   have HCA := hid (rmakes_any x P cx wr hwf)
   obtain ⟨t, ht⟩ : ∃ t, decide (p ∈ x.makes) = t := ⟨_, rfl⟩
   have HT := hid ht
   clear hEw hc hck hmem hpa hwf hsn hft hx ht
   go_wp2_with (first | refine load_rep_mid rfl _ rfl _ _ rfl HCK.out ?_)
   refine HCA.out.mono ?_
   rintro e w1 ⟨v1, rfl, ho1, hb1⟩
   obtain ⟨A1, k1, rfl, hx1⟩ := ownsRow.form ho1
   have HI := hid (ownsRow_ints ho1)
   have HBR := hid hb1
   clear hx1 ho1
   have HB1 := hid (hbw.out.trans (hb1.mono hbw.out.size))
   have HHA := hid (has_any A1 k1 x.makes p w1 (by omega) HI.out)
   rw [HT.out] at HHA
   clear hb1 HCA
   go_wp2_with fail
   refine HHA.out.mono ?_
   rintro e w2 ⟨rfl, rfl⟩
   clear HHA
   rcases t with _ | _
   ·go_wp2_with fail
    go_roundg (C.length - (k + 1))
    case measure => omega
    case rel => exact ⟨k + 1, by omega, rfl, by go_num, hid (by
     rw [HSN.out]
     intro e he
     rcases List.mem_append.1 he with h | h
     ·exact hno.out e h
     ·rw [List.mem_singleton] at h
      subst h
      exact HT.out), HB1⟩
   ·have HZ2 := hid (HZ.out.below HB1.out)
    have HCK2 := hid (rangeAt_kept HCK.out (Kept.of_below (show Below wr.heap.size wr w2 from HBR.out)))
    go_wp2_with (first | refine load_rep_mid rfl _ rfl _ _ rfl HCK2.out ?_ | refine store_rep rfl _ _ rfl _ rfl (r := x) rfl HZ2.out rfl ?_)
    refine bodyPost_ret (rmaker_ret _ _ w.heap.size rfl rfl (box_set HZ2.out)) rfl ?_
    have h1 := HFE.out
    rw [HFT.out HT.out] at h1
    subst h1
    exact ⟨below_setRow (HB.out.trans (HB1.out.mono HB.out.size)) (Nat.le_refl _) _, rfl⟩
  ·obtain rfl : k = C.length := by omega
   have hno2 := hno.out
   rw [List.take_length] at hno2
   have HZ2 := hid (HZ.out.below hbw.out)
   have HNO := hid hno2
   clear hno hno2
   go_wp2_with (first | refine store_rep rfl _ _ rfl _ rfl (r := zr) (A := none) (c := 0) rfl HZ2.out rfl ?_)
   refine bodyPost_ret (rmaker_ret _ _ w.heap.size rfl rfl (box_set HZ2.out)) rfl ?_
   have h1 := HFE.out
   rw [List.find?_eq_none.2 (fun e he => by simp [HNO.out e he])] at h1
   subst h1
   exact ⟨below_setRow (HB.out.trans (hbw.out.mono HB.out.size)) (Nat.le_refl _) _, rfl⟩
theorem ruser_ret (tmps : Array Value) (w : World) (g : Nat) {r : Rep} {A : Option Addr} {c : Nat} {b : Bool} (hp : tmps.getD 4 undef = .pointer (some ⟨g, 0, none⟩)) (hu : tmps.getD 5 undef = .bool b) (hg : BoxIs w g r A c) :
  (results Tryz.f122 tmps).run Tryz.prog w = .ok (.tuple #[r.val A c, .bool b]) w := by
 rw [results_cell_tmp rfl, hp, hu]
 simp [asAddr, run_loadVar_row w g _ _ (r.cells A c) (0, 0) _ hg Tryz.underlying46 rfl rep_info]
set_option maxHeartbeats 8000000 in
theorem ruser_any (A : Option Addr) (cap : Nat) (C : List Ent) (p : Int) (w : World) (hA : EntsAt w A C) (hl : C.length ≤ 1000) (hw : ∀ e ∈ C, e.1.Wf) :
  Calls Tryz.prog 122 #[.slice A C.length cap, .int .i64 p] w fun e w' => Below w.heap.size w w' ∧ e = .returned (.tuple #[evR (entOr (C.find? fun e => decide (p ∈ e.1.uses))), .bool (C.find? fun e => decide (p ∈ e.1.uses)).isSome]) := by
 have HA := hid hA
 have HW := hid hw
 obtain ⟨FE, hFE⟩ : ∃ FE, (C.find? fun e => decide (p ∈ e.1.uses)) = FE := ⟨_, rfl⟩
 rw [hFE]
 have HFE := hid hFE
 clear hA hw hFE
 go_enter Tryz.func122, Tryz.ntmps122
 go_upto_region 1 with fail
 refine zr_gen rfl ?_
 intro W hz hb
 have HZ := hid hz
 have HB := hid hb
 have hlt : w.heap.size < W.heap.size := (Array.getElem?_eq_some_iff.1 hz).1
 clear hz hb
 go_upto_region 2 with fail
 go_loopg [6] (C.length) (fun g i wr => ∃ k : Nat, k ≤ C.length ∧ g = C.length - k ∧ i = .int .i64 k ∧ Hid (∀ e ∈ C.take k, decide (p ∈ e.1.uses) = false) ∧ Hid (Below W.heap.size W wr))
 case atStart => exact ⟨0, by omega, by omega, rfl, hid (by simp), hid (Below.refl _ _)⟩
 case round =>
  obtain ⟨k, hk, hgk, rfl, hno, hbw⟩ := hrel
  by_cases hkl : k < C.length
  ·have hEw := HA.out.below (HB.out.trans (hbw.out.mono HB.out.size))
   obtain ⟨b, off, hAe, hc⟩ := hEw.rows (by omega)
   subst hAe
   have hck := hc k hkl
   have hmem := List.getElem_mem hkl
   have hpa := hEw.parts _ hmem
   have hwf := HW.out _ hmem
   have hsn : C.take (k + 1) = C.take k ++ [C[k]] := List.take_succ_eq_append_getElem hkl
   have hft := fun h => find_take (q := fun e : Ent => decide (p ∈ e.1.uses)) hkl hno.out h
   obtain ⟨⟨x, P, cx⟩, hx⟩ : ∃ y, C[k] = y := ⟨_, rfl⟩
   rw [hx] at hck hpa hwf hsn hft
   dsimp only at hck hft
   have HCK := hid hck
   have HSN := hid hsn
   have HFT := hid hft
   have i0 : (0 : Int) ≤ k := by omega
   have i1 : (k : Int) < C.length := by omega
   have hul : x.uses.length ≤ 8 := uses_len _ hwf
   have HCA := hid (ruses_any x P cx wr hpa.ints)
   obtain ⟨t, ht⟩ : ∃ t, decide (p ∈ x.uses) = t := ⟨_, rfl⟩
   have HT := hid ht
   clear hEw hc hck hmem hpa hwf hsn hft hx ht
   go_wp2_with (first | refine load_rep_mid rfl _ rfl _ _ rfl HCK.out ?_)
   refine HCA.out.mono ?_
   rintro e w1 ⟨hb1, A1, k1, rfl, hI1⟩
   have HI := hid hI1
   have HBR := hid hb1
   clear hI1
   have HB1 := hid (hbw.out.trans (hb1.mono hbw.out.size))
   have HHA := hid (has_any A1 k1 x.uses p w1 (by omega) HI.out)
   rw [HT.out] at HHA
   clear hb1 HCA
   go_wp2_with fail
   refine HHA.out.mono ?_
   rintro e w2 ⟨rfl, rfl⟩
   clear HHA
   rcases t with _ | _
   ·go_wp2_with fail
    go_roundg (C.length - (k + 1))
    case measure => omega
    case rel => exact ⟨k + 1, by omega, rfl, by go_num, hid (by
     rw [HSN.out]
     intro e he
     rcases List.mem_append.1 he with h | h
     ·exact hno.out e h
     ·rw [List.mem_singleton] at h
      subst h
      exact HT.out), HB1⟩
   ·have HZ2 := hid (HZ.out.below HB1.out)
    have HCK2 := hid (rangeAt_kept HCK.out (Kept.of_below (show Below wr.heap.size wr w2 from HBR.out)))
    go_wp2_with (first | refine load_rep_mid rfl _ rfl _ _ rfl HCK2.out ?_ | refine store_rep rfl _ _ rfl _ rfl (r := x) rfl HZ2.out rfl ?_)
    refine bodyPost_ret (ruser_ret _ _ w.heap.size rfl rfl (box_set HZ2.out)) rfl ?_
    have h1 := HFE.out
    rw [HFT.out HT.out] at h1
    subst h1
    exact ⟨below_setRow (HB.out.trans (HB1.out.mono HB.out.size)) (Nat.le_refl _) _, rfl⟩
  ·obtain rfl : k = C.length := by omega
   have hno2 := hno.out
   rw [List.take_length] at hno2
   have HZ2 := hid (HZ.out.below hbw.out)
   have HNO := hid hno2
   clear hno hno2
   go_wp2_with (first | refine store_rep rfl _ _ rfl _ rfl (r := zr) (A := none) (c := 0) rfl HZ2.out rfl ?_)
   refine bodyPost_ret (ruser_ret _ _ w.heap.size rfl rfl (box_set HZ2.out)) rfl ?_
   have h1 := HFE.out
   rw [List.find?_eq_none.2 (fun e he => by simp [HNO.out e he])] at h1
   subst h1
   exact ⟨below_setRow (HB.out.trans (hbw.out.mono HB.out.size)) (Nat.le_refl _) _, rfl⟩
def makerR (C : List Ent) (p : Int) : Option Ent := C.find? fun e => decide (p ∈ e.1.makes)
def userR (C : List Ent) (p : Int) : Option Ent := C.find? fun e => decide (p ∈ e.1.uses)
theorem makerR_reps (C : List Ent) (p : Int) : makerOf (reps C) p = (makerR C p).map (·.1) := by
 unfold makerOf makerR reps
 rw [List.find?_map]
 rfl
theorem userR_reps (C : List Ent) (p : Int) : userOf (reps C) p = (userR C p).map (·.1) := by
 unfold userOf userR reps
 rw [List.find?_map]
 rfl
theorem thereR (C : List Ent) (p : Int) : thereB (reps C) p = ((makerR C p).isSome && !(userR C p).isSome) := by
 unfold thereB
 rw [makerR_reps, userR_reps]
 cases makerR C p <;> cases userR C p <;> rfl
theorem foundR (C : List Ent) (p : Int) : foundB (reps C) p = ((makerR C p).isSome && decide ((entOr (makerR C p)).1.kind = 1)) := by
 unfold foundB
 rw [makerR_reps]
 cases makerR C p <;> rfl
/-- The cells of a report that lies in the middle of a row. -/
theorem range_at {w : World} {b o : Nat} {r : Rep} {A : Option Addr} {c : Nat} (h : w.rangeAt b o (r.cells A c).toList) :
  w.cell? ⟨b, o, none⟩ = some (.int .i64 r.id) ∧ w.cell? ⟨b, o + 1, none⟩ = some (.int .i64 r.known) ∧ w.cell? ⟨b, o + 2, none⟩ = some (.int .i64 r.hour) ∧ w.cell? ⟨b, o + 3, none⟩ = some (.int .u8 r.kind) ∧ w.cell? ⟨b, o + 4, none⟩ = some (.int .i64 r.parcel) ∧ w.cell? ⟨b, o + 13, none⟩ = some (.int .i64 r.other) ∧ w.cell? ⟨b, o + 14, none⟩ = some (.int .i64 r.of) :=
 ⟨h 0 _ rfl, h 1 _ rfl, h 2 _ rfl, h 3 _ rfl, h 4 _ rfl, h 13 _ rfl, h 14 _ rfl⟩
set_option maxHeartbeats 4000000 in
theorem rthere_any (A : Option Addr) (cap : Nat) (C : List Ent) (p : Int) (w : World) (hA : EntsAt w A C) (hl : C.length ≤ 1000) (hw : ∀ e ∈ C, e.1.Wf) :
  Calls Tryz.prog 158 #[.slice A C.length cap, .int .i64 p] w fun e w' => e = .returned (.bool (thereB (reps C) p)) ∧ Below w.heap.size w w' := by
 have HMK := hid (rmaker_any A cap C p w hA hl hw)
 have HUS := hid (fun W (hb : Below w.heap.size w W) => ruser_any A cap C p W (hA.below hb) hl hw)
 rw [thereR]
 change Hid (Calls _ _ _ _ fun e w' => Below w.heap.size w w' ∧ e = .returned (.tuple #[evR (entOr (makerR C p)), .bool (makerR C p).isSome])) at HMK
 change Hid (∀ W, Below w.heap.size w W → Calls _ _ _ _ fun e w' => Below W.heap.size W w' ∧ e = .returned (.tuple #[evR (entOr (userR C p)), .bool (userR C p).isSome])) at HUS
 obtain ⟨⟨r, P, c⟩, hr⟩ : ∃ x, entOr (makerR C p) = x := ⟨_, rfl⟩
 obtain ⟨⟨r', P', c'⟩, hr'⟩ : ∃ x, entOr (userR C p) = x := ⟨_, rfl⟩
 obtain ⟨b1, hb1⟩ : ∃ b, (makerR C p).isSome = b := ⟨_, rfl⟩
 obtain ⟨b2, hb2⟩ : ∃ b, (userR C p).isSome = b := ⟨_, rfl⟩
 rw [hr, hb1] at HMK
 simp only [hr', hb2] at HUS
 rw [hb1, hb2]
 clear hA hw hr hr' hb1 hb2
 cases b1
 all_goals
  go_enter Tryz.func158, Tryz.ntmps158
  go_wp2_with fail
  refine HMK.out.mono ?_
  rintro e w1 ⟨hb1, rfl⟩
  have HB1 := hid hb1
  clear hb1
  go_upto_region 2 with (refine store_rep_new rfl _ _ rfl rfl rfl rfl rfl ?_; intro W2 hbx2 hb2 hlt2)
  have HB2 := hid (HB1.out.trans (hb2.mono HB1.out.size))
  have HU := hid (HUS.out W2 HB2.out)
  clear hbx2 hb2
  go_wp2_with fail
  refine HU.out.mono ?_
  rintro e w3 ⟨hb3, rfl⟩
  have HB3 := hid (HB2.out.trans (hb3.mono HB2.out.size))
  clear hb3
  go_wp2_with (refine store_rep_new rfl _ _ rfl rfl rfl rfl rfl ?_; intro W4 hbx4 hb4 hlt4)
  have HB4 := hid (HB3.out.trans (hb4.mono HB3.out.size))
  go_ret
  exact ⟨ret_bool (by simp), HB4.out⟩
set_option maxHeartbeats 4000000 in
theorem rfound_any (A : Option Addr) (cap : Nat) (C : List Ent) (p : Int) (w : World) (hA : EntsAt w A C) (hl : C.length ≤ 1000) (hw : ∀ e ∈ C, e.1.Wf) :
  Calls Tryz.prog 159 #[.slice A C.length cap, .int .i64 p] w fun e w' => e = .returned (.bool (foundB (reps C) p)) ∧ Below w.heap.size w w' := by
 have HMK := hid (rmaker_any A cap C p w hA hl hw)
 rw [foundR]
 change Hid (Calls _ _ _ _ fun e w' => Below w.heap.size w w' ∧ e = .returned (.tuple #[evR (entOr (makerR C p)), .bool (makerR C p).isSome])) at HMK
 obtain ⟨⟨r, P, c⟩, hr⟩ : ∃ x, entOr (makerR C p) = x := ⟨_, rfl⟩
 obtain ⟨b1, hb1⟩ : ∃ b, (makerR C p).isSome = b := ⟨_, rfl⟩
 rw [hr, hb1] at HMK
 rw [hr, hb1]
 have hk : decide ((r, P, c).1.kind = 1) = (r.kind == 1) := by
  show decide (r.kind = 1) = (r.kind == 1)
  by_cases h : r.kind = 1 <;> simp [h]
 rw [hk]
 clear hA hw hr hb1 hk
 cases b1
 all_goals
  go_enter Tryz.func159, Tryz.ntmps159
  go_wp2_with fail
  refine HMK.out.mono ?_
  rintro e w1 ⟨hb1, rfl⟩
  have HB1 := hid hb1
  clear hb1
  go_upto_region 2 with (refine store_rep_new rfl _ _ rfl rfl rfl rfl rfl ?_; intro W2 hbx2 hb2 hlt2)
  obtain ⟨c0, c1, c2, c3, c4, _⟩ := hbx2.at_
  have HB2 := hid (HB1.out.trans (hb2.mono HB1.out.size))
  clear hbx2 hb2 c0 c1 c2 c4
  go_wp2_with fail
  go_ret
  exact ⟨ret_bool (by simp), HB2.out⟩
theorem hid_step (l : List Rep) (p : Int) (k : Nat) (h : k < l.length) : hiddenB (l.take (k + 1)) p = hidStep p (hiddenB (l.take k) p) l[k] := by
 unfold hiddenB
 rw [List.take_succ_eq_append_getElem h, List.foldl_append]
 rfl
set_option maxHeartbeats 8000000 in
theorem rhidden_any (A : Option Addr) (cap : Nat) (C : List Ent) (p : Int) (w : World) (hA : EntsAt w A C) (hl : C.length ≤ 1000) :
  Calls Tryz.prog 124 #[.slice A C.length cap, .int .i64 p] w fun e w' => e = .returned (.bool (hiddenB (reps C) p)) ∧ w' = w := by
 have HA := hid hA.rows
 clear hA
 go_enter Tryz.func124, Tryz.ntmps124
 go_upto_region 3 with fail
 go_loopg [5, 6] (C.length) (fun g hv i wr => ∃ k : Nat, k ≤ C.length ∧ g = C.length - k ∧ i = .int .i64 k ∧ hv = .bool (hiddenB (reps (C.take k)) p) ∧ w = wr)
 case atStart => exact ⟨0, by omega, by omega, rfl, by simp [hiddenB], rfl⟩
 case round =>
  obtain ⟨k, hk, hgk, rfl, rfl, rfl⟩ := hrel
  by_cases hlt : k < C.length
  ·obtain ⟨b, off, hAe, hc⟩ := HA.out (by omega)
   subst hAe
   obtain ⟨_, _, _, c3, c4, _⟩ := range_at (hc k hlt)
   have i0 : (0 : Int) ≤ k := by omega
   have i1 : (k : Int) < C.length := by omega
   have hst := hid_step (reps C) p k (by simpa using hlt)
   rw [← List.map_take, ← List.map_take] at hst
   obtain ⟨x, hx⟩ : ∃ x, C[k].1 = x := ⟨_, rfl⟩
   have hx2 : (reps C)[k]'(by simpa using hlt) = x := by simp [hx]
   rw [hx2] at hst
   rw [hx] at c3 c4
   obtain ⟨h0, hh0⟩ : ∃ b, hiddenB (reps (C.take k)) p = b := ⟨_, rfl⟩
   have hst2 : hiddenB (reps (C.take (k + 1))) p = hidStep p h0 x := by rw [← hh0]; exact hst
   rw [hh0]
   have HST := hid hst2
   clear hc hst hst2 hx hx2 hh0
   by_cases hp : x.parcel = p
   ·have dp : (x.parcel == p) = true := beq_iff_eq.2 hp
    by_cases h5 : x.kind = 5
    ·have d5 : (x.kind == 5) = true := beq_iff_eq.2 h5
     have d6 : (x.kind == 6) = false := beq_eq_false_iff_ne.2 (by omega)
     have HZ : Hid (hiddenB (reps (C.take (k + 1))) p = true) := hid (by rw [HST.out, hidStep, if_pos hp, if_pos h5])
     clear hp h5
     go_wp2_with fail
     go_roundg (C.length - (k + 1))
     case measure => omega
     case rel => exact ⟨k + 1, by omega, rfl, by go_num, by rw [HZ.out], rfl⟩
    ·have d5 : (x.kind == 5) = false := beq_eq_false_iff_ne.2 h5
     by_cases h6 : x.kind = 6
     ·have d6 : (x.kind == 6) = true := beq_iff_eq.2 h6
      have HZ : Hid (hiddenB (reps (C.take (k + 1))) p = false) := hid (by rw [HST.out, hidStep, if_pos hp, if_neg h5, if_pos h6])
      clear hp h5 h6
      go_wp2_with fail
      go_roundg (C.length - (k + 1))
      case measure => omega
      case rel => exact ⟨k + 1, by omega, rfl, by go_num, by rw [HZ.out], rfl⟩
     ·have d6 : (x.kind == 6) = false := beq_eq_false_iff_ne.2 h6
      have HZ : Hid (hiddenB (reps (C.take (k + 1))) p = h0) := hid (by rw [HST.out, hidStep, if_pos hp, if_neg h5, if_neg h6])
      clear hp h5 h6
      go_wp2_with fail
      go_roundg (C.length - (k + 1))
      case measure => omega
      case rel => exact ⟨k + 1, by omega, rfl, by go_num, by rw [HZ.out], rfl⟩
   ·have dp : (x.parcel == p) = false := beq_eq_false_iff_ne.2 hp
    have HZ : Hid (hiddenB (reps (C.take (k + 1))) p = h0) := hid (by rw [HST.out, hidStep, if_neg hp])
    clear hp
    go_wp2_with fail
    go_roundg (C.length - (k + 1))
    case measure => omega
    case rel => exact ⟨k + 1, by omega, rfl, by go_num, by rw [HZ.out], rfl⟩
  ·obtain rfl : k = C.length := by omega
   go_wp2_with fail
   go_ret
   exact ⟨ret_bool (by rw [List.take_length]), rfl⟩
abbrev oil : ByteArray := { data := #[111, 105, 108] }
def b1 : Rep := ⟨1, 5, 2, 1, 0, 0, [], 7, { data := #[97, 98, 63] }, oil, 40, 60, 3, 0, 0⟩
def b2 : Rep := ⟨2, 6, 3, 1, 0, 0, [], 8, { data := #[97, 98, 99] }, oil, 10, 20, 4, 0, 0⟩
def b3 : Rep := ⟨3, 9, 8, 2, 10, 2, [], 0, .empty, .empty, 0, 0, 0, 0, 0⟩
def b4 : Rep := ⟨4, 12, 10, 3, 0, 0, [31, 20], 0, .empty, .empty, 0, 0, 0, 0, 0⟩
def b5 : Rep := ⟨5, 13, 12, 4, 40, 0, [], 0, .empty, .empty, 35, 45, 0, 0, 0⟩
def b6 : Rep := ⟨6, 14, 11, 4, 30, 0, [], 0, .empty, .empty, 30, 30, 0, 0, 0⟩
def beachE (A : Option Addr) (c : Nat) : List Ent := [(b1, none, 0), (b2, none, 0), (b3, none, 0), (b4, A, c), (b5, none, 0), (b6, none, 0)]
def beachR : List Rep := [b1, b2, b3, b4, b5, b6]
theorem beach_reps (A : Option Addr) (c : Nat) : reps (beachE A c) = beachR := rfl
theorem beach_valid : Valid beachR := by
 intro i hi
 have h : i = 0 ∨ i = 1 ∨ i = 2 ∨ i = 3 ∨ i = 4 ∨ i = 5 := by
  have : i < 6 := hi
  omega
 rcases h with rfl | rfl | rfl | rfl | rfl | rfl
 ·show follows [] b1 = 0; kernel_rfl
 ·show follows [b1] b2 = 0; kernel_rfl
 ·show follows [b1, b2] b3 = 0; kernel_rfl
 ·show follows [b1, b2, b3] b4 = 0; kernel_rfl
 ·show follows [b1, b2, b3, b4] b5 = 0; kernel_rfl
 ·show follows [b1, b2, b3, b4, b5] b6 = 0; kernel_rfl
theorem count20 (A : Option Addr) (c : Nat) : countE (beachE A c) 20 = beachE A c := by kernel_rfl
theorem count14 (A : Option Addr) (c : Nat) : countE (beachE A c) 14 = beachE A c := by kernel_rfl
theorem count13 (A : Option Addr) (c : Nat) : countE (beachE A c) 13 = [(b1, none, 0), (b2, none, 0), (b3, none, 0), (b4, A, c), (b5, none, 0)] := by kernel_rfl
theorem parcel40 (A : Option Addr) (c : Nat) : (parcelF (beachE A c) 40).from_ = 4 ∧ (parcelF (beachE A c) 40).goods = oil ∧ (parcelF (beachE A c) 40).mark = .empty ∧ (parcelF (beachE A c) 40).lo = 35 ∧ (parcelF (beachE A c) 40).hi = 45 := by
 refine ⟨?_, ?_, ?_, ?_, ?_⟩
 all_goals kernel_rfl
/-- The first five alone. -/
def beach5 (A : Option Addr) (c : Nat) : List Ent := [(b1, none, 0), (b2, none, 0), (b3, none, 0), (b4, A, c), (b5, none, 0)]
theorem made_isSome {C : List Ent} {p : Int} : (makerE C p).isSome = true ↔ p ∈ C.flatMap fun e => e.1.makes := by
 rw [List.mem_flatMap]
 constructor
 ·intro h
  obtain ⟨e, he⟩ := Option.isSome_iff_exists.1 h
  exact ⟨e, makerE_some he⟩
 ·rintro ⟨e, he, hp⟩
  rcases h : makerE C p with _ | _
  ·exact absurd hp (makerE_none h e he)
  ·rfl
abbrev ids5 : List Int := [10, 20, 30, 31, 40]
theorem ids_is {C : List Ent} (hm : (C.flatMap fun e => e.1.makes) = [10, 20, 30, 31, 40]) (hk : ids5.all (keepB C) = true) {ids : List Int} (h : IdsOf C ids) : ids = ids5 := by
 refine sorted_same h.1 (by decide) (fun p => ?_)
 rw [h.2 p, made_isSome, hm]
 constructor
 ·exact fun h => h.1
 ·exact fun h => ⟨h, List.all_eq_true.1 hk p h⟩
theorem beach_ids {A : Option Addr} {c : Nat} {ids : List Int} (h : IdsOf (beachE A c) ids) : ids = ids5 := ids_is (by kernel_rfl) (by kernel_rfl) h
theorem beach5_ids {A : Option Addr} {c : Nat} {ids : List Int} (h : IdsOf (beach5 A c) ids) : ids = ids5 := ids_is (by kernel_rfl) (by kernel_rfl) h
/-- What is reached, as a list that is closed. -/
theorem reach_list {nx : Int → List Int} {p : Int} {S : List Int} (hp : p ∈ S) (hc : S.all (fun a => (nx a).all fun y => decide (y ∈ S)) = true) (hr : ∀ x ∈ S, Reach nx p x) (x : Int) : Reach nx p x ↔ x ∈ S := by
 refine ⟨fun h => ?_, hr x⟩
 have hcl : ∀ a ∈ S, ∀ y ∈ nx a, y ∈ S := fun a ha y hy => by
  have h1 := List.all_eq_true.1 hc a ha
  have h2 := List.all_eq_true.1 h1 y hy
  exact of_decide_eq_true h2
 have : ∀ a b, Reach nx a b → a ∈ S → b ∈ S := fun a b h => by
  induction h with
  | refl => exact id
  | step hx _ ih => exact fun ha => ih (hcl _ ha _ hx)
 exact this p x h hp
theorem back40 (A : Option Addr) (c : Nat) (x : Int) : Reach (backL (beachE A c)) 40 x ↔ x ∈ [40, 31, 20, 10] := by
 have e1 : backL (beachE A c) 40 = [31, 20] := by kernel_rfl
 have e2 : backL (beachE A c) 31 = [10] := by kernel_rfl
 refine reach_list (by simp) (by kernel_rfl) (fun x hx => ?_) x
 simp only [List.mem_cons, List.not_mem_nil, or_false] at hx
 rcases hx with rfl | rfl | rfl | rfl
 ·exact .refl _
 ·exact .step (x := 31) (by rw [e1]; simp) (.refl _)
 ·exact .step (x := 20) (by rw [e1]; simp) (.refl _)
 ·exact .step (x := 31) (by rw [e1]; simp) (.step (x := 10) (by rw [e2]; simp) (.refl _))
theorem on10 (A : Option Addr) (c : Nat) (x : Int) : Reach (onL (beachE A c)) 10 x ↔ x ∈ [10, 30, 31, 40] := by
 have e1 : onL (beachE A c) 10 = [30, 31] := by kernel_rfl
 have e2 : onL (beachE A c) 31 = [40] := by kernel_rfl
 refine reach_list (by simp) (by kernel_rfl) (fun x hx => ?_) x
 simp only [List.mem_cons, List.not_mem_nil, or_false] at hx
 rcases hx with rfl | rfl | rfl | rfl
 ·exact .refl _
 ·exact .step (x := 30) (by rw [e1]; simp) (.refl _)
 ·exact .step (x := 31) (by rw [e1]; simp) (.refl _)
 ·exact .step (x := 31) (by rw [e1]; simp) (.step (x := 40) (by rw [e2]; simp) (.refl _))
theorem origins40 {A : Option Addr} {c : Nat} {ys : List Int} (hs : ys.Pairwise (· < ·)) (h : ∀ x, x ∈ ys ↔ (Reach (backL (beachE A c)) 40 x ∧ (pclOr (beachE A c) ids5 x).found = true)) : ys = [10, 20] := by
 have h1 : ([40, 31, 20, 10].filter fun x => (pclOr (beachE A c) ids5 x).found) = [20, 10] := by kernel_rfl
 refine sorted_same hs (by decide) (fun p => ?_)
 have h2 : p ∈ ([40, 31, 20, 10].filter fun x => (pclOr (beachE A c) ids5 x).found) ↔ p ∈ ([20, 10] : List Int) := by rw [h1]
 rw [List.mem_filter] at h2
 rw [h p, back40, h2]
 simp only [List.mem_cons, List.not_mem_nil, or_false]
 exact Or.comm
theorem remains10 {A : Option Addr} {c : Nat} {ys : List Int} (hs : ys.Pairwise (· < ·)) (h : ∀ x, x ∈ ys ↔ (Reach (onL (beachE A c)) 10 x ∧ (pclOr (beachE A c) ids5 x).into ≤ 0)) : ys = [30, 40] := by
 have h1 : ([10, 30, 31, 40].filter fun x => decide ((pclOr (beachE A c) ids5 x).into ≤ 0)) = [30, 40] := by kernel_rfl
 refine sorted_same hs (by decide) (fun p => ?_)
 have h2 : p ∈ ([10, 30, 31, 40].filter fun x => decide ((pclOr (beachE A c) ids5 x).into ≤ 0)) ↔ p ∈ ([30, 40] : List Int) := by rw [h1]
 rw [List.mem_filter, decide_eq_true_eq] at h2
 rw [h p, on10, h2]
theorem CheckIs.of_valid {l : List Rep} (hv : Valid l) {i e : Int} (h : CheckIs l i e) : e = 0 := by
 rcases h with ⟨_, _, rfl⟩ | ⟨k, hk, _, h2, h3, _⟩
 ·rfl
 ·exact absurd (h2.symm.trans (hv k hk)) h3
/-- On the beach nothing fails, where the parcels are there. -/
theorem beach_fails {L : List Ent} {K : Int} {ps : List Int} {en : Int} (hv : Valid (reps L)) (hi : ∀ ids, IdsOf (countE L K) ids → ∀ p ∈ ps, p ∈ ids) : ¬ FailsBy L K ps en := by
 rintro (⟨i, h1, h2⟩ | ⟨_, ids, h1, ⟨p, hp, hn⟩, _⟩)
 ·exact h2 (h1.of_valid hv)
 ·exact hn (hi ids h1 p hp)
def smallB (r : Rep) : Bool := decide (r.parts.length ≤ 12) && decide (r.mark.size ≤ 100) && decide (r.goods.size ≤ 100)
def fewB (L : List Rep) (most : Int) : Bool := (L.take 210).all smallB && (decide ((L.length : Int) ≤ most) || (decide (200 < L.length) && decide (L.length ≤ 203)))
theorem all_step {α : Type} (q : α → Bool) (l : List α) (k : Nat) (h : k < l.length) : (l.take (k + 1)).all q = ((l.take k).all q && q l[k]) := by
 rw [List.take_succ_eq_append_getElem h, List.all_append]
 simp
theorem range_few {w : World} {b o : Nat} {r : Rep} {A : Option Addr} {c : Nat} (h : w.rangeAt b o (r.cells A c).toList) :
  w.cell? ⟨b, o + 6, none⟩ = some (.slice A r.parts.length c) ∧ w.cell? ⟨b, o + 8, none⟩ = some (.string r.mark) ∧ w.cell? ⟨b, o + 9, none⟩ = some (.string r.goods) := ⟨h 6 _ rfl, h 8 _ rfl, h 9 _ rfl⟩
set_option maxHeartbeats 8000000 in
theorem few_any (A : Option Addr) (cap : Nat) (L : List Ent) (most : Int) (w : World) (hA : RowsAt w A L) (hm : 0 ≤ most) (hm2 : most ≤ 200) :
  Calls Tryz.prog 9 #[.slice A L.length cap, .int .i64 most] w fun e w' => e = .returned (.bool (fewB (reps L) most)) ∧ w' = w := by
 have HA := hid hA
 have hfb : fewB (reps L) most = (((reps L).take 210).all smallB && (decide ((L.length : Int) ≤ most) || (decide (200 < L.length) && decide (L.length ≤ 203)))) := by unfold fewB; simp
 obtain ⟨R, hR⟩ : ∃ R, fewB (reps L) most = R := ⟨_, rfl⟩
 rw [hR] at hfb ⊢
 have HFB := hid hfb
 clear hA hfb hR
 go_enter Tryz.func9, Tryz.ntmps9
 go_upto_region 2 with fail
 go_loopg [5] (210) (fun g i wr => ∃ k : Nat, k ≤ L.length ∧ k ≤ 210 ∧ g = 210 - k ∧ i = .int .i64 k ∧ Hid (((reps L).take k).all smallB = true) ∧ w = wr)
 case atStart => exact ⟨0, by omega, by omega, by omega, rfl, hid (by simp), rfl⟩
 case round =>
  obtain ⟨k, hk, hk2, hgk, rfl, hal, rfl⟩ := hrel
  by_cases hin : k < L.length ∧ k < 210
  ·obtain ⟨hlt, hlt2⟩ := hin
   obtain ⟨b, off, hAe, hc⟩ := HA.out (by omega)
   subst hAe
   obtain ⟨c6, c8, c9⟩ := range_few (hc k hlt)
   have i0 : (0 : Int) ≤ k := by omega
   have i1 : (k : Int) < L.length := by omega
   have i2 : (k : Int) < 210 := by omega
   have hkr : k < (reps L).length := by simpa using hlt
   have hst := all_step smallB (reps L) k hkr
   rw [hal.out, Bool.true_and] at hst
   have hry : (reps L)[k] = L[k].1 := by simp
   rw [hry] at hst
   have hno : smallB L[k].1 = false → ((reps L).take 210).all smallB = false := fun h => List.all_eq_false.2 ⟨L[k].1, by rw [← hry]; exact take_mem hkr hlt2, by rw [h]; decide⟩
   obtain ⟨⟨x, P, c⟩, hx⟩ : ∃ y, L[k] = y := ⟨_, rfl⟩
   rw [hx] at c6 c8 c9 hst hno
   dsimp only at c6 c8 c9 hst hno
   have HST := hid hst
   have HNO : Hid (smallB x = false → R = false) := hid (fun h => by rw [HFB.out, hno h, Bool.false_and])
   have HSB : Hid (smallB x = (decide (x.parts.length ≤ 12) && decide (x.mark.size ≤ 100) && decide (x.goods.size ≤ 100))) := hid rfl
   clear hc hkr hst hry hno hx
   by_cases h1 : 12 < (x.parts.length : Int)
   ·have d1 : decide (12 < (x.parts.length : Int)) = true := decide_eq_true h1
    have HZ := hid (HNO.out (by rw [HSB.out, decide_eq_false (by omega)]; rfl))
    clear h1
    go_wp2_with fail
    go_ret
    exact ⟨ret_bool HZ.out.symm, rfl⟩
   have d1 : decide (12 < (x.parts.length : Int)) = false := decide_eq_false h1
   by_cases h2 : 100 < (x.mark.size : Int)
   ·have d2 : decide (100 < (x.mark.size : Int)) = true := decide_eq_true h2
    have HZ := hid (HNO.out (by rw [HSB.out, decide_eq_false (p := x.mark.size ≤ 100) (by omega)]; simp))
    clear h1 h2
    go_wp2_with fail
    go_ret
    exact ⟨ret_bool HZ.out.symm, rfl⟩
   have d2 : decide (100 < (x.mark.size : Int)) = false := decide_eq_false h2
   by_cases h3 : 100 < (x.goods.size : Int)
   ·have d3 : decide (100 < (x.goods.size : Int)) = true := decide_eq_true h3
    have HZ := hid (HNO.out (by rw [HSB.out, decide_eq_false (p := x.goods.size ≤ 100) (by omega)]; simp))
    clear h1 h2 h3
    go_wp2_with fail
    go_ret
    exact ⟨ret_bool HZ.out.symm, rfl⟩
   have d3 : decide (100 < (x.goods.size : Int)) = false := decide_eq_false h3
   have HZ : Hid (smallB x = true) := hid (by rw [HSB.out, decide_eq_true (p := x.parts.length ≤ 12) (by omega), decide_eq_true (p := x.mark.size ≤ 100) (by omega), decide_eq_true (p := x.goods.size ≤ 100) (by omega)]; rfl)
   clear h1 h2 h3
   go_wp2_with fail
   go_roundg (210 - (k + 1))
   case measure => omega
   case rel => exact ⟨k + 1, by omega, by omega, rfl, by go_num, hid (by rw [HST.out, HZ.out]), rfl⟩
  ·have hall : ((reps L).take 210).all smallB = true := by
    rcases Nat.lt_or_ge k L.length with h | h
    ·have hk3 : k = 210 := by omega
     rw [← hk3]
     exact hal.out
    ·have h2 := hal.out
     rw [List.take_of_length_le (by simp; omega)] at h2
     exact List.all_eq_true.2 (fun x hx => List.all_eq_true.1 h2 x (List.mem_of_mem_take hx))
   have HR : Hid (R = (decide ((L.length : Int) ≤ most) || (decide (200 < L.length) && decide (L.length ≤ 203)))) := hid (by rw [HFB.out, hall, Bool.true_and])
   clear hall
   have i0 : (0 : Int) ≤ k := by omega
   rcases Nat.lt_or_ge k L.length with hkl | hkl
   ·have hk3 : k = 210 := by omega
    subst hk3
    have a1 : ((210 : Nat) : Int) < L.length := by omega
    have a2 : ¬ (L.length : Int) ≤ most := by omega
    have a3 : ¬ (L.length : Int) ≤ 203 := by omega
    have a4 : 200 < (L.length : Int) := by omega
    go_wp2_with fail
    go_ret
    exact ⟨ret_bool (by rw [HR.out]; simp; omega), rfl⟩
   ·obtain rfl : k = L.length := by omega
    by_cases a2 : (L.length : Int) ≤ most
    ·go_wp2_with fail
     go_ret
     exact ⟨ret_bool (by rw [HR.out]; simp; omega), rfl⟩
    ·by_cases a4 : 200 < (L.length : Int)
     ·go_wp2_with fail
      go_ret
      exact ⟨ret_bool (by rw [HR.out, Bool.eq_iff_iff]; simp; omega), rfl⟩
     ·go_wp2_with fail
      go_ret
      exact ⟨ret_bool (by rw [HR.out]; simp; omega), rfl⟩
theorem build_six {ops : Array Oper} {rest : List Oper} {o : Oper} {a : Act} {w : World} {Q : Exit → Act → World → Prop} (hgd : o.guard = none) (x0 x1 x2 x3 x4 x5 : Operand) (ho : o.op = .buildSlice 22 6 #[(0, x0), (1, x1), (2, x2), (3, x3), (4, x4), (5, x5)])
  {A : Option Addr} {c : Nat} (h0 : a.eval x0 = b1.val none 0) (h1' : a.eval x1 = b2.val none 0) (h2' : a.eval x2 = b3.val none 0) (h3' : a.eval x3 = b4.val A c) (h4' : a.eval x4 = b5.val none 0) (h5' : a.eval x5 = b6.val none 0)
  (h : wpList Tryz.prog ops Q rest (a.put o.dst (.slice (some ⟨w.heap.size, 0, none⟩) 6 6)) (w.alloc (.cells (flat (beachE A c)).toArray 46))) : wpList Tryz.prog ops Q (o :: rest) a w := by
 obtain ⟨i, z, h1, h2, h3, h4, h5⟩ := reps_info
 refine wpList_buildSlice hgd _ _ 6 _ ho (flat (beachE A c)).toArray i z repsl_u h1 h2 (by omega) (by omega) ?_ h
 rw [h3]
 have h6 := Great.fill_whole (s := 15) (by omega) [b1.val none 0, b2.val none 0, b3.val none 0, b4.val A c, b5.val none 0, b6.val none 0] ((Array.range (6 * 15)).map (z.cells[· % z.cells.size]!)) (by intro v hv; simp only [List.mem_cons, List.not_mem_nil, or_false] at hv; rcases hv with rfl | rfl | rfl | rfl | rfl | rfl <;> rfl) (by simp)
 have h7 : ((#[(0, x0), (1, x1), (2, x2), (3, x3), (4, x4), (5, x5)] : Array (Nat × Operand)).map fun (i, x) => (i, a.eval x)).toList = (([b1.val none 0, b2.val none 0, b3.val none 0, b4.val A c, b5.val none 0, b6.val none 0].zipIdx 0).map fun x => (x.2, x.1)) := by
  simp [h0, h1', h2', h3', h4', h5']
 rw [h7, h6]
 simp [Value.cells, flat, beachE]
theorem beach_cells (w : World) (A : Option Addr) (c : Nat) : CellsAt (w.alloc (.cells (flat (beachE A c)).toArray 46)) (some ⟨w.heap.size, 0, none⟩) (flat (beachE A c)) := fun _ => ⟨w.heap.size, 0, rfl, fun j v hj => by
 rw [Nat.zero_add, cell_new]
 simpa using hj⟩
theorem ints_lit (w : World) (p q : Int) : IntsAt (w.alloc (.cells #[.int .i64 p, .int .i64 q] 3)) (some ⟨w.heap.size, 0, none⟩) [p, q] := fun _ => ⟨w.heap.size, 0, rfl, fun j hj => by
 have h : j = 0 ∨ j = 1 := by simp at hj; omega
 rcases h with rfl | rfl <;> simp⟩
set_option maxHeartbeats 8000000 in
theorem beach_any (w : World) : Calls Tryz.prog 44 #[] w fun e w' => ∃ A c B k, e = .returned (.slice B (beachE A c).length k) ∧ (beachE A c).length ≤ k ∧ EntsAt w' B (beachE A c) ∧ Below w.heap.size w w' := by
 go_enter Tryz.func44, Tryz.ntmps44
 go_wp2_with (first | refine build_six rfl _ _ _ _ _ _ rfl (A := some ⟨w.heap.size, 0, none⟩) (c := 2) rfl rfl rfl rfl rfl rfl ?_)
 go_ret
 obtain ⟨W, hW⟩ : ∃ W, w.alloc (.cells #[.int .i64 31, .int .i64 20] 3) = W := ⟨_, rfl⟩
 have hi : IntsAt W (some ⟨w.heap.size, 0, none⟩) [31, 20] := by rw [← hW]; exact ints_lit w 31 20
 have hz : W.heap.size = w.heap.size + 1 := by rw [← hW]; simp
 have hb : Below w.heap.size w W := by rw [← hW]; exact (Below.refl _ _).alloc (Nat.le_refl _) _
 have hb2 : Below W.heap.size W (W.alloc (.cells (flat (beachE (some ⟨w.heap.size, 0, none⟩) 2)).toArray 46)) := (Below.refl _ _).alloc (Nat.le_refl _) _
 refine ⟨some ⟨w.heap.size, 0, none⟩, 2, _, 6, rfl, by simp [beachE], ?_, ?_⟩
 ·first
   | (rw [hW, ← hz]
      refine ⟨rows_of_cells (beach_cells W _ _), fun e he => ?_⟩
      simp only [beachE, List.mem_cons, List.not_mem_nil, or_false] at he
      rcases he with rfl | rfl | rfl | rfl | rfl | rfl
      · exact ⟨IntsAt.nil _ _, by decide, by decide⟩
      · exact ⟨IntsAt.nil _ _, by decide, by decide⟩
      · exact ⟨IntsAt.nil _ _, by decide, by decide⟩
      · exact ⟨hi.kept (Kept.of_below hb2), Nat.le_refl _, (by decide : (2 : Nat) ≤ 100)⟩
      · exact ⟨IntsAt.nil _ _, by decide, by decide⟩
      · exact ⟨IntsAt.nil _ _, by decide, by decide⟩)
 ·rw [hW]
  exact hb.trans (hb2.mono hb.size)
section
open Go.RowKit Go.Shelf
attribute [local go_sem] Oper.semAt_some
structure Arc where
 parcel : Int
 from_ : Int
 to_ : Int
 lo : Int
 hi : Int
 deriving DecidableEq
def Arc.cells (a : Arc) : Array Value := #[.int .i64 a.parcel, .int .i64 a.from_, .int .i64 a.to_, .int .i64 a.lo, .int .i64 a.hi]
abbrev Arc.val (a : Arc) : Value := .agg a.cells
def arcF (C : List Ent) (p : Int) : Arc := ⟨p, if (parcelF C p).found then 0 else (parcelF C p).from_, (parcelF C p).into, (parcelF C p).lo, (parcelF C p).hi⟩
def arcsF (C : List Ent) (ids : List Int) : List Arc := ids.map (arcF C)
def ArcIs (w : World) (b : Nat) (a : Arc) : Prop := w.heap[b]? = some (.cells a.cells 102 (0, 0))
theorem arc_info : (Tryz.prog.info? 102).map (·.size) = some 5 := by kernel_rfl
theorem arc_one (a : Arc) : a.cells.all (·.oneCell') = true := by simp [Arc.cells, Value.oneCell']
theorem ArcIs.lt {w : World} {g : Nat} {a : Arc} (h : ArcIs w g a) : g < w.heap.size := (Array.getElem?_eq_some_iff.1 h).1
theorem ArcIs.below {w w' : World} {g : Nat} {a : Arc} (h : ArcIs w g a) (hb : Below w.heap.size w w') : ArcIs w' g a := (hb.block g h.lt).trans h
theorem ArcIs.at_ {w : World} {g : Nat} {a : Arc} (h : ArcIs w g a) : w.cell? ⟨g, 0, none⟩ = some (.int .i64 a.parcel) ∧ w.cell? ⟨g, 1, none⟩ = some (.int .i64 a.from_) ∧ w.cell? ⟨g, 2, none⟩ = some (.int .i64 a.to_) ∧ w.cell? ⟨g, 3, none⟩ = some (.int .i64 a.lo) ∧ w.cell? ⟨g, 4, none⟩ = some (.int .i64 a.hi) := by
 unfold ArcIs at h
 simp [World.cell?, h, Arc.cells]
theorem ArcIs.loose {w : World} {g : Nat} {a : Arc} (h : ArcIs w g a) (i : Nat) : w.frozen? ⟨g, i, none⟩ = false := by
 unfold ArcIs at h
 simp [World.frozen?, h]
theorem ArcIs.other {w : World} {g k i : Nat} {v : Value} {a : Arc} (h : ArcIs w g a) (hne : g ≠ k) : ArcIs (w.setCell ⟨k, i, none⟩ v) g a := (setCell_ne w hne).trans h
theorem load_arc {ops : Array Oper} {rest : List Oper} {o : Oper} {a : Act} {w : World} {Q : Exit → Act → World → Prop} (hgd : o.guard = none) (x : Operand) (ho : o.op = .load 102 x)
  (g : Nat) (hx : a.eval x = .pointer (some ⟨g, 0, none⟩)) {q : Arc} (hg : ArcIs w g q)
  (h : wpList Tryz.prog ops Q rest (a.put o.dst q.val) w) : wpList Tryz.prog ops Q (o :: rest) a w :=
 wpList_load_row hgd _ x ho g hx _ q.cells (0, 0) _ hg Tryz.underlying102 rfl arc_info h
theorem wpListIn_load_row {F : Fence} {n : Nat} {P : Program} {ops : Array Oper} {rest : List Oper} {o : Oper} {a : Act} {w : World} {Q : Exit → Act → World → Prop} (hgd : o.guard = none) (ty : TypeId) (x : Operand) (ho : o.op = .load ty x)
  (g : Nat) (hx : a.eval x = .pointer (some ⟨g, 0, none⟩)) (t : TypeId) (cs : Array Value) (fr : Nat × Nat) (d : TypeDesc) (hg : w.heap[g]? = some (.cells cs t fr))
  (hu : P.underlying ty = some d) (hd : (match d with | .struct _ | .array _ _ => true | _ => false) = true) (hi : (P.info? ty).map (·.size) = some cs.size)
  (h : wpListIn F n P ops Q rest (a.put o.dst (.agg cs)) w) : wpListIn F n P ops Q (o :: rest) a w := by
 refine wpListIn_plain hgd fun K hK => ?_
 unfold Oper.wpIn
 refine ⟨?_, ?_⟩
 ·simp [Oper.about, ho]
 ·rw [Oper.semAt_plain F _ _ (by rw [ho]; intro c hc'; cases hc')]
  unfold execOp
  simp only [ho, hx, Instr.loadAt, Instr.sureAddr, Sem.run_bind, Sem.run_pure, Result.andThen_ok, run_loadVar_row w g t ty cs fr d hg hu hd hi]
  exact hK _ _ h
theorem load_arcIn {F : Fence} {n : Nat} {ops : Array Oper} {rest : List Oper} {o : Oper} {a : Act} {w : World} {Q : Exit → Act → World → Prop} (hgd : o.guard = none) (x : Operand) (ho : o.op = .load 102 x)
  (g : Nat) (hx : a.eval x = .pointer (some ⟨g, 0, none⟩)) {q : Arc} (hg : ArcIs w g q)
  (h : wpListIn F n Tryz.prog ops Q rest (a.put o.dst q.val) w) : wpListIn F n Tryz.prog ops Q (o :: rest) a w :=
 wpListIn_load_row hgd _ x ho g hx _ q.cells (0, 0) _ hg Tryz.underlying102 rfl arc_info h
theorem store_arc_new {ops : Array Oper} {rest : List Oper} {o : Oper} {a : Act} {w : World} {Q : Exit → Act → World → Prop} (hgd : o.guard = none) (x y : Operand) (ho : o.op = .store 102 x y)
  {g : Nat} (hx : a.eval x = .pointer (some ⟨g, 0, none⟩)) (hgw : g = w.heap.size) {q : Arc} {cs : Array Value} (hy : a.eval y = .agg cs) (hq : cs = q.cells) {zs : Array Value} (hs : zs.size = 5)
  (h : ∀ W, ArcIs W g q → Below w.heap.size w W → w.heap.size < W.heap.size → wpList Tryz.prog ops Q rest (a.put o.dst undef) W) : wpList Tryz.prog ops Q (o :: rest) a (w.alloc (.cells zs 102)) := by
 subst hgw hq
 refine wpList_store_row hgd _ x y ho w.heap.size q.cells hx hy _ zs (heap_alloc_new w _) arc_info (hs.trans rfl) (arc_one q) (h _ (setRow_heap _ _ _ _ _ _ (heap_alloc_new w _)) (below_setRow ((Below.refl _ _).alloc (Nat.le_refl _) _) (Nat.le_refl _) _) ?_)
 simp
theorem store_arc_newIn {F : Fence} {n : Nat} {ops : Array Oper} {rest : List Oper} {o : Oper} {a : Act} {w : World} {Q : Exit → Act → World → Prop} (hgd : o.guard = none) (x y : Operand) (ho : o.op = .store 102 x y)
  {g : Nat} (hx : a.eval x = .pointer (some ⟨g, 0, none⟩)) (hgw : g = w.heap.size) {q : Arc} {cs : Array Value} (hy : a.eval y = .agg cs) (hq : cs = q.cells) {zs : Array Value} (hs : zs.size = 5)
  (h : ∀ W, ArcIs W g q → Below w.heap.size w W → w.heap.size < W.heap.size → wpListIn F n Tryz.prog ops Q rest (a.put o.dst undef) W) : wpListIn F n Tryz.prog ops Q (o :: rest) a (w.alloc (.cells zs 102)) := by
 subst hgw hq
 refine wpListIn_store_row hgd _ x y ho w.heap.size q.cells hx hy _ zs (heap_alloc_new w _) arc_info (hs.trans rfl) (arc_one q) (h _ (setRow_heap _ _ _ _ _ _ (heap_alloc_new w _)) (below_setRow ((Below.refl _ _).alloc (Nat.le_refl _) _) (Nat.le_refl _) _) ?_)
 simp
theorem arcsF_take (C : List Ent) (ids : List Int) (k : Nat) (h : k < ids.length) : arcsF C (ids.take (k + 1)) = arcsF C (ids.take k) ++ [arcF C ids[k]] := by
 unfold arcsF
 rw [List.take_succ_eq_append_getElem h, List.map_append]
 rfl
theorem arcsF_pre (C : List Ent) (ids : List Int) (k : Nat) : arcsF C (ids.take k) <+: arcsF C ids := by
 unfold arcsF
 exact (List.take_prefix k ids).map _
set_option maxHeartbeats 8000000 in
theorem arcs1_in (n : Nat) (hn : 1 ≤ n) (l B1 : Nat) (w0 : World) {bb s r1 r2 r3 r4 : Nat} {A : Option Addr} {cap : Nat} {C : List Ent} {ids : List Int} (h : LooksAt w0 bb s r1 r2 r3 r4 A cap C ids) (hil : ids.length ≤ 100000)
  (J Jx : List Arc → World → Prop) (W : World) (hJ : AbidesFrom W.heap.size J)
  (hY : ∀ pre (x : Arc) W1, J pre W1 → pre.length < ids.length → YieldAt Fence.wide (n - 1) Tryz.prog l #[x.val] W1 fun e W' =>
   (e = .returned (.bool true) ∧ J (pre ++ [x]) W' ∧ Keep2 w0.heap.size B1 B1 W1 W') ∨ (e = .returned (.bool false) ∧ Jx (pre ++ [x]) W'))
  (hW : Below w0.heap.size w0 W) (hB1 : W.cell? ⟨B1, 0, none⟩ = some (.pointer (some ⟨bb, 0, none⟩))) (h0 : J [] W) :
  Calls Tryz.prog 112 #[.func (.yield l) #[] #[], .pointer (some ⟨B1, 0, none⟩)] W fun e W' => (∃ v, e = .returned v) ∧
   ((∃ ys, ys = arcsF C ids ∧ J ys W') ∨ (∃ pre, pre <+: arcsF C ids ∧ Jx pre W')) := by
 have HL := hid h
 have HJ := hid hJ
 have HY := hid hY
 have HW := hid hW
 have HB1 := hid hB1
 have HJ0 := hid h0
 obtain ⟨_, ⟨Ai, ci, c1', hI, hci⟩, _⟩ := h.cells
 have c1 := Kept.of_below hW _ _ c1'
 clear c1'
 have HI := hid hI
 have HCI := hid hci
 clear h hJ hY hW h0 hI hci
 go_enter Tryz.func112, Tryz.ntmps112
 go_wp2_with fail
 clear c1 hB1
 go_loopg [12] (ids.length) (fun g i wr => ∃ k : Nat, k ≤ ids.length ∧ g = ids.length - k ∧ i = .int .i64 k ∧ Hid (J (arcsF C (ids.take k)) wr) ∧ Hid (Keep2 w0.heap.size B1 B1 W wr))
 case atStart => exact ⟨0, by omega, by omega, rfl, HJ0, hid (Keep2.r _)⟩
 case round =>
  obtain ⟨k, hk, hgk, rfl, hj, hkp⟩ := hrel
  by_cases hlt : k < ids.length
  ·have hbw := HW.out.trans hkp.out.1
   have hL := HL.out.below hbw
   obtain ⟨_, _, c2⟩ := hL.cells
   obtain ⟨b, off, hAe, hc⟩ := (HI.out.kept (Kept.of_below hbw)) (by omega)
   subst hAe
   have hck := hc k hlt
   have i0 : (0 : Int) ≤ k := by omega
   have i1 : (k : Int) < ids.length := by omega
   have hst := arcsF_take C ids k hlt
   have hpre := arcsF_pre C ids (k + 1)
   have hfl : (arcsF C (ids.take k)).length < ids.length := by simp [arcsF]; omega
   have hlk := hL.look ids[k]
   rw [pclOr_in (List.getElem_mem hlt)] at hlk
   obtain ⟨p, hp⟩ : ∃ p, ids[k] = p := ⟨_, rfl⟩
   rw [hp] at hck hst hlk
   have har : arcF C p = ⟨p, if (parcelF C p).found then 0 else (parcelF C p).from_, (parcelF C p).into, (parcelF C p).lo, (parcelF C p).hi⟩ := rfl
   obtain ⟨q, hq⟩ : ∃ q, parcelF C p = q := ⟨_, rfl⟩
   rw [hq] at har hlk
   obtain ⟨F, hF⟩ : ∃ F, arcsF C (ids.take k) = F := ⟨_, rfl⟩
   rw [hF] at hst hj hfl
   have HST := hid hst
   have HPRE := hid hpre
   have HAR := hid har
   have HFL := hid hfl
   have hn0 := HW.out.size
   have hb1 := hkp.out.2.1 _ HB1.out
   clear hbw hL hc hst hpre har hfl hp hq hF
   go_upto_region 4 with (first | (refine store_pcl_new rfl _ _ rfl rfl rfl (q := q) rfl rfl ?_; intro W2 hpx hbx hltx; have HJ2 := hid (abides_below HJ.out hj.out hbx); have HK2 := hid (hkp.out.below hn0 hbx); have HP2 := hid hpx; obtain ⟨_, q1, q2, _, _, q5, q6, _, _, _, q10, _⟩ := hpx.at_; clear hbx hpx))
   clear c2 hck hb1
   go_upto_region 5 with (first | (refine store_arc_new rfl _ _ rfl rfl rfl (q := ⟨p, q.from_, q.into, q.lo, q.hi⟩) rfl rfl rfl ?_; intro W3 hax hbx hltx; have HB3 := hid hbx; have HA3 := hid hax; have HP3 := hid (HP2.out.below hbx); have hs2 := hbx.size; clear hbx hax))
   clear q1 q2 q5 q6 q10
   obtain ⟨_, _, _, _, _, _, _, _, _, _, q10, _⟩ := HP3.out.at_
   have f1 := HA3.out.loose 1
   have a1 := HA3.out.at_.2.1
   have hHB3 := HB3.out
   have haw : ∀ wx, ArcIs wx W2.heap.size (if q.found then ⟨p, 0, q.into, q.lo, q.hi⟩ else ⟨p, q.from_, q.into, q.lo, q.hi⟩) → ArcIs wx W2.heap.size ⟨p, if q.found then 0 else q.from_, q.into, q.lo, q.hi⟩ := fun wx h => by
    rcases hqf : q.found with _ | _ <;> rw [hqf] at h <;> simpa using h
   have HAW := hid haw
   clear haw
   obtain ⟨fo, hfo⟩ : ∃ fo, q.found = fo := ⟨_, rfl⟩
   rw [hfo] at q10
   have HFO := hid hfo
   clear hfo
   go_frame
   go_upto_if 35 with (fail)
   go_cut [] from 34 to 37 (fun wx => ArcIs wx W2.heap.size ⟨p, if q.found then 0 else q.from_, q.into, q.lo, q.hi⟩ ∧ Below W2.heap.size W2 wx)
   case first =>
    rcases fo with _ | _
    ·go_wp2_with fail
     go_meet
     case rel => exact ⟨HAW.out _ (by rw [HFO.out]; exact HA3.out), HB3.out⟩
    ·go_wp2_with fail
     go_meet
     case rel =>
      refine ⟨HAW.out _ ?_, HB3.out.setCell (p := ⟨W2.heap.size, 1, none⟩) (Nat.le_refl _) _⟩
      rw [HFO.out]
      have := HA3.out
      unfold ArcIs at this ⊢
      exact block_set this
   case rest =>
    obtain ⟨hax, hbx⟩ := hcut
    have hax2 : ArcIs wc W2.heap.size (arcF C p) := by rw [HAR.out]; exact hax
    have HAX := hid hax2
    have HJ4 := hid (abides_below HJ.out HJ2.out hbx)
    have HK4 := hid (HK2.out.below hn0 hbx)
    have HY2 : Hid (YieldAt Fence.wide (n - 1) Tryz.prog l #[(arcF C p).val] wc fun e W' => ∃ b, e = .returned (.bool b) ∧ ((b = true ∧ J (F ++ [arcF C p]) W' ∧ Keep2 w0.heap.size B1 B1 wc W') ∨ (b = false ∧ Jx (F ++ [arcF C p]) W'))) := hid (YieldAt.mono (HY.out F (arcF C p) wc HJ4.out HFL.out) (fun e w' h => by
     rcases h with ⟨rfl, h1, h2⟩ | ⟨rfl, h1⟩
     ·exact ⟨true, rfl, .inl ⟨rfl, h1, h2⟩⟩
     ·exact ⟨false, rfl, .inr ⟨rfl, h1⟩⟩))
    obtain ⟨fn, tmps, assign, body, hy, hR⟩ := HY2.out
    clear hax hax2 hbx hHB3 q10 f1 a1 HAW
    go_upto_region 7 with fail
    go_cut [40] from 37 to 40 (fun s40 wx => (s40 = .bool false ∧ J (F ++ [arcF C p]) wx ∧ Keep2 w0.heap.size B1 B1 W wx) ∨ (s40 = .bool true ∧ Jx (F ++ [arcF C p]) wx))
    case first =>
     refine (wpIn_wide (n := n)).1 ?_
     gi_wp2_with (first
      | refine load_arcIn rfl _ rfl _ rfl HAX.out ?_
      | (refine hR.mono ?_
         rintro e w4 ⟨bo, rfl, hout⟩))
     go_meet
     case rel =>
      rcases hout with ⟨rfl, h1, h2⟩ | ⟨rfl, h1⟩
      ·exact .inl ⟨rfl, h1, HK4.out.t h2⟩
      ·exact .inr ⟨rfl, h1⟩
    case rest =>
     rcases hcut with ⟨rfl, hj9, hk9⟩ | ⟨rfl, hj9⟩
     ·have HJ9 := hid hj9
      have HK9 := hid hk9
      clear hj9 hk9
      go_wp2_with fail
      go_roundg (ids.length - (k + 1))
      case measure => omega
      case rel => exact ⟨k + 1, by omega, rfl, by go_num, by rw [HST.out]; exact HJ9, HK9⟩
     ·have HJ9 := hid hj9
      clear hj9
      go_wp2_with fail
      refine bodyPost_ret (results_none rfl _ _ _) rfl ?_
      refine ⟨⟨_, rfl⟩, .inr ⟨F ++ [arcF C p], ?_, HJ9.out⟩⟩
      have := HPRE.out
      rw [HST.out] at this
      exact this
  ·obtain rfl : k = ids.length := by omega
   have hj2 := hj.out
   rw [List.take_length] at hj2
   have HJ2 := hid hj2
   clear hj2
   go_wp2_with fail
   go_end0
   exact ⟨⟨_, rfl⟩, .inl ⟨_, rfl, HJ2.out⟩⟩
end
end Go.Proofs.YtfaoillnakhejaaGreat
