/- The reference: rows of parcels; of, Parcels; The reference: Origins, Remains: what they answer; The searches of the engine and of the reference say the same (plain). -/
import Derived.Test.YtfaoillnakhejaaGreatH12
import Derived.Test.YtfaoillnakhejaaGreatH15
import Derived.Test.YtfaoillnakhejaaGreatH7
import Derived.Deep.CutRange
import Derived.Test.YtfaoillnakhejaaGreatH13
import Derived.Test.YtfaoillnakhejaaGreatH9
namespace Go.Proofs.YtfaoillnakhejaaGreat
set_option maxRecDepth 100000
open Go.RowKit
/-- Where a parcel stands in a list. -/
def OfIs (D : List Pcl) (p : Int) (i : Int) : Prop := (i = -1 ∧ ∀ q ∈ D, q.id ≠ p) ∨ ∃ k : Nat, ∃ h : k < D.length, i = k ∧ D[k].id = p
set_option maxHeartbeats 4000000 in
theorem rof_any (A : Option Addr) (cap : Nat) (D : List Pcl) (p : Int) (w : World) (hA : PclsAt w A D) (hl : D.length ≤ 10000) :
  Calls Tryz.prog 52 #[.slice A D.length cap, .int .i64 p] w fun e w' => (∃ i, e = .returned (.int .i64 i) ∧ OfIs D p i) ∧ w' = w := by
 have HA := hid hA
 clear hA
 go_enter Tryz.func52, Tryz.ntmps52
 go_upto_region 2 with fail
 go_loopg [5] (D.length) (fun g i wr => ∃ k : Nat, k ≤ D.length ∧ g = D.length - k ∧ i = .int .i64 k ∧ Hid (∀ q ∈ D.take k, q.id ≠ p) ∧ w = wr)
 case atStart => exact ⟨0, by omega, by omega, rfl, hid (by simp), rfl⟩
 case round =>
  obtain ⟨k, hk, hgk, rfl, hno, rfl⟩ := hrel
  by_cases hlt : k < D.length
  ·obtain ⟨b, off, hAe, hc⟩ := HA.out (by omega)
   subst hAe
   obtain ⟨c0, _⟩ := prange_at (hc k hlt)
   have i0 : (0 : Int) ≤ k := by omega
   have i1 : (k : Int) < D.length := by omega
   have hsn : D.take (k + 1) = D.take k ++ [D[k]] := List.take_succ_eq_append_getElem hlt
   obtain ⟨x, hx⟩ : ∃ x, D[k].id = x := ⟨_, rfl⟩
   rw [hx] at c0
   have HSN := hid hsn
   have HX := hid hx
   clear hc hsn hx
   by_cases hp : x = p
   ·have dp : (x == p) = true := beq_iff_eq.2 hp
    have HP := hid hp
    clear hp
    go_wp2_with fail
    go_ret
    exact ⟨⟨_, rfl, .inr ⟨k, hlt, rfl, HX.out.trans HP.out⟩⟩, rfl⟩
   ·have dp : (x == p) = false := beq_eq_false_iff_ne.2 hp
    have HP := hid hp
    clear hp
    go_wp2_with fail
    go_roundg (D.length - (k + 1))
    case measure => omega
    case rel => exact ⟨k + 1, by omega, rfl, by go_num, hid (by
     rw [HSN.out]
     intro q hq
     rcases List.mem_append.1 hq with h | h
     ·exact hno.out q h
     ·rw [List.mem_singleton] at h
      subst h
      rw [HX.out]
      exact HP.out), rfl⟩
  ·obtain rfl : k = D.length := by omega
   have h2 := hno.out
   rw [List.take_length] at h2
   have HN := hid h2
   clear h2
   go_wp2_with fail
   go_ret
   exact ⟨⟨_, rfl, .inl ⟨rfl, HN.out⟩⟩, rfl⟩
def IsD (C : List Ent) (q : Pcl) : Prop := ∃ o, (∀ x, x ∈ o ↔ Reach (nxL (reps C) sameG) q.id x) ∧ q = rdescF C q.id o
/-- What the reference's Parcels hands back where reports are valid. -/
structure PclsOf (C : List Ent) (D : List Pcl) : Prop where
 ids : (D.map (·.id)).Pairwise (· < ·)
 mem : ∀ p, p ∈ D.map (·.id) ↔ rkeepB C p = true
 is : ∀ q ∈ D, IsD C q
 len : D.length ≤ 8 * C.length
def RParcelsPost (L : List Ent) (K : Int) (w : World) (e : Ending) (w' : World) : Prop :=
 Below w.heap.size w w' ∧ ((∃ i en, CheckIs (reps L) i en ∧ en ≠ 0 ∧ e = .returned (.tuple #[.slice none 0 0, .int .i64 en])) ∨
  (Valid (reps L) ∧ ∃ D v, PclsOf (countE L K) D ∧ e = .returned (.tuple #[v, .int .i64 0]) ∧ w'.ownsRow w.heap.size 38 12 v D.length (flatP D)))
theorem makes_sum {C : List Ent} (h : ∀ e ∈ C, e.1.Wf) : (C.flatMap fun e => e.1.makes).length ≤ 8 * C.length := by
 induction C with
 | nil => simp
 | cons a L ih =>
  have h1 := makes_len _ (h a (by simp))
  have h2 := ih (fun e he => h e (by simp [he]))
  simp only [List.flatMap_cons, List.length_append, List.length_cons]
  omega
theorem rmade_iff {C : List Ent} {p : Int} : (p ∈ C.flatMap fun e => e.1.makes) ↔ (makerR C p).isSome = true := by
 unfold makerR
 rw [List.find?_isSome, List.mem_flatMap]
 simp
set_option maxHeartbeats 16000000 in
theorem rparcels_any (A : Option Addr) (cap : Nat) (L : List Ent) (K : Int) (w : World) (hA : EntsAt w A L) (hl : L.length ≤ 210) (hcap : L.length ≤ cap) (hz : ∀ e ∈ L, e.1.mark.size ≤ 1000000 ∧ e.1.goods.size ≤ 1000000) :
  Calls Tryz.prog 38 #[.slice A L.length cap, .int .i64 K] w (RParcelsPost L K w) := by
 have HCO := hid (rCounting_any A cap L K w hA hl hcap hz)
 have HAP := hid hA.parts
 clear hA hz
 go_enter Tryz.func38, Tryz.ntmps38
 go_wp2_with fail
 refine HCO.out.mono ?_
 rintro e w1 ⟨hb1, hcase⟩
 have HB1 := hid hb1
 rcases hcase with ⟨i, en, hck, hne, rfl⟩ | ⟨hv, v, rfl, ho⟩
 ·have d0 : (en != 0) = true := bne_iff_ne.2 hne
  have HCK := hid hck
  have HNE := hid hne
  clear hb1 hck hne
  go_wp2_with fail
  go_ret2
  unfold RParcelsPost
  exact ⟨HB1.out, .inl ⟨i, en, HCK.out, HNE.out, rfl⟩⟩
 obtain ⟨A1, k1, rfl, hx1⟩ := ownsRow.form ho
 obtain ⟨C, hC⟩ : ∃ C, countE L K = C := ⟨_, rfl⟩
 have hsub : ∀ e ∈ C, e ∈ L := by rw [← hC]; exact countE_sub L K
 have hcl : C.length ≤ 210 := by rw [← hC]; exact Nat.le_trans (countE_len L K) hl
 have hsound : Sound (reps C) := by rw [← hC, countE_reps]; exact hv.sound K
 rw [hC] at hx1 ho ⊢
 have HC := hid hC
 have HE1 : Hid (EntsAt w1 A1 C) := hid ⟨rows_of_cells hx1.1, fun e he => (HAP.out e (hsub e he)).kept (Kept.of_below hb1)⟩
 have HSO := hid hsound
 have HV := hid hv
 have HW : Hid (∀ e ∈ C, e.1.Wf) := hid (fun e he => hsound.wfs e.1 (List.mem_map_of_mem (f := Prod.fst) he))
 have HMS : Hid (∀ k, ((C.take k).flatMap fun e => e.1.makes).length ≤ 8 * 210) := hid (fun k => by
  have := makes_sum (C := C.take k) (fun e he => HW.out e (List.mem_of_mem_take he))
  have : (C.take k).length ≤ C.length := by rw [List.length_take]; omega
  omega)
 have hb1s := hb1.size
 clear hx1 ho hC hsub hsound hb1 HCO HAP hv
 go_upto_region 6 with fail
 go_loopg [8, 9] (C.length) (fun g v i wr => ∃ k : Nat, k ≤ C.length ∧ g = C.length - k ∧ i = .int .i64 k ∧ Hid (wr.ownsRow w1.heap.size 3 1 v ((C.take k).flatMap fun e => e.1.makes).length (ints ((C.take k).flatMap fun e => e.1.makes))) ∧ Hid (Below w1.heap.size w1 wr))
 case atStart => exact ⟨0, by omega, by omega, rfl, hid (World.ownsRow_nil _ _ _ _), hid (Below.refl _ _)⟩
 case round =>
  obtain ⟨k, hk, hgk, rfl, hown, hbw⟩ := hrel
  by_cases hkl : k < C.length
  ·have hEw := HE1.out.below hbw.out
   obtain ⟨b, off, hAe, hc⟩ := hEw.rows (by omega)
   subst hAe
   have hrange := hc k hkl
   have hwf := HW.out _ (List.getElem_mem hkl)
   have hsn : ((C.take (k + 1)).flatMap fun e => e.1.makes) = ((C.take k).flatMap fun e => e.1.makes) ++ C[k].1.makes := by
    rw [List.take_succ_eq_append_getElem hkl, List.flatMap_append]
    simp
   obtain ⟨⟨x, P, c⟩, hx⟩ : ∃ y, C[k] = y := ⟨_, rfl⟩
   rw [hx] at hrange hwf hsn
   dsimp only at hrange hwf hsn
   obtain ⟨ids, hids⟩ : ∃ l, ((C.take k).flatMap fun e => e.1.makes) = l := ⟨_, rfl⟩
   have hil := HMS.out k
   rw [hids] at hsn hown hil
   have HSN := hid hsn
   have HR := hid hrange
   have HMK := hid (rmakes_any x P c wr hwf)
   have hml : x.makes.length ≤ 8 := makes_len _ hwf
   have i0 : (0 : Int) ≤ k := by omega
   have i1 : (k : Int) < C.length := by omega
   clear hEw hc hrange hwf hsn hx hids
   go_wp2_with (refine load_rep_mid rfl _ rfl _ _ rfl HR.out ?_)
   refine HMK.out.mono ?_
   rintro e w3 ⟨v3, rfl, ho3, hb3⟩
   obtain ⟨A3, k3, rfl, hx3⟩ := ownsRow.form ho3
   obtain ⟨v4, w4, hr4, ho4, hg4⟩ := app_ints (c := k3) (own_below hown.out hb3) (ownsRow_ints ho3) (by omega) (hbw.out.trans (hb3.mono hbw.out.size)).size
   have HR4 := hid hr4
   have HO4 := hid ho4
   have HB4 := hid ((hbw.out.trans (hb3.mono hbw.out.size)).grown hg4 (hbw.out.trans (hb3.mono hbw.out.size)).size (fun j e => (hown.out.lt j e).1))
   clear hr4 ho4 hg4 hx3 ho3 hb3
   go_wp2_with (first | (at_builtin; refine wpList_app rfl rfl rfl rfl rfl HR4.out ?_))
   go_roundg (C.length - (k + 1))
   case measure => omega
   case rel => exact ⟨k + 1, by omega, rfl, by go_num, hid (by rw [HSN.out]; exact HO4.out), HB4⟩
  ·obtain rfl : k = C.length := by omega
   have hown2 := hown.out
   have hil := HMS.out C.length
   rw [List.take_length] at hown2 hil
   obtain ⟨ids, hids⟩ : ∃ l, (C.flatMap fun e => e.1.makes) = l := ⟨_, rfl⟩
   rw [hids] at hown2 hil
   have HIDS := hid hids
   obtain ⟨A2, k2, rfl, hx2⟩ := ownsRow.form hown2
   have HSR := hid (rsorted_any A2 k2 ids wr (ownsRow_ints hown2) (by omega))
   have HB2 := hid hbw.out
   clear hids hown2 hx2 hown HMS
   go_wp2_with fail
   refine HSR.out.mono ?_
   rintro e w3 ⟨o, v3, rfl, ho3, hb3, hps, hmem⟩
   obtain ⟨A3, k3, rfl, hx3⟩ := ownsRow.form ho3
   have HI3 := hid (ownsRow_ints ho3)
   have HB3 := hid (HB2.out.trans (hb3.mono HB2.out.size))
   have HE3 := hid (HE1.out.below HB3.out)
   have hol : o.length ≤ 8 * C.length := by
    have h1 := nodup_le (ys := ids) (hps.imp (fun h => by omega)) (fun x hx => (hmem x).1 hx)
    have h2 := makes_sum HW.out
    rw [HIDS.out] at h2
    omega
   have HPS := hid hps
   have HMEM : Hid (∀ p, p ∈ o ↔ (makerR C p).isSome = true) := hid (fun p => by rw [hmem p, ← HIDS.out]; exact rmade_iff)
   clear hx3 ho3 hb3 hps hmem HSR HIDS
   have hol2 : o.length ≤ 1680 := by omega
   go_upto_region 12 with fail
   go_loopg [10, 11] (o.length) (fun g v i wr => ∃ (k : Nat) (D : List Pcl), k ≤ o.length ∧ g = o.length - k ∧ i = .int .i64 k ∧ D.length ≤ k ∧ Hid (wr.ownsRow w3.heap.size 38 12 v D.length (flatP D)) ∧ Hid (D.map (·.id) = (o.take k).filter (rkeepB C) ∧ ∀ q ∈ D, IsD C q) ∧ Hid (Below w3.heap.size w3 wr))
   case atStart => exact ⟨0, [], by omega, by omega, rfl, by simp, hid (World.ownsRow_nil _ _ _ _), hid ⟨by simp, by simp⟩, hid (Below.refl _ _)⟩
   case round =>
    obtain ⟨k, D, hk, hgk, rfl, hDk, hown, hD, hbw⟩ := hrel
    by_cases hkl : k < o.length
    ·obtain ⟨b, off, hAe, hc⟩ := (HI3.out.kept (Kept.of_below hbw.out)) (by omega)
     subst hAe
     have hck := hc k hkl
     have i0 : (0 : Int) ≤ k := by omega
     have i1 : (k : Int) < o.length := by omega
     have hsn : o.take (k + 1) = o.take k ++ [o[k]] := List.take_succ_eq_append_getElem hkl
     obtain ⟨p, hp⟩ : ∃ p, o[k] = p := ⟨_, rfl⟩
     rw [hp] at hck hsn
     have HSN := hid hsn
     have HDS := hid (rdescribe_any A1 k1 C p wr (HE3.out.below hbw.out) (by omega) HSO.out)
     clear hc hsn hp
     go_wp2_with fail
     refine HDS.out.mono ?_
     rintro e w5 ⟨hb5, hcs⟩
     have HB5 := hid (hbw.out.trans (hb5.mono hbw.out.size))
     have HO5 := hid (own_below hown.out hb5)
     rcases hcs with ⟨hkp, rfl⟩ | ⟨hkp, o2, ho2, rfl⟩
     ·have HKP := hid hkp
      clear hb5 hkp hck
      go_wp2_with (refine store_pcl_new rfl _ _ rfl rfl rfl (q := zp) rfl rfl ?_; intro W6 hbx6 hb6 hlt6; have HB6 := hid (HB5.out.trans (hb6.mono HB5.out.size)); have HO6 := hid (own_below HO5.out hb6); clear hbx6 hb6)
      go_roundg (o.length - (k + 1))
      case measure => omega
      case rel => exact ⟨k + 1, D, by omega, rfl, by go_num, by omega, HO6, hid ⟨by rw [HSN.out, List.filter_append, hD.out.1]; simp [HKP.out], hD.out.2⟩, HB6⟩
     ·have HKP := hid hkp
      have HO2 := hid ho2
      clear hb5 hkp hck ho2
      go_upto_region 16 with (refine store_pcl_new rfl _ _ rfl rfl rfl (q := rdescF C p o2) rfl rfl ?_; intro W6 hbx6 hb6 hlt6; have HX6 := hid hbx6; have HB6 := hid (HB5.out.trans (hb6.mono HB5.out.size)); have HO6 := hid (own_below HO5.out hb6); clear hbx6 hb6)
      obtain ⟨v7, w7, hr7, ho7, hb7⟩ := app_pcl (rdescF C p o2) HO6.out (by omega) HB6.out.size
      have HR7 := hid hr7
      have HO7 := hid ho7
      have HB7 := hid (HB6.out.trans hb7)
      clear hr7 ho7 hb7
      go_wp2_with (first | refine load_pcl rfl _ rfl _ rfl HX6.out ?_ | refine build_pcl rfl _ rfl rfl ?_ | (at_builtin; refine wpList_app rfl rfl rfl rfl rfl HR7.out ?_))
      go_roundg (o.length - (k + 1))
      case measure => omega
      case rel => exact ⟨k + 1, D ++ [rdescF C p o2], by omega, rfl, by go_num, by simp; omega, HO7, hid ⟨by rw [HSN.out, List.filter_append, List.map_append, hD.out.1]; simp [HKP.out]; rfl, fun q hq => by
       rcases List.mem_append.1 hq with h | h
       ·exact hD.out.2 q h
       ·rw [List.mem_singleton] at h
        subst h
        exact ⟨o2, HO2.out, rfl⟩⟩, HB7⟩
    ·obtain rfl : k = o.length := by omega
     have hd := hD.out.1
     rw [List.take_length] at hd
     have HD := hid hd
     have hB9 : Below w.heap.size w wr := HB1.out.trans ((HB3.out.trans (hbw.out.mono HB3.out.size)).mono HB1.out.size)
     have HB9 := hid hB9
     have HO9 := hid (own_lo (base' := w.heap.size) hown.out (by have := HB3.out.size; omega))
     clear hd hB9
     go_wp2_with fail
     go_ret2
     unfold RParcelsPost
     refine ⟨HB9.out, .inr ⟨HV.out, D, _, ?_, rfl, HO9.out⟩⟩
     rw [HC.out]
     refine ⟨by rw [HD.out]; exact HPS.out.filter _, fun p => ?_, hD.out.2, by omega⟩
     rw [HD.out, List.mem_filter, HMEM.out p]
     constructor
     ·exact fun h => h.2
     ·intro h
      refine ⟨?_, h⟩
      unfold rkeepB at h
      rw [Bool.and_eq_true] at h
      exact h.1
/-- Two rows of the call's own lie apart. -/
def Ap (v u : Value) : Prop := u.ownBlock = none ∨ u.ownBlock ≠ v.ownBlock
theorem Ap.symm {v u : Value} (h : Ap v u) : Ap u v := by
 unfold Ap at h ⊢
 rcases hv : v.ownBlock with _ | g
 ·exact .inl rfl
 ·right
  intro e
  rcases h with h | h
  ·rw [h] at e; cases e
  ·exact h (by rw [hv, ← e])
theorem app_int2 {w : World} {base : Nat} {v u : Value} {xs ys : List Int} (a : Int) (hx : w.ownsRow base 3 1 v xs.length (ints xs)) (hy : w.ownsRow base 3 1 u ys.length (ints ys)) (hap : Ap v u) (hlx : xs.length ≤ 100000) (hbase : base ≤ w.heap.size) :
  ∃ v' w1, (Builtin.append_ #[25, 25] 25 #[v, .slice (some ⟨w.heap.size, 0, none⟩) 1 1]).run Tryz.prog (w.alloc (.cells #[.int .i64 a] 3)) = .ok v' w1 ∧
   w1.ownsRow base 3 1 v' (xs ++ [a]).length (ints (xs ++ [a])) ∧ w1.ownsRow base 3 1 u ys.length (ints ys) ∧ Ap v' u ∧ Below base w w1 ∧ ∀ k, k < w.heap.size → v.ownBlock ≠ some k → w1.heap[k]? = w.heap[k]? := by
 obtain ⟨i, h1, h2, h3, h4⟩ := ints_info
 obtain ⟨v', w1, r1, o1, g1, _, l1⟩ := run_append_own_at (P := Tryz.prog) (w := w.alloc (.cells #[.int .i64 a] 3)) base 25 25 3 i _ 1 8 intsl_u h1 h2 h3 h4 (by rfl) (by omega) v xs.length (ints xs) (hx.alloc _)
  ⟨w.heap.size, 0, none⟩ 1 1 [.int .i64 a] rfl (cell_one_new w _ _) (by simp [Value.oneCell']) (by unfold maxLen; omega) (by omega) (by simp; omega)
 have hy1 : w1.ownsRow base 3 1 u ys.length (ints ys) := (hy.alloc _).kept g1 hap
 have hb1 : Below base w w1 := ((Below.refl _ _).alloc hbase _).grown g1 (by simp; omega) (fun g e => (hx.lt g e).1)
 refine ⟨v', w1, r1, ?_, hy1, ?_, hb1, fun k hk hne => (g1.block k (by simp; omega) (fun e => hne e.symm)).trans (heap_alloc_old _ _ _ hk)⟩
 ·rw [List.length_append, List.length_singleton, ints_append]
  exact o1
 ·rcases l1 with l | l
  ·unfold Ap at hap ⊢
   rw [l]
   exact hap
  ·apply Ap.symm
   unfold Ap
   right
   rw [l]
   intro e
   have := (hy.lt _ e.symm).2
   simp at this
   omega
theorem load_pcl_mid {ops : Array Oper} {rest : List Oper} {o : Oper} {a : Act} {w : World} {Q : Exit → Act → World → Prop} (hgd : o.guard = none) (x : Operand) (ho : o.op = .load 38 x)
  (b f : Nat) (hx : a.eval x = .pointer (some ⟨b, f, none⟩)) {q : Pcl} (hg : w.rangeAt b f q.cells.toList)
  (h : wpList Tryz.prog ops Q rest (a.put o.dst q.val) w) : wpList Tryz.prog ops Q (o :: rest) a w := by
 refine wpList_load_mid hgd _ x ho b f hx q.cells.toList _ hg Tryz.underlying38 rfl pcl_info ?_
 simpa using h
/-- The parcel of a list with an Id. -/
def pof (D : List Pcl) (x : Int) : Pcl := (D.find? fun q => decide (q.id = x)).getD zp
theorem pof_at {D : List Pcl} (hn : (D.map (·.id)).Pairwise (· < ·)) {k : Nat} (hk : k < D.length) {x : Int} (h : D[k].id = x) : pof D x = D[k] := by
 rcases hf : D.find? (fun q => decide (q.id = x)) with _ | q
 ·rw [List.find?_eq_none] at hf
  exact absurd h (by simpa using hf D[k] (List.getElem_mem hk))
 ·have hp : pof D x = q := by unfold pof; rw [hf]; rfl
  rw [hp]
  have h1 := List.mem_of_find?_eq_some hf
  have h2 : q.id = x := by have := List.find?_some hf; simpa using this
  obtain ⟨j, hj, rfl⟩ := List.getElem_of_mem h1
  rw [List.pairwise_iff_getElem] at hn
  rcases Nat.lt_trichotomy j k with h3 | h3 | h3
  ·have := hn j k (by simpa using hj) (by simpa using hk) h3
   simp only [List.getElem_map] at this
   omega
  ·subst h3
   rfl
  ·have := hn k j (by simpa using hk) (by simpa using hj) h3
   simp only [List.getElem_map] at this
   omega
/-- What the search of the reference goes over to: where it ends, and by what. -/
def gP (fin : Pcl → Bool) (mine other : Pcl → Int) (D : List Pcl) (x : Int) (q : Pcl) : Option Int := if fin (pof D x) then none else if other q = mine (pof D x) then some q.id else none
def finO (q : Pcl) : Bool := q.found
def finR (q : Pcl) : Bool := decide (q.into = 0)
def RSearchPost (fin : Pcl → Bool) (mine other : Pcl → Int) (L : List Ent) (K p : Int) (w : World) (e : Ending) (w' : World) : Prop :=
 Below w.heap.size w w' ∧ ((∃ i en, CheckIs (reps L) i en ∧ en ≠ 0 ∧ e = .returned (.tuple #[.slice none 0 0, .int .i64 en])) ∨
  (Valid (reps L) ∧ ∃ D, PclsOf (countE L K) D ∧ ((p ∉ D.map (·.id) ∧ e = .returned (.tuple #[.slice none 0 0, .int .i64 30])) ∨
   (p ∈ D.map (·.id) ∧ ∃ zs v, e = .returned (.tuple #[v, .int .i64 0]) ∧ w'.ownsRow w.heap.size 3 1 v zs.length (ints zs) ∧ zs.Pairwise (· < ·) ∧ ∀ x, x ∈ zs ↔ (Reach (nxL D (gP fin mine other D)) p x ∧ fin (pof D x) = true)))))
theorem gP_id {fin : Pcl → Bool} {mine other : Pcl → Int} {D : List Pcl} : ∀ x a y, gP fin mine other D x a = some y → a.id = y := fun x a y h => by
 unfold gP at h
 split at h
 ·cases h
 ·split at h
  ·exact Option.some.inj h
  ·cases h
theorem gP_fin {fin : Pcl → Bool} {mine other : Pcl → Int} {D : List Pcl} {x : Int} (h : fin (pof D x) = true) : nxL D (gP fin mine other D) x = [] := by
 unfold nxL
 rw [List.filterMap_eq_nil_iff]
 intro q _
 unfold gP
 rw [if_pos h]
theorem CheckIs.same {l : List Rep} {i j e f : Int} (h : CheckIs l i e) (k : CheckIs l j f) : e = f := by
 have key : ∀ a b (ha : a < l.length) (hb : b < l.length), a < b → Valid (l.take b) → follows (l.take a) l[a] = 0 := fun a b ha hb hab hv => by
  have h1 := hv a (by simp; omega)
  rw [List.take_take, Nat.min_eq_left (by omega), List.getElem_take] at h1
  exact h1
 rcases h with ⟨hv, _, rfl⟩ | ⟨a, ha, hva, hfa, hna, _⟩
 ·exact (k.of_valid hv).symm
 ·rcases k with ⟨hv, _, rfl⟩ | ⟨b, hb, hvb, hfb, hnb, _⟩
  ·exact absurd (hfa.symm.trans (hv a ha)) hna
  ·rcases Nat.lt_trichotomy a b with h1 | h1 | h1
   ·exact absurd (hfa.symm.trans (key a b ha hb h1 hvb)) hna
   ·subst h1
    exact hfa.symm.trans hfb
   ·exact absurd (hfb.symm.trans (key b a hb ha h1 hva)) hnb
theorem CheckIs.not_valid {l : List Rep} {i e : Int} (h : CheckIs l i e) (hne : e ≠ 0) : ¬ Valid l := fun hv => hne (h.of_valid hv)
theorem entOr_map {o o' : Option Ent} (h : o.map (·.1) = o'.map (·.1)) : (entOr o).1 = (entOr o').1 ∧ o.isSome = o'.isSome := by
 rcases o with _ | a <;> rcases o' with _ | b
 ·exact ⟨rfl, rfl⟩
 ·cases h
 ·cases h
 ·exact ⟨Option.some.inj h, rfl⟩
theorem maker_two {C : List Ent} (hs : Sound (reps C)) (p : Int) : (entOr (makerE C p)).1 = (entOr (makerR C p)).1 ∧ (makerE C p).isSome = (makerR C p).isSome :=
 entOr_map ((maker_same hs p).symm.trans (makerR_reps C p))
theorem user_two {C : List Ent} (hs : Sound (reps C)) (p : Int) : (entOr (userE C p)).1 = (entOr (userR C p)).1 ∧ (userE C p).isSome = (userR C p).isSome :=
 entOr_map ((user_same hs p).symm.trans (userR_reps C p))
theorem uses_seven {r : Rep} (h : r.kind = 7) : r.uses = [r.other] := by unfold Rep.uses; rw [if_neg (by omega), if_neg (by omega), if_pos h]
theorem makes_seven {r : Rep} (h : r.kind = 7) : r.makes = [] := by unfold Rep.makes; rw [if_neg (by omega), if_neg (by omega)]
theorem uses_one {r : Rep} (h : r.kind = 1) : r.uses = [] := by unfold Rep.uses; rw [if_neg (by omega), if_neg (by omega), if_neg (by omega)]
theorem twin_iff {C : List Ent} {p : Int} : twinB (reps C) p = true ↔ ∃ y ∈ reps C, y.kind = 7 ∧ y.other = p := by
 unfold twinB
 rw [List.any_eq_true]
 simp only [Bool.and_eq_true, decide_eq_true_eq]
theorem keep_twin {C : List Ent} (hs : Sound (reps C)) (p : Int) : keepB C p = !twinB (reps C) p := by
 rcases ht : twinB (reps C) p with _ | _
 ·show keepB C p = true
  unfold keepB
  rcases hu : userE C p with _ | u
  ·rfl
  ·obtain ⟨h1, h2⟩ := userE_some hu
   have : u.1.kind ≠ 7 := fun h7 => by
    rw [uses_seven h7, List.mem_singleton] at h2
    have := twin_iff.2 ⟨u.1, List.mem_map_of_mem (f := Prod.fst) h1, h7, h2.symm⟩
    rw [ht] at this
    cases this
   simp [entOr, this]
 ·show keepB C p = false
  obtain ⟨y, hy, h7, ho⟩ := twin_iff.1 ht
  have hyu : p ∈ y.uses := by rw [uses_seven h7, ho]; simp
  unfold keepB
  rcases hu : userE C p with _ | u
  ·obtain ⟨e, he, rfl⟩ := List.mem_map.1 hy
   exact absurd hyu (userE_none hu e he)
  ·obtain ⟨h1, h2⟩ := userE_some hu
   have h3 := hs.user (List.mem_map_of_mem (f := Prod.fst) h1) hy h2 hyu
   simp [entOr, h3, h7]
theorem rkeep_same {C : List Ent} (hs : Sound (reps C)) (p : Int) : rkeepB C p = true ↔ ((makerE C p).isSome = true ∧ keepB C p = true) := by
 unfold rkeepB
 rw [Bool.and_eq_true, ← keep_twin hs, (maker_two hs p).2]
theorem ids_two {C : List Ent} (hs : Sound (reps C)) {ids : List Int} {D : List Pcl} (hi : IdsOf C ids) (hD : PclsOf C D) : D.map (·.id) = ids :=
 sorted_same hD.ids hi.1 fun p => (hD.mem p).trans ((rkeep_same hs p).trans (hi.2 p).symm)
/-- What the reference's parcels say, by the engine's makers and users. -/
structure PofIs (C : List Ent) (q : Pcl) (x : Int) : Prop where
 id : q.id = x
 from_ : q.from_ = (entOr (makerE C x)).1.id
 into : q.into = (entOr (userE C x)).1.id
 found : q.found = decide ((entOr (makerE C x)).1.kind = 1)
theorem pcl_is {C : List Ent} (hs : Sound (reps C)) {D : List Pcl} (hD : PclsOf C D) {q : Pcl} (hq : q ∈ D) : PofIs C q q.id := by
 obtain ⟨o, _, h⟩ := hD.is q hq
 have h1 := (maker_two hs q.id).1
 have h2 := (user_two hs q.id).1
 refine ⟨rfl, ?_, ?_, ?_⟩
 ·rw [h1]
  conv => lhs; rw [h]
  rfl
 ·rw [h2]
  conv => lhs; rw [h]
  rfl
 ·rw [h1]
  conv => lhs; rw [h]
  rfl
theorem pof_is {C : List Ent} (hs : Sound (reps C)) {D : List Pcl} (hD : PclsOf C D) {x : Int} (hx : x ∈ D.map (·.id)) : PofIs C (pof D x) x := by
 obtain ⟨q, hq, rfl⟩ := List.mem_map.1 hx
 obtain ⟨k, hk, rfl⟩ := List.getElem_of_mem hq
 rw [pof_at hD.ids hk rfl]
 exact pcl_is hs hD hq
theorem is_rep {C : List Ent} {e : Ent} (h : e ∈ C) : e.1 ∈ reps C := List.mem_map_of_mem (f := Prod.fst) h
theorem rep_pos {C : List Ent} (hs : Sound (reps C)) {e : Ent} (h : e ∈ C) : 1 ≤ e.1.id := (hs.wfs _ (is_rep h)).id.1
theorem user_id {C : List Ent} (hs : Sound (reps C)) (x : Int) : 0 ≤ (entOr (userE C x)).1.id ∧ ((entOr (userE C x)).1.id = 0 ↔ userE C x = none) := by
 rcases hu : userE C x with _ | u
 ·exact ⟨Int.le_refl _, by simp [entOr, zr]⟩
 ·have := rep_pos hs (userE_some hu).1
  refine ⟨by show 0 ≤ u.1.id; omega, ⟨fun h => ?_, fun h => by cases h⟩⟩
  have h : u.1.id = 0 := h
  omega
/-- Origins' step: from the parcels that a parcel was made of. -/
theorem back_kept {C : List Ent} (hs : Sound (reps C)) {D : List Pcl} (hD : PclsOf C D) {x y : Int} (hy : y ∈ backL C x) : y ∈ D.map (·.id) := by
 rw [hD.mem, rkeep_same hs]
 unfold backL at hy
 split at hy
 ·simp at hy
 ·rcases hm : makerE C x with _ | e
  ·rw [hm] at hy
   simp [entOr, zr, Rep.uses] at hy
  ·rw [hm] at hy
   have hy : y ∈ e.1.uses := hy
   obtain ⟨h1, h2⟩ := makerE_some hm
   obtain ⟨j, hj, hje⟩ := List.getElem_of_mem (is_rep h1)
   have hok := hs.at_ j hj
   rw [hje] at hok
   constructor
   ·obtain ⟨z, hz, hzy⟩ := hok.made y (uses_touches hok.wf hy)
    rw [made_isSome, List.mem_flatMap]
    obtain ⟨e2, he2, rfl⟩ := List.mem_map.1 (List.mem_of_mem_take hz)
    exact ⟨e2, he2, hzy⟩
   ·rw [keep_twin hs]
    rcases ht : twinB (reps C) y with _ | _
    ·rfl
    ·obtain ⟨z, hz, h7, ho⟩ := twin_iff.1 ht
     have h3 := hs.user hz (is_rep h1) (by rw [uses_seven h7, ho]; simp) hy
     rw [h3] at h7
     rw [makes_seven h7] at h2
     simp at h2
theorem back_step {C : List Ent} (hs : Sound (reps C)) {D : List Pcl} (hD : PclsOf C D) {x : Int} (hx : x ∈ D.map (·.id)) (y : Int) : y ∈ nxL D (gP finO Pcl.from_ Pcl.into D) x ↔ y ∈ backL C x := by
 have hp := pof_is hs hD hx
 have hmade := ((rkeep_same hs x).1 ((hD.mem x).1 hx)).1
 obtain ⟨e, he⟩ := Option.isSome_iff_exists.1 hmade
 obtain ⟨he1, he2⟩ := makerE_some he
 have hpf := hp.found
 have hpr := hp.from_
 rw [he] at hpf hpr
 have hpf : (pof D x).found = decide (e.1.kind = 1) := hpf
 have hpr : (pof D x).from_ = e.1.id := hpr
 have hbl : backL C x = if e.1.kind = 1 then [] else e.1.uses := by unfold backL; rw [he]; rfl
 by_cases k1 : e.1.kind = 1
 ·rw [hbl, if_pos k1, gP_fin (show finO (pof D x) = true by unfold finO; rw [hpf, decide_eq_true k1])]
 have hgp : ∀ q, gP finO Pcl.from_ Pcl.into D x q = if q.into = e.1.id then some q.id else none := fun q => by
  unfold gP
  rw [if_neg (by unfold finO; rw [hpf, decide_eq_false k1]; decide), hpr]
 unfold nxL
 rw [List.mem_filterMap]
 constructor
 ·rintro ⟨q, hq, hg⟩
  rw [hgp] at hg
  split at hg
  ·rename_i hi
   have hg := Option.some.inj hg
   subst hg
   rw [(pcl_is hs hD hq).into] at hi
   rw [hbl, if_neg k1]
   rcases hu : userE C q.id with _ | u
   ·rw [(user_id hs q.id).2.2 hu] at hi
    have := rep_pos hs he1
    omega
   ·rw [hu] at hi
    obtain ⟨hu1, hu2⟩ := userE_some hu
    have h3 := hs.ids (is_rep hu1) (is_rep he1) hi
    rw [← h3]
    exact hu2
  ·cases hg
 ·intro hy
  obtain ⟨q, hq, rfl⟩ := List.mem_map.1 (back_kept hs hD hy)
  refine ⟨q, hq, ?_⟩
  rw [hgp, if_pos]
  rw [hbl, if_neg k1] at hy
  rw [(pcl_is hs hD hq).into]
  rcases hu : userE C q.id with _ | u
  ·exact absurd hy (userE_none hu e he1)
  ·obtain ⟨hu1, hu2⟩ := userE_some hu
   have h3 := hs.user (is_rep hu1) (is_rep he1) hu2 hy
   show u.1.id = e.1.id
   rw [h3]
theorem on_kept {C : List Ent} (hs : Sound (reps C)) {D : List Pcl} (hD : PclsOf C D) {x y : Int} (hy : y ∈ onL C x) : y ∈ D.map (·.id) := by
 rw [hD.mem, rkeep_same hs]
 unfold onL at hy
 rcases hu : userE C x with _ | u
 ·rw [hu] at hy
  simp at hy
 ·rw [hu] at hy
  have hy : y ∈ u.1.makes := hy
  obtain ⟨h1, h2⟩ := userE_some hu
  constructor
  ·rw [made_isSome, List.mem_flatMap]
   exact ⟨u, h1, hy⟩
  ·rw [keep_twin hs]
   rcases ht : twinB (reps C) y with _ | _
   ·rfl
   ·obtain ⟨z, hz, h7, ho⟩ := twin_iff.1 ht
    obtain ⟨j, hj, hjz⟩ := List.getElem_of_mem hz
    have hok := hs.at_ j hj
    rw [hjz] at hok
    obtain ⟨v, hv, hvy, hvk⟩ := hok.same h7 y (uses_touches hok.wf (by rw [uses_seven h7, ho]; simp))
    have h3 := hs.maker (List.mem_of_mem_take hv) (is_rep h1) hvy hy
    rw [h3] at hvk
    rw [uses_one hvk] at h2
    simp at h2
theorem on_step {C : List Ent} (hs : Sound (reps C)) {D : List Pcl} (hD : PclsOf C D) {x : Int} (hx : x ∈ D.map (·.id)) (y : Int) : y ∈ nxL D (gP finR Pcl.into Pcl.from_ D) x ↔ y ∈ onL C x := by
 have hp := (pof_is hs hD hx).into
 rcases hu : userE C x with _ | u
 ·rw [(user_id hs x).2.2 hu] at hp
  rw [gP_fin (show finR (pof D x) = true by unfold finR; rw [hp]; rfl)]
  unfold onL
  rw [hu]
 rw [hu] at hp
 have hp : (pof D x).into = u.1.id := hp
 obtain ⟨hu1, hu2⟩ := userE_some hu
 have hpos := rep_pos hs hu1
 have hol : onL C x = u.1.makes := by unfold onL; rw [hu]
 have hgp : ∀ q, gP finR Pcl.into Pcl.from_ D x q = if q.from_ = u.1.id then some q.id else none := fun q => by
  unfold gP
  rw [if_neg (by unfold finR; rw [hp, decide_eq_false (by omega)]; decide), hp]
 unfold nxL
 rw [List.mem_filterMap, hol]
 constructor
 ·rintro ⟨q, hq, hg⟩
  rw [hgp] at hg
  split at hg
  ·rename_i hi
   have hg := Option.some.inj hg
   subst hg
   rw [(pcl_is hs hD hq).from_] at hi
   have hmade := ((rkeep_same hs q.id).1 ((hD.mem q.id).1 (List.mem_map_of_mem hq))).1
   obtain ⟨e, he⟩ := Option.isSome_iff_exists.1 hmade
   obtain ⟨he1, he2⟩ := makerE_some he
   rw [he] at hi
   have h3 := hs.ids (is_rep he1) (is_rep hu1) hi
   rw [← h3]
   exact he2
  ·cases hg
 ·intro hy
  obtain ⟨q, hq, rfl⟩ := List.mem_map.1 (on_kept hs hD (show y ∈ onL C x by rw [hol]; exact hy))
  refine ⟨q, hq, ?_⟩
  rw [hgp, if_pos]
  rw [(pcl_is hs hD hq).from_]
  rcases he : makerE C q.id with _ | e
  ·exact absurd hy (makerE_none he u hu1)
  ·obtain ⟨he1, he2⟩ := makerE_some he
   have h3 := hs.maker (is_rep he1) (is_rep hu1) he2 hy
   show e.1.id = u.1.id
   rw [h3]
theorem reach_in {nx : Int → List Int} {S : Int → Prop} (hc : ∀ a, S a → ∀ y ∈ nx a, S y) {p x : Int} (h : Reach nx p x) : S p → S x := by
 induction h with
 | refl => exact id
 | step hx _ ih => exact fun hp => ih (hc _ hp _ hx)
theorem reach_to {nx nx' : Int → List Int} {S : Int → Prop} (hs : ∀ a, S a → ∀ y ∈ nx a, y ∈ nx' a) (hc : ∀ a, S a → ∀ y ∈ nx a, S y) {p x : Int} (h : Reach nx p x) : S p → Reach nx' p x := by
 induction h with
 | refl => exact fun _ => .refl _
 | step hx _ ih => exact fun hp => .step (hs _ hp _ hx) (ih (hc _ hp _ hx))
theorem reach_swap {nx nx' : Int → List Int} {S : Int → Prop} (hs : ∀ a, S a → ∀ y, y ∈ nx a ↔ y ∈ nx' a) (hc : ∀ a, S a → ∀ y ∈ nx' a, S y) {p : Int} (hp : S p) (x : Int) : Reach nx p x ↔ Reach nx' p x :=
 ⟨fun h => reach_to (fun a ha y hy => (hs a ha y).1 hy) (fun a ha y hy => hc a ha y ((hs a ha y).1 hy)) h hp, fun h => reach_to (fun a ha y hy => (hs a ha y).2 hy) hc h hp⟩
/-- A list of numbers and an error, as an answer. -/
def AnsI (e : Ending) (w' : World) (en : Int) (ys : List Int) : Prop := ∃ A k, e = .returned (.tuple #[.slice A ys.length k, .int .i64 en]) ∧ IntsAt w' A ys
theorem ansI_nil {e : Ending} {w' : World} {en : Int} (h : e = .returned (.tuple #[.slice none 0 0, .int .i64 en])) : AnsI e w' en [] := ⟨none, 0, h, fun h => by simp at h⟩
theorem ansI_own {e : Ending} {w' : World} {base : Nat} {v : Value} {ys : List Int} (h : e = .returned (.tuple #[v, .int .i64 0])) (ho : w'.ownsRow base 3 1 v ys.length (ints ys)) : AnsI e w' 0 ys := by
 obtain ⟨A, k, rfl, _⟩ := ownsRow.form ho
 exact ⟨A, k, h, ownsRow_ints ho⟩
/-- What the engine's searches answer. -/
def ESearchPost (nx : Int → List Int) (fin : List Int → Int → Prop) (L : List Ent) (K p : Int) (w : World) (e : Ending) (w' : World) : Prop :=
 Below w.heap.size w w' ∧ ((∃ en, FailsBy L K [p] en ∧ e = .returned (.tuple #[.slice none 0 0, .int .i64 en])) ∨ (Valid (reps L) ∧ ∃ ids, IdsOf (countE L K) ids ∧ p ∈ ids ∧ ∃ ys v, e = .returned (.tuple #[v, .int .i64 0]) ∧ w'.ownsRow w.heap.size 3 1 v ys.length (ints ys) ∧ ys.Pairwise (· < ·) ∧ ∀ x, x ∈ ys ↔ (Reach nx p x ∧ fin ids x)))
theorem search_same {nx : Int → List Int} {fin : List Int → Int → Prop} {finD : Pcl → Bool} {mine other : Pcl → Int} {L : List Ent} {K p : Int} {w w' v v' : World} {e f : Ending} (hl : L.length ≤ 210)
  (hst : ∀ D, Sound (reps (countE L K)) → PclsOf (countE L K) D → ∀ x ∈ D.map (·.id), ∀ y, y ∈ nxL D (gP finD mine other D) x ↔ y ∈ nx x)
  (hk : ∀ D, Sound (reps (countE L K)) → PclsOf (countE L K) D → ∀ x y, y ∈ nx x → y ∈ D.map (·.id))
  (hfin : ∀ D, Sound (reps (countE L K)) → PclsOf (countE L K) D → ∀ x ∈ D.map (·.id), fin (D.map (·.id)) x ↔ finD (pof D x) = true)
  (h : ESearchPost nx fin L K p w e w') (k : RSearchPost finD mine other L K p v f v') :
  ∃ en ys, AnsI e w' en ys ∧ AnsI f v' en ys ∧ ys.length ≤ 2000 := by
 rcases h.2 with ⟨en, hf, he⟩ | ⟨hv, ids, hi, hp, ys, V, he, ho, hsr, hm⟩
 ·refine ⟨en, [], ansI_nil he, ?_, by simp⟩
  rcases hf with ⟨i, hc, hne⟩ | ⟨hv, ids, hi, ⟨q, hq, hn⟩, rfl⟩
  ·rcases k.2 with ⟨j, fn, hc2, _, hf2⟩ | ⟨hv, _⟩
   ·rw [hc.same hc2]
    exact ansI_nil hf2
   ·exact absurd hv (hc.not_valid hne)
  ·rw [List.mem_singleton] at hq
   subst hq
   rcases k.2 with ⟨j, fn, hc2, hne2, _⟩ | ⟨_, D, hD, ⟨_, hf2⟩ | ⟨hin, _⟩⟩
   ·exact absurd hv (hc2.not_valid hne2)
   ·exact ansI_nil hf2
   ·have hs : Sound (reps (countE L K)) := by rw [countE_reps]; exact hv.sound K
    rw [ids_two hs hi hD] at hin
    exact absurd hin hn
 ·have hs : Sound (reps (countE L K)) := by rw [countE_reps]; exact hv.sound K
  rcases k.2 with ⟨j, fn, hc2, hne2, _⟩ | ⟨_, D, hD, ⟨hout, _⟩ | ⟨hin, zs, V2, hf2, ho2, hsr2, hm2⟩⟩
  ·exact absurd hv (hc2.not_valid hne2)
  ·rw [ids_two hs hi hD] at hout
   exact absurd hp hout
  ·have hids := ids_two hs hi hD
   have hrs := reach_swap (S := fun x => x ∈ D.map (·.id)) (hst D hs hD) (fun a _ y hy => hk D hs hD a y hy) hin
   have hri : ∀ x, Reach nx p x → x ∈ D.map (·.id) := fun x hx => reach_in (S := fun x => x ∈ D.map (·.id)) (fun a _ y hy => hk D hs hD a y hy) hx hin
   have hyz : ys = zs := sorted_same hsr hsr2 fun x => by
    rw [hm, hm2, hrs x, ← hids]
    constructor
    ·exact fun ⟨a, b⟩ => ⟨a, (hfin D hs hD x (hri x a)).1 b⟩
    ·exact fun ⟨a, b⟩ => ⟨a, (hfin D hs hD x (hri x a)).2 b⟩
   subst hyz
   refine ⟨0, ys, ansI_own he ho, ansI_own hf2 ho2, ?_⟩
   have h1 := nodup_le (xs := ys) (ys := D.map (·.id)) (hsr.imp (fun h => by omega)) (fun x hx => hri x ((hm x).1 hx).1)
   have h2 := hD.len
   have h3 := countE_len L K
   rw [List.length_map] at h1
   omega
theorem origins_same {L : List Ent} {K p : Int} {w w' v v' : World} {e f : Ending} (hl : L.length ≤ 210)
  (h : ESearchPost (backL (countE L K)) (fun ids x => (pclOr (countE L K) ids x).found = true) L K p w e w') (k : RSearchPost finO Pcl.from_ Pcl.into L K p v f v') :
  ∃ en ys, AnsI e w' en ys ∧ AnsI f v' en ys ∧ ys.length ≤ 2000 :=
 search_same hl (fun D hs hD x hx => back_step hs hD hx) (fun D hs hD x y hy => back_kept hs hD hy) (fun D hs hD x hx => by
  rw [pclOr_in hx]
  unfold finO
  rw [(pof_is hs hD hx).found]
  exact Iff.rfl) h k
theorem remains_same {L : List Ent} {K p : Int} {w w' v v' : World} {e f : Ending} (hl : L.length ≤ 210)
  (h : ESearchPost (onL (countE L K)) (fun ids x => (pclOr (countE L K) ids x).into ≤ 0) L K p w e w') (k : RSearchPost finR Pcl.into Pcl.from_ L K p v f v') :
  ∃ en ys, AnsI e w' en ys ∧ AnsI f v' en ys ∧ ys.length ≤ 2000 :=
 search_same hl (fun D hs hD x hx => on_step hs hD hx) (fun D hs hD x y hy => on_kept hs hD hy) (fun D hs hD x hx => by
  rw [pclOr_in hx]
  unfold finR
  rw [(pof_is hs hD hx).into, decide_eq_true_eq]
  have := (user_id hs x).1
  show (entOr (userE (countE L K) x)).1.id ≤ 0 ↔ _
  constructor <;> intro h <;> omega) h k
end Go.Proofs.YtfaoillnakhejaaGreat
