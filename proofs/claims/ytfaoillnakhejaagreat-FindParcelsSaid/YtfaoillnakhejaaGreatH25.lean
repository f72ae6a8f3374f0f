/- bound: an end of a parcel; Weight; Weight: both ends of a parcel; across, end: what an arc is to a side; isSide; isSide: whether a list is a side. -/
import Derived.Test.YtfaoillnakhejaaGreatH24
namespace Go.Proofs.YtfaoillnakhejaaGreat
set_option maxRecDepth 100000
open Go.RowKit
def AsksA (w : World) (fid : FuncId) (cv : Value) (L : List Arc) (q : Arc → Bool) : Prop :=
 ∀ (x : Arc) wr, x ∈ L → Below w.heap.size w wr → Calls Tryz.prog fid #[x.val, cv] wr fun e w' => e = .returned (.bool (q x)) ∧ Below wr.heap.size wr w'
def FirstA (L : List Arc) (q : Arc → Bool) (i : Int) : Prop := (i = -1 ∧ ∀ e ∈ L, q e = false) ∨ ∃ k : Nat, ∃ h : k < L.length, i = k ∧ q L[k] = true ∧ ∀ e ∈ L.take k, q e = false
set_option maxHeartbeats 4000000 in
theorem indexArcs_any (fid : FuncId) (hcf : Enters fid) (cv : Value) (q : Arc → Bool) (A : Option Addr) (cap : Nat) (L : List Arc) (w : World) (hm : L.length ≤ 1000000) (hA : ArcsAt w A L) (hF : AsksA w fid cv L q) :
  Calls Tryz.prog 105 #[.slice A L.length cap, .func (.func fid) #[] #[cv]] w fun e w' => (∃ i : Int, e = .returned (.int .i64 i) ∧ FirstA L q i) ∧ Below w.heap.size w w' := by
 have HA := hid hA
 have HF := hid hF
 clear hA hF
 unfold Enters at hcf
 go_enter Tryz.func105, Tryz.ntmps105
 go_wp2_with fail
 go_loopg [8] (L.length) (fun g i wr => ∃ k : Nat, k ≤ L.length ∧ g = L.length - k ∧ i = .int .i64 k ∧ Hid (∀ e ∈ L.take k, q e = false) ∧ Hid (Below w.heap.size w wr))
 case atStart => exact ⟨0, by omega, by omega, rfl, hid (by simp), hid (Below.refl _ _)⟩
 case round =>
  obtain ⟨k, hk, hgk, rfl, hno, hbw⟩ := hrel
  by_cases hlt : k < L.length
  ·obtain ⟨b, off, hAe, hc⟩ := (HA.out.kept (Kept.of_below hbw.out)) (by omega)
   subst hAe
   have hrange := hc k hlt
   have i0 : (0 : Int) ≤ k := by omega
   have i1 : (k : Int) < L.length := by omega
   have hmem := List.getElem_mem hlt
   have hsn : L.take (k + 1) = L.take k ++ [L[k]] := List.take_succ_eq_append_getElem hlt
   obtain ⟨r, hx⟩ : ∃ x, L[k] = x := ⟨_, rfl⟩
   have HX := hid hx
   rw [hx] at hrange hmem hsn
   have HR := hid hrange
   have HMEM := hid hmem
   have HSN := hid hsn
   clear hc hx hrange hmem hsn
   rcases hb : q r with _ | _
   ·have hcl := HF.out r wr HMEM.out hbw.out
    rw [hb] at hcl
    have HCL := hid hcl
    have HB := hid hb
    clear hb hcl
    go_wp2_with (refine load_arc_mid rfl _ rfl _ _ rfl HR.out ?_)
    refine HCL.out.mono ?_
    rintro e w' ⟨rfl, hb'⟩
    have HB' := hid (hbw.out.trans (hb'.mono hbw.out.size))
    clear hb'
    go_wp2_with fail
    go_roundg (L.length - (k + 1))
    case measure => omega
    case rel => exact ⟨k + 1, by omega, rfl, by go_num, hid (by
     rw [HSN.out]
     intro e he
     rcases List.mem_append.1 he with h | h
     ·exact hno.out e h
     ·rw [List.mem_singleton] at h
      subst h
      exact HB.out), HB'⟩
   ·have hcl := HF.out r wr HMEM.out hbw.out
    rw [hb] at hcl
    have HCL := hid hcl
    have HB := hid hb
    clear hb hcl
    go_wp2_with (refine load_arc_mid rfl _ rfl _ _ rfl HR.out ?_)
    refine HCL.out.mono ?_
    rintro e w' ⟨rfl, hb'⟩
    have HB' := hid (hbw.out.trans (hb'.mono hbw.out.size))
    clear hb'
    go_wp2_with fail
    go_ret
    exact ⟨⟨_, rfl, .inr ⟨k, hlt, rfl, by rw [HX.out]; exact HB.out, hno.out⟩⟩, HB'.out⟩
  ·obtain rfl : k = L.length := by omega
   have hno2 := hno.out
   rw [List.take_length] at hno2
   have HN := hid hno2
   clear hno2 hno
   go_wp2_with fail
   go_ret
   exact ⟨⟨_, rfl, .inl ⟨rfl, HN.out⟩⟩, hbw.out⟩
theorem bound1_any {w : World} {b : Nat} {p : Int} (h : Boxed w b 3 (.int .i64 p)) (x : Arc) : Calls Tryz.prog 106 #[x.val, .pointer (some ⟨b, 0, none⟩)] w fun e w' => e = .returned (.bool (x.parcel == p)) ∧ Below w.heap.size w w' := by
 have c1 := h.cell
 have hlt := h.lt
 rcases x with ⟨x0, x1, x2, x3, x4⟩
 have hb : Below w.heap.size w (w.alloc (.cells #[.int .i64 x0, .int .i64 x1, .int .i64 x2, .int .i64 x3, .int .i64 x4] 102)) := (Below.refl _ _).alloc (Nat.le_refl _) _
 have c2 := Kept.of_below hb _ _ c1
 have c3 : (w.alloc (.cells #[.int .i64 x0, .int .i64 x1, .int .i64 x2, .int .i64 x3, .int .i64 x4] 102)).cell? ⟨w.heap.size, 0, none⟩ = some (.int .i64 x0) := by rw [cell_new]; rfl
 clear h
 simp only [Arc.val, Arc.cells]
 go_enter Tryz.func106, Tryz.ntmps106
 go_wp2_with fail
 go_ret
 exact ⟨rfl, hb⟩
theorem enters_bound1 : Enters 106 := fun args w => by kernel_rfl
/-- An end of a parcel, out of the arcs: the end, the amounts, and what is seen where it stops. -/
inductive BoundR where
 | none_
 | end_ (n : Int) (x : List Int) (sn : Option (Int → Bool))
def boundF (L : List Arc) (nodes : List Int) (p : Int) (up : Bool) : Option BoundR :=
 match balF L nodes with
 | none => none
 | some (.even x) => match L[L.findIdx fun a => a.parcel == p]? with
  | none => none
  | some a => match driveF L (L.findIdx fun a => a.parcel == p) a up drainN x with
   | none => none
   | some (y, sn) => match y[L.findIdx fun a => a.parcel == p]? with
    | none => none
    | some n => some (.end_ n y sn)
 | some _ => some .none_
theorem first_idx {L : List Arc} {q : Arc → Bool} {i : Int} (h : FirstA L q i) (hl : L.findIdx q < L.length) : i = (L.findIdx q : Nat) := by
 have hq : q L[L.findIdx q] = true := List.findIdx_getElem (w := hl)
 rcases h with ⟨rfl, h⟩ | ⟨k, hk, rfl, h1, h2⟩
 ·rw [h _ (List.getElem_mem hl)] at hq
  cases hq
 ·have h3 : L.findIdx q ≤ k := findIdx_le hk h1
  rcases Nat.lt_or_ge (L.findIdx q) k with h4 | h4
  ·have h5 := h2 L[L.findIdx q] (by
    rw [List.mem_iff_getElem]
    exact ⟨L.findIdx q, by simp; omega, by simp⟩)
   rw [hq] at h5
   cases h5
  ·have : k = L.findIdx q := by omega
   rw [this]
set_option maxHeartbeats 8000000 in
theorem graph2_any {w : World} {bb s r1 r2 r3 r4 : Nat} {A : Option Addr} {cap : Nat} {C : List Ent} {ids : List Int} (h : LooksAt w bb s r1 r2 r3 r4 A cap C ids) (hil : ids.length ≤ 100000) :
  Calls Tryz.prog 64 #[.pointer (some ⟨bb, 0, none⟩)] w fun e w' => ∃ g Aa c, e = .returned (.pointer (some ⟨g, 0, none⟩)) ∧ GraphAt w' g Aa c (arcsF C ids) none 0 0 ∧ w.heap.size ≤ g ∧ (∀ a, Aa = some a → w.heap.size ≤ a.block ∧ a.block ≠ g ∧ a.block < w'.heap.size) ∧ Below w.heap.size w w' := by
 have HA := hid (arcs_any bb w)
 have HL := hid h
 clear h
 go_enter Tryz.func64, Tryz.ntmps64
 go_wp2_with fail
 refine HA.out.mono ?_
 rintro e w2 ⟨rfl, hb2, hc2, hlt2⟩
 have HC := hid (collectA_any hil w w2 enters88 hb2 (arcs_stops 8 (by decide) w.heap.size w HL.out hil w2 hb2 hc2) hlt2)
 have HB2 := hid hb2
 clear hb2 hc2 HA
 go_wp2_with fail
 refine HC.out.mono ?_
 rintro e w3 ⟨ys, v, rfl, hys, ho, hb3⟩
 obtain ⟨A7, k7, rfl, hx1, hx2, hx3⟩ := ownsRow.form ho
 have HAR := hid (arcs_of_cells hx1)
 have HCP := hid hx2
 have HAD := hid hx3
 have HO := hid ho
 have HB3 := hid (HB2.out.trans (hb3.mono HB2.out.size))
 have HYS := hid hys
 clear hx1 hx2 hx3 ho hb3 HC hys
 go_wp2_with fail
 go_ret
 have hs2 := HB2.out.size
 have hs3 := HB3.out.size
 obtain rfl := HYS.out
 refine ⟨w3.heap.size, A7, k7, rfl, ⟨heap_alloc_new w3 _, HAR.out.kept (Kept.of_below ((Below.refl _ _).alloc (Nat.le_refl _) _)), HCP.out⟩, hs3, fun a ha => ?_, HB3.out.alloc hs3 _⟩
 obtain ⟨h1, h2, _⟩ := HAD.out a ha
 subst ha
 have := (HO.out.lt a.block (by rw [h2]; rfl)).2
 simp only [World.size_alloc]
 omega
theorem store_conf_new {ops : Array Oper} {rest : List Oper} {o : Oper} {a : Act} {w : World} {Q : Exit → Act → World → Prop} (hgd : o.guard = none) (x y : Operand) (ho : o.op = .store 55 x y)
  {g : Nat} (hx : a.eval x = .pointer (some ⟨g, 0, none⟩)) (hgw : g = w.heap.size) {p : Int} {v : Value} (hy : a.eval y = .agg #[.int .i64 p, v]) (hv : v.oneCell' = true) {zs : Array Value} (hs : zs.size = 2)
  (h : ∀ W, Below w.heap.size w W → w.heap.size < W.heap.size → wpList Tryz.prog ops Q rest (a.put o.dst undef) W) : wpList Tryz.prog ops Q (o :: rest) a (w.alloc (.cells zs 55)) := by
 subst hgw
 refine wpList_store_row hgd _ x y ho w.heap.size #[.int .i64 p, v] hx hy _ zs (heap_alloc_new w _) conf_info (hs.trans rfl) (by simp [Value.oneCell'] at hv ⊢; exact hv) (h _ (below_setRow ((Below.refl _ _).alloc (Nat.le_refl _) _) (Nat.le_refl _) _) ?_)
 simp
theorem results_tmp4 {fn : Func} {t u v x : Tmp} (h : fn.results = #[.tmp t, .tmp u, .tmp v, .tmp x]) (tmps : Array Value) (P : Program) (w : World) :
  (results fn tmps).run P w = .ok (.tuple #[tmps.getD t undef, tmps.getD u undef, tmps.getD v undef, tmps.getD x undef]) w := by
 simp [results, h]
def BoundPost (w : World) (C : List Ent) (R : BoundR) (e : Ending) (w' : World) : Prop :=
 Below w.heap.size w w' ∧ match R with
 | .none_ => e = .returned (.tuple #[.int .i64 0, .slice none 0 0, .slice none 0 0, .bool false])
 | .end_ n x sn => ∃ v1 v2, e = .returned (.tuple #[.int .i64 n, v1, v2, .bool true]) ∧ (∃ xb, w.heap.size ≤ xb ∧ v1 = .slice (some ⟨xb, 0, none⟩) x.length x.length ∧ Block w' xb 3 (ints x)) ∧ w'.ownsRow w.heap.size 3 1 v2 (sideV (reps C) sn).length (ints (sideV (reps C) sn))
theorem bbox_gen {w : World} {t : TypeId} {v : Value} {F : World → Prop} {n : Nat} (hn : n = w.heap.size) (k : ∀ W, Boxed W n t v → Below n w W → n < W.heap.size → F W) : F (w.alloc (.cells #[v] t)) := by
 subst hn
 exact k _ (Boxed.new w t v) ((Below.refl _ _).alloc (Nat.le_refl _) _) (by simp)
def GoodL (L : List Arc) : Prop := ∀ a ∈ L, okN a.lo = true ∧ okN a.hi = true
theorem LooksAt.near {w w' : World} {bb s r1 r2 r3 r4 q : Nat} {A : Option Addr} {cap : Nat} {C : List Ent} {ids : List Int} (h : LooksAt w bb s r1 r2 r3 r4 A cap C ids) {w1 : World} (hb : Below w.heap.size w w1) (hg : w1.grownBy w' (some q)) (hq : w.heap.size ≤ q) : LooksAt w' bb s r1 r2 r3 r4 A cap C ids :=
 h.below (hb.grown hg hb.size (fun k e => by cases e; exact hq))
set_option maxHeartbeats 16000000 in
theorem bound_any {w : World} {bb s r1 r2 r3 r4 : Nat} {As : Option Addr} {cap : Nat} {C : List Ent} {ids : List Int} (hB : LooksAt w bb s r1 r2 r3 r4 As cap C ids) (hcl : C.length ≤ 210) (hil : ids.length ≤ 2000) (hgd : GoodL (arcsF C ids)) (p : Int) (up : Bool) {R : BoundR} (hR : boundF (arcsF C ids) (nodesF (reps C)) p up = some R) :
  Calls Tryz.prog 61 #[.pointer (some ⟨bb, 0, none⟩), .int .i64 p, .bool up] w (BoundPost w C R) := by
 have hLl : (arcsF C ids).length = ids.length := by simp [arcsF]
 have hgr := fun w1 (hb : Below w.heap.size w w1) => graph2_any (hB.below hb) (by omega)
 obtain ⟨L, hL⟩ : ∃ L, arcsF C ids = L := ⟨_, rfl⟩
 rw [hL] at hR hgd hLl
 simp only [hL] at hgr
 have HLL := hid hLl
 have HGRF := hid hgr
 have HLA := hid hB
 have HGD := hid hgd
 unfold boundF at hR
 rcases hbal : balF L (nodesF (reps C)) with _ | BR
 ·rw [hbal] at hR
  cases hR
 rw [hbal] at hR
 have HR := hid hR
 have HBAL := hid hbal
 clear hB hgd hR hbal hL hgr hLl
 go_enter Tryz.func61, Tryz.ntmps61
 go_upto_region 1 with fail
 refine bbox_gen rfl ?_
 intro W1 hc1 hb1 hlt1
 have HC1 := hid (show Boxed W1 w.heap.size 3 (.int .i64 p) from hc1)
 have HB1 := hid hb1
 have HG1 := hid (HGRF.out W1 hb1)
 clear hc1 hb1 HGRF
 go_wp2_with fail
 refine HG1.out.mono ?_
 rintro e w2 ⟨g, Aa, c, rfl, hga, hgl, hAa, hb2⟩
 have hglt := hga.lt
 have HGA := hid hga
 have HB2 := hid (HB1.out.trans (hb2.mono HB1.out.size))
 have HBW2 := hid hb2
 have HAA := hid hAa
 have hs1 := HB1.out.size
 clear hga hAa hb2 HG1
 have hnear : ∀ wr, w2.grownBy wr (some g) → LooksAt wr bb s r1 r2 r3 r4 As cap C ids := fun wr hg => HLA.out.near HB2.out hg (by omega)
 have HBA := hid (balance_any HGA.out (fun a e => ⟨(HAA.out a e).2.2, (HAA.out a e).2.1⟩) hnear hcl (by have := HLL.out; omega) HGD.out HBAL.out)
 clear hnear
 go_wp2_with fail
 refine HBA.out.mono ?_
 rintro e w3 ⟨hn3, hcase⟩
 have HB3 : Hid (Below w.heap.size w w3) := hid (HB2.out.grown hn3 HB2.out.size (fun k e => by cases e; omega))
 have HC3 : Hid (Boxed w3 w.heap.size 3 (.int .i64 p)) := hid (((HBW2.out.block _ hlt1).trans HC1.out |> fun (h : w2.heap[w.heap.size]? = _) => (hn3.block _ (Array.getElem?_eq_some_iff.1 h).1 (fun e => by cases e; omega)).trans h))
 clear HBA hn3
 rcases BR with p0 | seen | x
 ·subst hcase
  have hr := HR.out
  cases hr
  go_wp2_with (first | (refine store_conf_new rfl _ _ rfl rfl rfl (p := p0) (v := .slice none 0 0) rfl rfl rfl ?_; intro W4 hb4 hlt4; have HB4 := hid (HB3.out.trans (hb4.mono HB3.out.size)); clear hb4))
  refine bodyPost_ret (results_tmp4 rfl _ _ _) rfl ?_
  exact ⟨HB4.out, rfl⟩
 ·obtain ⟨v3, rfl, ho3⟩ := hcase
  obtain ⟨A7, k7, rfl, hx1⟩ := ownsRow.form ho3
  have hr := HR.out
  cases hr
  clear hx1 ho3
  go_wp2_with (first | (refine store_conf_new rfl _ _ rfl rfl rfl (p := 0) (v := .slice A7 (sideF (reps C) seen).length k7) rfl rfl rfl ?_; intro W4 hb4 hlt4; have HB4 := hid (HB3.out.trans (hb4.mono HB3.out.size)); clear hb4))
  refine bodyPost_ret (results_tmp4 rfl _ _ _) rfl ?_
  exact ⟨HB4.out, rfl⟩
 ·obtain ⟨rfl, xb, hxb, hgx, hgn, hxl⟩ := hcase
  have hr := HR.out
  dsimp only at hr
  obtain ⟨i, hi⟩ : ∃ i, L.findIdx (fun a => a.parcel == p) = i := ⟨_, rfl⟩
  rw [hi] at hr
  rcases hLi : L[i]? with _ | a
  ·rw [hLi] at hr
   cases hr
  rw [hLi] at hr
  dsimp only at hr
  obtain ⟨hil2, hLg⟩ := List.getElem?_eq_some_iff.1 hLi
  rcases hdr : driveF L i a up drainN x with _ | ⟨y, sn⟩
  ·rw [hdr] at hr
   cases hr
  rw [hdr] at hr
  dsimp only at hr
  rcases hyi : y[i]? with _ | n
  ·rw [hyi] at hr
   cases hr
  rw [hyi] at hr
  have hr2 := Option.some.inj hr
  subst hr2
  obtain ⟨hiy, hyg⟩ := List.getElem?_eq_some_iff.1 hyi
  have HDR := hid hdr
  have HI := hid hi
  have HLG := hid hLg
  have HYG := hid hyg
  have HGX := hid hgx
  have HGN := hid hgn
  have HXL := hid hxl
  have HHR := hid hxb
  have hbq := HBW2.out.size
  have hs3 := HB3.out.size
  clear hr hi hLi hLg hdr hyi hyg hgx hgn hxl HR HBAL
  go_upto_region 3 with (first | (refine store_conf_new rfl _ _ rfl rfl rfl (p := 0) (v := .slice none 0 0) rfl rfl rfl ?_; intro W4 hb4 hlt4; have HB4 := hid (HB3.out.trans (hb4.mono HB3.out.size)); have HG4 := hid (HGX.out.below hb4); have HC4 := hid (HC3.out.kept (grown_of_below hb4) (by simp)); have HBW4 := hid hb4; clear hb4))
  have hLA4 := HLA.out.below HB4.out
  have hIX := indexArcs_any 106 enters_bound1 (.pointer (some ⟨w.heap.size, 0, none⟩)) (fun a => a.parcel == p) Aa c L W4 (by have := HLL.out; omega) HG4.out.arcs (fun z wr _ hb => bound1_any (HC4.out.kept (grown_of_below hb) (by simp)) z)
  have HIX := hid hIX
  have HLA4 := hid hLA4
  obtain ⟨g0, g1, _⟩ := HG4.out.graph.1.at_
  have HCAP := hid HG4.out.cap
  clear hLA4 hIX
  rcases up with _ | _
  ·go_upto_region 9 with (fail)
   refine HIX.out.mono ?_
   rintro e w5 ⟨⟨ii, rfl, hfirst⟩, hb5⟩
   have hii := first_idx hfirst (by rw [HI.out]; exact hil2)
   rw [HI.out] at hii
   subst hii
   have HB5 := hid (HB4.out.trans (hb5.mono HB4.out.size))
   have HG5 := hid (HG4.out.below hb5)
   have hxb2 := HHR.out
   have hbx : ∀ wr, w5.grownBy wr (some xb) → LooksAt wr bb s r1 r2 r3 r4 As cap C ids := fun wr hg => HLA.out.near HB5.out hg (by omega)
   have HDRV := hid (sink_any hcl HG5.out hbx ⟨by rw [HXL.out], by have := HLL.out; omega⟩ HGN.out i hil2 (fuel := drainN) (x' := y) (sn := sn) (by rw [HLG.out]; exact HDR.out))
   clear hbx hfirst hb5 HIX g0 g1
   go_wp2_with fail
   refine HDRV.out.mono ?_
   rintro e w6 ⟨⟨v6, rfl, ho6⟩, hg6, hgr6, hyl, _⟩
   obtain ⟨A7, k7, rfl, hx1⟩ := ownsRow.form ho6
   have HO6 := hid ho6
   have HG6 := hid hg6
   have HB6 : Hid (Below w.heap.size w w6) := hid (HB5.out.grown hgr6 HB5.out.size (fun k e => by cases e; omega))
   obtain ⟨_, g1, _⟩ := hg6.graph.1.at_
   obtain ⟨b9, off9, e9, hr9⟩ := hg6.graph.2 (by omega)
   cases e9
   have hx9 := hr9 i hiy
   rw [HYG.out, Nat.zero_add] at hx9
   have j0 : (0 : Int) ≤ i := by omega
   have j1 : (i : Int) < y.length := by omega
   have hs5 := HB5.out.size
   clear hx1 ho6 hg6 hgr6 hr9 HDRV hyl
   go_wp2_with fail
   go_quiet (fail)
   go_wp2_with fail
   refine bodyPost_ret (results_tmp4 rfl _ _ _) rfl ?_
   have hbd := Below.drewN' (Below.refl w6.heap.size w6)
   exact ⟨HB6.out.trans ((hbd _).mono HB6.out.size), _, _, rfl, ⟨xb, by omega, rfl, (HG6.out.below (hbd _)).row⟩, own_below (own_lo HO6.out hs5) (hbd _)⟩
  ·go_upto_region 9 with (fail)
   refine HIX.out.mono ?_
   rintro e w5 ⟨⟨ii, rfl, hfirst⟩, hb5⟩
   have hii := first_idx hfirst (by rw [HI.out]; exact hil2)
   rw [HI.out] at hii
   subst hii
   have HB5 := hid (HB4.out.trans (hb5.mono HB4.out.size))
   have HG5 := hid (HG4.out.below hb5)
   have hxb2 := HHR.out
   have hbx : ∀ wr, w5.grownBy wr (some xb) → LooksAt wr bb s r1 r2 r3 r4 As cap C ids := fun wr hg => HLA.out.near HB5.out hg (by omega)
   have HDRV := hid (raise_any hcl HG5.out hbx ⟨by rw [HXL.out], by have := HLL.out; omega⟩ HGN.out i hil2 (fuel := drainN) (x' := y) (sn := sn) (by rw [HLG.out]; exact HDR.out))
   clear hbx hfirst hb5 HIX g0 g1
   go_wp2_with fail
   refine HDRV.out.mono ?_
   rintro e w6 ⟨⟨v6, rfl, ho6⟩, hg6, hgr6, hyl, _⟩
   obtain ⟨A7, k7, rfl, hx1⟩ := ownsRow.form ho6
   have HO6 := hid ho6
   have HG6 := hid hg6
   have HB6 : Hid (Below w.heap.size w w6) := hid (HB5.out.grown hgr6 HB5.out.size (fun k e => by cases e; omega))
   obtain ⟨_, g1, _⟩ := hg6.graph.1.at_
   obtain ⟨b9, off9, e9, hr9⟩ := hg6.graph.2 (by omega)
   cases e9
   have hx9 := hr9 i hiy
   rw [HYG.out, Nat.zero_add] at hx9
   have j0 : (0 : Int) ≤ i := by omega
   have j1 : (i : Int) < y.length := by omega
   have hs5 := HB5.out.size
   clear hx1 ho6 hg6 hgr6 hr9 HDRV hyl
   go_wp2_with fail
   go_quiet (fail)
   go_wp2_with fail
   refine bodyPost_ret (results_tmp4 rfl _ _ _) rfl ?_
   have hbd := Below.drewN' (Below.refl w6.heap.size w6)
   exact ⟨HB6.out.trans ((hbd _).mono HB6.out.size), _, _, rfl, ⟨xb, by omega, rfl, (HG6.out.below (hbd _)).row⟩, own_below (own_lo HO6.out hs5) (hbd _)⟩
theorem says_span {C : List Ent} (hs : Sound (reps C)) {p : Int} {e : Ent} (he : e ∈ saysE C p) : 1 ≤ e.1.lo ∧ e.1.lo ≤ e.1.hi ∧ e.1.hi ≤ 100000 := by
 unfold saysE at he
 obtain ⟨h1, h2⟩ := List.mem_filter.1 he
 unfold saysB at h2
 simp only [Bool.and_eq_true, decide_eq_true_eq] at h2
 have hw := hs.wfs e.1 (List.mem_map_of_mem (f := Prod.fst) h1)
 refine hw.span ?_
 have h3 := h2.1
 unfold aboutN at h3
 split at h3
 ·exact .inl (by assumption)
 ·split at h3
  ·exact .inr (by assumption)
  ·omega
theorem fold_max_ok : ∀ (l : List Ent) (m : Int), (∀ e ∈ l, 1 ≤ e.1.lo ∧ e.1.lo ≤ 100000) → 1 ≤ m → m ≤ 100000 → 1 ≤ l.foldl (fun m e => max m e.1.lo) m ∧ l.foldl (fun m e => max m e.1.lo) m ≤ 100000
 | [], m, _, h1, h2 => ⟨h1, h2⟩
 | e :: l, m, h, h1, h2 => by
  have := h e (by simp)
  exact fold_max_ok l (max m e.1.lo) (fun x hx => h x (by simp [hx])) (by omega) (by omega)
theorem fold_min_ok : ∀ (l : List Ent) (m : Int), (∀ e ∈ l, 1 ≤ e.1.hi ∧ e.1.hi ≤ 100000) → 1 ≤ m → m ≤ 100000000 → 1 ≤ l.foldl (fun m e => min m e.1.hi) m ∧ l.foldl (fun m e => min m e.1.hi) m ≤ 100000000
 | [], m, _, h1, h2 => ⟨h1, h2⟩
 | e :: l, m, h, h1, h2 => by
  have := h e (by simp)
  exact fold_min_ok l (min m e.1.hi) (fun x hx => h x (by simp [hx])) (by omega) (by omega)
theorem arcs_good {C : List Ent} (hs : Sound (reps C)) (ids : List Int) : GoodL (arcsF C ids) := by
 intro a ha
 obtain ⟨p, _, rfl⟩ := List.mem_map.1 ha
 have h1 := fold_max_ok (saysE C p) 1 (fun e he => by have := says_span hs he; omega) (by omega) (by omega)
 have h2 := fold_min_ok (saysE C p) 100000000 (fun e he => by have := says_span hs he; omega) (by omega) (by omega)
 unfold okN arcF parcelF
 dsimp only
 constructor
 ·simp only [Bool.and_eq_true, decide_eq_true_eq]
  omega
 ·simp only [Bool.and_eq_true, decide_eq_true_eq]
  omega
theorem ids_few {C : List Ent} (hs : Sound (reps C)) (hcl : C.length ≤ 210) {ids : List Int} (h : IdsOf C ids) : ids.length ≤ 1680 := by
 have := made_few hs (h.1.imp (fun h => by omega)) (fun p hp => ((h.2 p).1 hp).1)
 omega
def weightF (C : List Ent) (ids : List Int) (p : Int) : Option (Int × Int × Int) :=
 match boundF (arcsF C ids) (nodesF (reps C)) p false with
 | none => none
 | some .none_ => some (0, 0, 32)
 | some (.end_ lo _ _) => match boundF (arcsF C ids) (nodesF (reps C)) p true with
  | none => none
  | some .none_ => some (lo, 0, 0)
  | some (.end_ hi _ _) => some (lo, hi, 0)
set_option maxHeartbeats 16000000 in
theorem weight_any (A : Option Addr) (cap : Nat) (L : List Ent) (K p : Int) (w : World) (hA : EntsAt w A L) (hl : L.length ≤ 210) (hcap : L.length ≤ cap) {lo hi en : Int} (hW : ∀ ids, IdsOf (countE L K) ids → p ∈ ids → weightF (countE L K) ids p = some (lo, hi, en)) :
  Calls Tryz.prog 24 #[.slice A L.length cap, .int .i64 K, .int .i64 p] w fun e w' => Below w.heap.size w w' ∧
   ((∃ er, FailsBy L K [p] er ∧ e = .returned (.tuple #[.int .i64 0, .int .i64 0, .int .i64 er])) ∨ (Valid (reps L) ∧ ∃ ids, IdsOf (countE L K) ids ∧ p ∈ ids ∧ e = .returned (.tuple #[.int .i64 lo, .int .i64 hi, .int .i64 en]))) := by
 have HLK := hid (looks_later hA hl hcap K [p] (by simp) 1)
 have HCL : Hid ((countE L K).length ≤ 210) := hid (Nat.le_trans (countE_len L K) hl)
 have HWF := hid hW
 clear hA hW
 go_enter Tryz.func24, Tryz.ntmps24
 go_wp2_with fail
 refine (HLK.out _ _ ((Below.refl _ _).alloc (Nat.le_refl _) _) (ints_new w p)).mono ?_
 rintro e w2 hpost
 obtain ⟨hb2, hcase⟩ := looks_two hpost
 have HB2 := hid (((Below.refl _ w).alloc (Nat.le_refl _) (.cells #[.int .i64 p] 3)).trans (hb2.mono (by simp)))
 clear hpost hb2
 rcases hcase with ⟨er, hf, rfl⟩ | ⟨hv, ids, hids, hin, bb, s, r1, r2, r3, r4, A2, cap2, rfl, hla⟩
 ·have hne : (er != 0) = true := bne_iff_ne.2 hf.ne
  have HF := hid hf
  clear hf
  go_wp2_with fail
  go_ret3
  exact ⟨HB2.out, .inl ⟨er, HF.out, rfl⟩⟩
 ·have HI := hid hids
  have HIN := hid (hin p (by simp))
  have HV := hid hv
  have hso := hla.sound
  have hil := ids_few hso HCL.out hids
  have hw := HWF.out ids hids (hin p (by simp))
  unfold weightF at hw
  rcases hb0 : boundF (arcsF (countE L K) ids) (nodesF (reps (countE L K))) p false with _ | R0
  ·rw [hb0] at hw
   cases hw
  rw [hb0] at hw
  have HBO := hid (bound_any hla HCL.out (by omega) (arcs_good hso ids) p false hb0)
  have HWE := hid hw
  have HSO := hid hso
  have HLA := hid hla
  clear hids hin hv hla hw hb0 hso
  go_wp2_with fail
  refine HBO.out.mono ?_
  rintro e w3 ⟨hb3, hcase⟩
  have HB3 := hid (HB2.out.trans (hb3.mono HB2.out.size))
  have HLA3 := hid (HLA.out.below hb3)
  clear hb3 HBO
  rcases R0 with _ | ⟨l0, x0, sn0⟩
  ·subst hcase
   have hw := HWE.out
   cases hw
   go_wp2_with fail
   go_ret3
   exact ⟨HB3.out, .inr ⟨HV.out, ids, HI.out, HIN.out, rfl⟩⟩
  ·obtain ⟨v1, v2, rfl, ⟨xb, _, rfl, _⟩, ho2⟩ := hcase
   obtain ⟨A7, k7, rfl, hx1⟩ := ownsRow.form ho2
   have hw := HWE.out
   dsimp only at hw
   rcases hb1 : boundF (arcsF (countE L K) ids) (nodesF (reps (countE L K))) p true with _ | R1
   ·rw [hb1] at hw
    cases hw
   rw [hb1] at hw
   have HBO := hid (bound_any HLA3.out HCL.out (by omega) (arcs_good HSO.out ids) p true hb1)
   have HWE := hid hw
   clear hx1 ho2 hw hb1
   go_wp2_with fail
   refine HBO.out.mono ?_
   rintro e w4 ⟨hb4, hcase⟩
   have HB4 := hid (HB3.out.trans (hb4.mono HB3.out.size))
   clear hb4 HBO
   rcases R1 with _ | ⟨l1, x1, sn1⟩
   ·subst hcase
    have hw := HWE.out
    cases hw
    go_wp2_with fail
    go_ret3
    exact ⟨HB4.out, .inr ⟨HV.out, ids, HI.out, HIN.out, rfl⟩⟩
   ·obtain ⟨v1, v2, rfl, ⟨xb1, _, rfl, _⟩, ho2⟩ := hcase
    obtain ⟨A8, k8, rfl, hx1⟩ := ownsRow.form ho2
    have hw := HWE.out
    cases hw
    clear hx1 ho2
    go_wp2_with fail
    go_ret3
    exact ⟨HB4.out, .inr ⟨HV.out, ids, HI.out, HIN.out, rfl⟩⟩
def acrossF (a : Arc) (side : List Int) : Int := if a.to_ ∈ side ∧ a.from_ ∉ side then 1 else if a.from_ ∈ side ∧ a.to_ ∉ side then -1 else 0
theorem enters_contains : Enters 113 := fun args w => by kernel_rfl
theorem arc_box (w : World) (a : Arc) : ∀ cs, cs = a.cells → ArcIs (w.alloc (.cells cs 102)) w.heap.size a := fun cs h => by
 subst h
 exact heap_alloc_new w _
set_option maxHeartbeats 8000000 in
theorem across_any (a : Arc) {S : Option Addr} {sc : Nat} {side : List Int} (w : World) (hS : IntsAt w S side) (hl : side.length ≤ 1000000) :
  Calls Tryz.prog 72 #[a.val, .slice S side.length sc] w fun e w' => e = .returned (.int .i64 (acrossF a side)) ∧ Below w.heap.size w w' := by
 obtain ⟨t, ht⟩ : ∃ t, decide (a.to_ ∈ side) = t := ⟨_, rfl⟩
 obtain ⟨f, hf⟩ : ∃ f, decide (a.from_ ∈ side) = f := ⟨_, rfl⟩
 have hac : acrossF a side = if t && !f then 1 else if f && !t then -1 else 0 := by
  unfold acrossF
  rw [← ht, ← hf]
  by_cases h1 : a.to_ ∈ side <;> by_cases h2 : a.from_ ∈ side <;> simp [h1, h2]
 rw [hac]
 have hb : Below w.heap.size w (w.alloc (.cells a.cells 102)) := (Below.refl _ _).alloc (Nat.le_refl _) _
 have ha := arc_box w a _ rfl
 have hS2 := (hS.kept (Kept.of_below hb)).kept (Kept.of_below (Below.refl _ (w.alloc (.cells a.cells 102))).drew)
 have HT := hid (contains_t S sc side a.to_ _ hl hS2 ht)
 have HF := hid (contains_t S sc side a.from_ _ hl hS2 hf)
 have HA := hid (ha.below (Below.refl _ _).drew)
 have HB := hid (hb.trans ((Below.refl _ _).drew.mono hb.size))
 clear ht hf hac hb ha hS hS2
 rcases a with ⟨x0, x1, x2, x3, x4⟩
 simp only [Arc.val, Arc.cells] at HT HF HA HB ⊢
 go_enter Tryz.func72, Tryz.ntmps72
 go_upto_region 1 with fail
 refine wp_region_noPanic ?_
 refine wp_region_held_drew (S := fun w' => w'.cell? ⟨w.heap.size, 2, none⟩ = some (.int .i64 x2) ∧ w'.cell? ⟨w.heap.size, 1, none⟩ = some (.int .i64 x1)) (by kernel_rfl) (⟨HA.out.at_.2.2.1, HA.out.at_.2.1⟩) (fun hHeld => ?_)
 refine tk 0 (fun _ _ _ _ _ h => h) (by kernel_rfl) ‹_› ⟨_, ?_, by simp only [zz1, zz2]; rfl, .inl ⟨by rfl, ?_⟩, ?_⟩; rotate_left; · (intro w hSw; (try dsimp only at hSw); go_simp; all_goals with_reducible rfl)
 simp only [Act.put, zz4, zz5, zz6]
 refine tk 1 (fun _ _ _ _ _ h => h) (by kernel_rfl) ‹_› ⟨_, ?_, by simp only [zz1, zz2, zz3]; rfl, .inl ⟨by rfl, ?_⟩, ?_⟩; rotate_left; · (intro w hSw; (try dsimp only at hSw); go_simp; all_goals with_reducible rfl)
 simp only [Act.put, zz4, zz5, zz6]
 refine tk 2 (fun _ _ _ _ _ h => h) (by kernel_rfl) ‹_› ⟨_, ?_, by simp only [zz1, zz2, zz3]; rfl, .inl ⟨by rfl, ?_⟩, ?_⟩; rotate_left; · (intro w hSw; (try dsimp only at hSw); go_simp; all_goals with_reducible rfl)
 simp only [Act.put, zz4, zz5, zz6]
 refine tk 4 (fun _ _ _ _ _ h => h) (by kernel_rfl) ‹_› ⟨_, ?_, by simp only [zz1, zz2, zz3]; rfl, .inl ⟨by rfl, ?_⟩, ?_⟩; rotate_left; · (intro w hSw; (try dsimp only at hSw); go_simp; all_goals with_reducible rfl)
 simp only [Act.put, zz4, zz5, zz6]
 refine tk 5 (fun _ _ _ _ _ h => h) (by kernel_rfl) ‹_› ⟨_, ?_, by simp only [zz1, zz2, zz3]; rfl, .inl ⟨by rfl, ?_⟩, ?_⟩; rotate_left; · (intro w hSw; (try dsimp only at hSw); go_simp; all_goals with_reducible rfl)
 simp only [Act.put, zz4, zz5, zz6]
 refine tk 6 (fun _ _ _ _ _ h => h) (by kernel_rfl) ‹_› ⟨_, ?_, by simp only [zz1, zz2, zz3]; rfl, .inl ⟨by rfl, ?_⟩, ?_⟩; rotate_left; · (intro w hSw; (try dsimp only at hSw); go_simp; all_goals with_reducible rfl)
 simp only [Act.put, zz4, zz5, zz6]
 refine wpAnyH_ready (rs := [3]) (by kernel_rfl) (by simp) ?_
 refine cons_one (i := 3) ⟨_, by simp only [zz1, zz2, zz3]; rfl, fun K hK => ?_⟩ ?_
 rotate_left
 ·exact AllReadyH.nil
 refine step_call rfl #[.tmp 7, .tmp 9] 113 _ rfl enters_contains #[.slice S side.length sc, .int .i64 x2] ?hs (fun u w' => u = .bool t ∧ (w.alloc (.cells #[.int .i64 x0, .int .i64 x1, .int .i64 x2, .int .i64 x3, .int .i64 x4] 102)).drew = w') (HT.out.mono (fun e w' h => ⟨_, h.1, rfl, h.2⟩)) ?_
 case hs => simp [Act.eval]
 rintro _ _ ⟨rfl, rfl⟩
 clear hHeld
 refine hK.out _ _ (⟨HA.out.at_.2.2.1, HA.out.at_.2.1⟩) (fun hHeld => ?_)
 clear hK K
 try simp only [Act.put, zz4, zz5, zz6]
 refine wpAnyH_ready (rs := [7]) (by kernel_rfl) (by simp) ?_
 refine cons_one (i := 7) ⟨_, by simp only [zz1, zz2, zz3]; rfl, fun K hK => ?_⟩ ?_
 rotate_left
 ·exact AllReadyH.nil
 refine step_call rfl #[.tmp 11, .tmp 13] 113 _ rfl enters_contains #[.slice S side.length sc, .int .i64 x1] ?hs (fun u w' => u = .bool f ∧ (w.alloc (.cells #[.int .i64 x0, .int .i64 x1, .int .i64 x2, .int .i64 x3, .int .i64 x4] 102)).drew = w') (HF.out.mono (fun e w' h => ⟨_, h.1, rfl, h.2⟩)) ?_
 case hs => simp [Act.eval]
 rintro _ _ ⟨rfl, rfl⟩
 clear hHeld
 refine hK.out _ _ (⟨HA.out.at_.2.2.1, HA.out.at_.2.1⟩) (fun hHeld => ?_)
 clear hK K
 try simp only [Act.put, zz4, zz5, zz6]
 refine tk 8 (fun _ _ _ _ _ h => h) (by kernel_rfl) ‹_› ⟨_, ?_, by simp only [zz1, zz2, zz3]; rfl, .inl ⟨by rfl, ?_⟩, ?_⟩; rotate_left; · (intro w hSw; (try dsimp only at hSw); go_simp; all_goals with_reducible rfl)
 simp only [Act.put, zz4, zz5, zz6]
 refine tk 9 (fun _ _ _ _ _ h => h) (by kernel_rfl) ‹_› ⟨_, ?_, by simp only [zz1, zz2, zz3]; rfl, .inl ⟨by rfl, ?_⟩, ?_⟩; rotate_left; · (intro w hSw; (try dsimp only at hSw); go_simp; all_goals with_reducible rfl)
 simp only [Act.put, zz4, zz5, zz6]
 refine wpAnyH_done (by kernel_rfl) ?_ _
 refine NoPanic.normal ?_
 clear HT HF
 rcases t with _ | _ <;> rcases f with _ | _
 all_goals go_wp2_with fail
 all_goals go_ret
 all_goals exact ⟨rfl, HB.out⟩
def endF (a : Arc) (up : Bool) : Int := if up then a.hi else a.lo
set_option maxHeartbeats 8000000 in
theorem end_any (a : Arc) (up : Bool) (w : World) : Calls Tryz.prog 68 #[a.val, .bool up] w fun e w' => e = .returned (.int .i64 (endF a up)) ∧ Below w.heap.size w w' := by
 have hb : Below w.heap.size w (w.alloc (.cells a.cells 102)) := (Below.refl _ _).alloc (Nat.le_refl _) _
 have ha := arc_box w a _ rfl
 rcases a with ⟨x0, x1, x2, x3, x4⟩
 simp only [Arc.val, Arc.cells] at hb ha ⊢
 obtain ⟨_, _, _, c3, c4⟩ := ha.at_
 have HB := hid hb
 clear hb ha
 rcases up with _ | _
 ·go_enter Tryz.func68, Tryz.ntmps68
  go_wp2_with fail
  go_ret
  exact ⟨rfl, HB.out⟩
 ·go_enter Tryz.func68, Tryz.ntmps68
  go_wp2_with fail
  go_ret
  exact ⟨rfl, HB.out⟩
def moveId (n : Int) (r : Rep) : Bool := decide (r.id = n) && moveB r
def IsSideP (C : List Rep) (side : List Int) : Prop := ∀ j (h : j < side.length), C.any (moveId side[j]) = true ∧ (0 < j → side[j - 1] < side[j])
theorem enters_isSide1 : Enters 110 := fun args w => by kernel_rfl
set_option maxHeartbeats 4000000 in
theorem isSide1_asks {w : World} {g : Nat} {n : Int} (hx : w.cell? ⟨g, 0, none⟩ = some (.int .i64 n)) (L : List Ent) :
  AsksR w 110 (.pointer (some ⟨g, 0, none⟩)) L (moveId n) := by
 rintro ⟨r, P, c⟩ wr _ hb
 obtain ⟨W, hW, hbx, hbW, hlt⟩ := boxC r P c wr
 have hn := Kept.of_below hbW _ _ (Kept.of_below hb _ _ hx)
 have HB := hid hbW
 obtain ⟨c0, c1, c2, c3, c4, c5, c6, c7, c8, c9, c10, c11, c12, c13, c14⟩ := hbx.at_
 have hq : moveId n r = (decide (r.id = n) && decide (r.kind = 2 ∨ r.kind = 3)) := rfl
 have HQ := hid hq
 clear hbx hbW hx hb c1 c2 c4 c5 c6 c7 c8 c9 c10 c11 c12 c13 c14 hq
 dsimp only
 by_cases h1 : r.id = n
 ·have d1 : (r.id == n) = true := beq_iff_eq.2 h1
  by_cases k2 : r.kind = 2
  ·have d2 : (r.kind == 2) = true := beq_iff_eq.2 k2
   have HZ : Hid (moveId n r = true) := hid (by rw [HQ.out]; simp [h1, k2])
   clear k2 h1
   go_enter Tryz.func110, Tryz.ntmps110
   go_wp2_with fail
   go_ret
   exact ⟨ret_bool HZ.out.symm, HB.out⟩
  ·have d2 : (r.kind == 2) = false := beq_eq_false_iff_ne.2 k2
   by_cases k3 : r.kind = 3
   ·have d3 : (r.kind == 3) = true := beq_iff_eq.2 k3
    have HZ : Hid (moveId n r = true) := hid (by rw [HQ.out]; simp [h1, k3])
    clear k2 k3 h1
    go_enter Tryz.func110, Tryz.ntmps110
    go_wp2_with fail
    go_ret
    exact ⟨ret_bool HZ.out.symm, HB.out⟩
   ·have d3 : (r.kind == 3) = false := beq_eq_false_iff_ne.2 k3
    have HZ : Hid (moveId n r = false) := hid (by rw [HQ.out]; simp [k2, k3])
    clear k2 k3 h1
    go_enter Tryz.func110, Tryz.ntmps110
    go_wp2_with fail
    go_ret
    exact ⟨ret_bool HZ.out.symm, HB.out⟩
 ·have d1 : (r.id == n) = false := beq_eq_false_iff_ne.2 h1
  have HZ : Hid (moveId n r = false) := hid (by rw [HQ.out]; simp [h1])
  clear h1
  go_enter Tryz.func110, Tryz.ntmps110
  go_wp2_with fail
  go_ret
  exact ⟨ret_bool HZ.out.symm, HB.out⟩
set_option maxHeartbeats 8000000 in
theorem isSide_any {w : World} {bb s r1 r2 r3 r4 : Nat} {As : Option Addr} {cap : Nat} {C : List Ent} {ids : List Int} (h : LooksAt w bb s r1 r2 r3 r4 As cap C ids) (hcl : C.length ≤ 210) {S : Option Addr} {sc : Nat} {side : List Int} (hS : IntsAt w S side) (hl : side.length ≤ 1000000) :
  Calls Tryz.prog 66 #[.pointer (some ⟨bb, 0, none⟩), .slice S side.length sc] w fun e w' => (∃ t, e = .returned (.bool t) ∧ (t = true ↔ IsSideP (reps C) side)) ∧ Below w.heap.size w w' := by
 have HL := hid h
 have HS := hid hS
 clear h hS
 go_enter Tryz.func66, Tryz.ntmps66
 go_upto_region 2 with fail
 go_loopg [10] (side.length) (fun g i wr => ∃ k : Nat, k ≤ side.length ∧ g = side.length - k ∧ i = .int .i64 k ∧ Hid (∀ j (h : j < side.length), j < k → (reps C).any (moveId side[j]) = true ∧ (0 < j → side[j - 1] < side[j])) ∧ Hid (Below w.heap.size w wr))
 case atStart => exact ⟨0, by omega, by omega, rfl, hid (fun j _ h => by omega), hid (Below.refl _ _)⟩
 case round =>
  obtain ⟨k, hk, hgk, rfl, hok, hbw⟩ := hrel
  by_cases hlt : k < side.length
  ·obtain ⟨b, off, hAe, hc⟩ := (HS.out.kept (Kept.of_below hbw.out)) (by omega)
   subst hAe
   have hck := hc k hlt
   have HC := hid hc
   have i0 : (0 : Int) ≤ k := by omega
   have i1 : (k : Int) < side.length := by omega
   obtain ⟨n, hn⟩ : ∃ n, side[k] = n := ⟨_, rfl⟩
   rw [hn] at hck
   have HN := hid hn
   obtain ⟨c0, _, _⟩ := (HL.out.below hbw.out).cells
   obtain ⟨s0, _, _, _⟩ := (HL.out.below hbw.out).store.cell
   have HSL : Hid (bb < wr.heap.size ∧ s < wr.heap.size) := hid ⟨by
    obtain ⟨_, _, h1, _⟩ := (HL.out.below hbw.out).box
    exact (Array.getElem?_eq_some_iff.1 h1).1, (HL.out.below hbw.out).store.lt⟩
   clear hc hn c0 s0
   go_upto_region 4 with fail
   refine bbox_gen rfl ?_
   intro W2 hbx2 hb2 hlt2
   have HB2 := hid (hbw.out.trans (hb2.mono hbw.out.size))
   have HX2 := hid hbx2
   obtain ⟨c0, _, _⟩ := (HL.out.below HB2.out).cells
   obtain ⟨s0, _, _, _⟩ := (HL.out.below HB2.out).store.cell
   obtain ⟨mv, hmv⟩ : ∃ mv, (reps C).any (moveId n) = mv := ⟨_, rfl⟩
   have HCT := hid (containsReps_any 110 enters_isSide1 (.pointer (some ⟨wr.heap.size, 0, none⟩)) (moveId n) As cap C W2 (by omega) (HL.out.below HB2.out).ents.rows (isSide1_asks hbx2.cell C) hmv)
   have HMV := hid hmv
   have hck2 := Kept.of_below hb2 _ _ hck
   have HCK2 := hid hck2
   have HBB := hid hb2
   clear hbx2 hb2 hmv hck hck2
   go_wp2_with fail
   refine HCT.out.mono ?_
   rintro e w3 ⟨rfl, hb3⟩
   have HB3 := hid (HB2.out.trans (hb3.mono HB2.out.size))
   have c6 := (HX2.out.kept (grown_of_below hb3) (by simp)).cell
   have HBD : Hid (Below wr.heap.size wr w3) := hid (HBB.out.trans (hb3.mono HBB.out.size))
   clear hb3 HCT c0 s0
   rcases mv with _ | _
   ·go_wp2_with fail
    go_quiet (fail)
    go_wp2_with fail
    go_ret
    refine ⟨⟨false, rfl, ?_⟩, HB3.out.trans ((Below.drewN' (Below.refl w3.heap.size w3) _).mono HB3.out.size)⟩
    simp only [Bool.false_eq_true, false_iff]
    intro h
    have := (h k hlt).1
    rw [HN.out, HMV.out] at this
    cases this
   ·rcases k with _ | k
    ·go_wp2_with fail
     go_quiet (fail)
     go_wp2_with fail
     go_roundg (side.length - (0 + 1))
     case measure => omega
     case rel => exact ⟨0 + 1, by omega, rfl, by go_num, hid (fun j hj h => by
      obtain rfl : j = 0 := by omega
      exact ⟨by rw [HN.out, HMV.out], fun h => by omega⟩), hid (HB3.out.trans ((Below.drewN' (Below.refl w3.heap.size w3) _).mono HB3.out.size))⟩
    ·have hp := Kept.of_below HBD.out _ _ (HC.out k (by omega))
     obtain ⟨pv, hpv⟩ : ∃ pv, side[k] = pv := ⟨_, rfl⟩
     rw [hpv] at hp
     have HPV := hid hpv
     have j0 : (0 : Int) ≤ k := by omega
     have j1 : (k : Int) < side.length := by omega
     have jk : decide ((0 : Int) < (k : Int) + 1) = true := decide_eq_true (by omega)
     clear hpv
     by_cases hle : n ≤ pv
     ·have dle : decide (n ≤ pv) = true := decide_eq_true hle
      go_wp2_with fail
      go_quiet (fail)
      go_wp2_with fail
      go_ret
      refine ⟨⟨false, rfl, ?_⟩, HB3.out.trans ((Below.drewN' (Below.refl w3.heap.size w3) _).mono HB3.out.size)⟩
      simp only [Bool.false_eq_true, false_iff]
      intro h
      have := (h (k + 1) hlt).2 (by omega)
      simp only [Nat.add_sub_cancel] at this
      rw [HN.out, HPV.out] at this
      omega
     ·have dle : decide (n ≤ pv) = false := decide_eq_false hle
      go_wp2_with fail
      go_quiet (fail)
      go_wp2_with fail
      go_roundg (side.length - (k + 1 + 1))
      case measure => omega
      case rel => exact ⟨k + 1 + 1, by omega, rfl, by go_num, hid (fun j hj h => by
       by_cases hjk : j < k + 1
       ·exact hok.out j hj hjk
       ·obtain rfl : j = k + 1 := by omega
        exact ⟨by rw [HN.out, HMV.out], fun _ => by simp only [Nat.add_sub_cancel]; rw [HN.out, HPV.out]; omega⟩), hid (HB3.out.trans ((Below.drewN' (Below.refl w3.heap.size w3) _).mono HB3.out.size))⟩
  ·obtain rfl : k = side.length := by omega
   go_wp2_with fail
   go_ret
   exact ⟨⟨true, rfl, by simp; exact fun j hj => hok.out j hj hj⟩, hbw.out⟩
end Go.Proofs.YtfaoillnakhejaaGreat
