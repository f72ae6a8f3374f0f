/- The reference's Without, Barred and Fixed. -/
import Derived.Test.YtpmdjbjnihhjeaaCopied
import Derived.Test.YtpmdjbjnihhjeaaFitted
import Derived.Test.YtpmdjbjnihhjeaaNobody
import Derived.Test.YtpmdjbjnihhjeaaRefDeny
namespace Go.Proofs.Ytpmdjbjnihhjeaa
open Go.RowKit
set_option linter.unusedSimpArgs false

/-- The board less a find, as it lies when both rows are shortened. -/
theorem without_mem2 {n₀ gf gt cF cT cS f cb rb : Nat} {b : Board} {w2 w3 w4 w5 : World} {As : Option Addr} {us : List Value} {x y : Array Value}
    (hf : w2.ownsRow n₀ 3 1 (.slice (some ⟨gf, 0, none⟩) b.finds.length cF) b.finds.length (ints b.finds)) (hs : w2.ownsRow n₀ 50 3 (.slice As b.slots.length cS) b.slots.length (slotCells b.slots))
    (ht : w2.ownsRow n₀ 22 1 (.slice (some ⟨gt, 0, none⟩) b.fits.length cT) b.fits.length us) (hl : ListsOwn w2 n₀ us b.fits) (hd : ∀ u ∈ us, ∀ g, (Value.slice (some ⟨gf, 0, none⟩) b.finds.length cF).ownBlock = some g → u.ownBlock ≠ some g)
    (oF : Only [gf] w2 w3) (rF : RowAt (Value.int .i64) w3 gf (b.finds.eraseIdx f)) (oT : Only [gt, cb] w3 w4) (rT : RowAt asIs w4 gt (us.eraseIdx f))
    (hcb : w2.heap[cb]? = some (.cells x 26 (0, 0))) (hrb : w2.heap[rb]? = some (.cells y 26 (0, 0))) (o5 : Only [cb, rb] w4 w5) :
    BoardAt w5 (some ⟨gf, 0, none⟩) As (some ⟨gt, 0, none⟩) (b.without f) := by
  obtain ⟨cf, hcf⟩ := own_heap hf
  obtain ⟨ct, hct⟩ := own_heap ht
  have ne1 : gf ≠ gt := fun e => by subst e; rw [hcf] at hct; simp at hct
  have ne2 : gf ≠ cb := fun e => by subst e; rw [hcf] at hcb; simp at hcb
  have ne3 : gf ≠ rb := fun e => by subst e; rw [hcf] at hrb; simp at hrb
  have ne4 : gt ≠ cb := fun e => by subst e; rw [hct] at hcb; simp at hcb
  have ne5 : gt ≠ rb := fun e => by subst e; rw [hct] at hrb; simp at hrb
  have oA : Only [gf, gt, cb, rb] w2 w5 := ((oF.wide (by simp)).trans (oT.wide (by simp))).trans (o5.wide (by simp))
  refine ⟨((rF.only oT (by simp [ne1, ne2])).only o5 (by simp [ne2, ne3])).intsAt, ?_, ?_⟩
  · have h5 := own_onlyN hs oA (fun g hg => by
      simp only [List.mem_cons, List.not_mem_nil, or_false, not_or]
      exact ⟨fun e => own_type hs hcf (by decide) (e ▸ hg), fun e => own_type hs hct (by decide) (e ▸ hg), fun e => own_type hs hcb (by decide) (e ▸ hg), fun e => own_type hs hrb (by decide) (e ▸ hg)⟩)
    obtain ⟨A', c', hv, hc, _⟩ := ownsRow.form h5
    cases hv
    exact hc.slots
  · have h5 := hl.onlyN oA (fun u hu g hg => by
      simp only [List.mem_cons, List.not_mem_nil, or_false, not_or]
      exact ⟨fun e => hd u hu gf rfl (e ▸ hg), fun e => hl.types hct (by decide) u hu (e ▸ hg), fun e => hl.types hcb (by decide) u hu (e ▸ hg), fun e => hl.types hrb (by decide) u hu (e ▸ hg)⟩)
    exact h5.erase.fitsIn.at_ (cells_asIs (rT.only o5 (by simp [ne4, ne5])))

/-- What the spread of the second half of a row reads. -/
theorem shift_src {w : World} {g i n cap : Nat} {us : List Value} (h : RowAt asIs w g us) (hn : us.length = n) (hi : i < n) :
    ∃ A : Addr, (if cap = i + 1 then (some ⟨g, 0, none⟩ : Option Addr) else some ⟨g, i + 1, none⟩) = some A ∧ (n ≤ cap → ∀ t u, (us.drop (i + 1))[t]? = some u → w.cell? (A.add t) = some u) := by
  by_cases hc : cap = i + 1
  · refine ⟨⟨g, 0, none⟩, by simp [hc], fun hle t u hu => ?_⟩
    have h0 : (us.drop (i + 1)).length = 0 := by rw [List.length_drop]; omega
    rw [List.length_eq_zero_iff.1 h0] at hu
    simp at hu
  · refine ⟨⟨g, i + 1, none⟩, by simp [hc], fun _ t u hu => ?_⟩
    have ht := (List.getElem?_eq_some_iff.1 hu).1
    rw [List.length_drop] at ht
    rw [List.getElem?_drop, List.getElem?_eq_getElem (by omega)] at hu
    rw [Addr.add_lit, (h (i + 1 + t) (by omega)).1]
    exact hu
theorem shift_room {w : World} {g i n : Nat} {us : List Value} (h : RowAt asIs w g us) (hn : us.length = n) (hi : i < n) :
    ∀ t, t < (us.drop (i + 1)).length → (w.cell? ⟨g, 0 + i * 1 + t, none⟩).isSome = true ∧ w.frozen? ⟨g, 0 + i * 1 + t, none⟩ = false := fun t ht => by
  rw [List.length_drop] at ht
  rw [Nat.mul_one, Nat.zero_add]
  exact ⟨by rw [(h (i + t) (by omega)).1]; rfl, (h (i + t) (by omega)).2⟩
theorem row_asIs {w : World} {g : Nat} {xs : List Int} (h : RowAt (Value.int .i64) w g xs) : RowAt asIs w g (ints xs) := fun j hj => by
  simp only [ints, List.length_map] at hj
  refine ⟨?_, (h j hj).2⟩
  rw [(h j hj).1]
  simp [asIs, ints]
theorem row_ints {w : World} {g : Nat} {xs : List Int} (h : RowAt asIs w g (ints xs)) : RowAt (Value.int .i64) w g xs := fun j hj => by
  have := h j (by simpa [ints] using hj)
  refine ⟨?_, this.2⟩
  rw [this.1]
  simp [asIs, ints]
theorem ints_erase (xs : List Int) (i : Nat) : (ints xs).eraseIdx i = ints (xs.eraseIdx i) := by
  rw [List.eraseIdx_eq_take_drop_succ, List.eraseIdx_eq_take_drop_succ]
  simp [ints, List.map_take, List.map_drop]
theorem set_far {w : World} {g o rb : Nat} {x : Value} {ob : Obj} (h : w.heap[rb]? = some ob) (hne : rb ≠ g) : (w.setCell ⟨g, o, none⟩ x).heap[rb]? = some ob :=
  (((Only.refl [g] w).setCell (by simp) x).block rb (Array.getElem?_eq_some_iff.1 h).1 (by simpa using hne)).trans h
theorem only_four {x2 y0 y1 y2 : Value} (w : World) (cb rb : Nat) : Only [cb, rb] w ((((w.setCell ⟨cb, 2, none⟩ x2).setCell ⟨rb, 0, none⟩ y0).setCell ⟨rb, 1, none⟩ y1).setCell ⟨rb, 2, none⟩ y2) :=
  ((((Only.refl [cb, rb] w).setCell (by simp) x2).setCell (by simp) y0).setCell (by simp) y1).setCell (by simp) y2
theorem ask_one {b : Board} {f : Int} (h : b.check = 0) (hf : ¬ (0 ≤ f ∧ f < b.finds.length)) : askOf b f 0 false true = 1 := by
  have h1 : inB f 0 (b.finds.length - 1) = false := by
    rw [← Bool.not_eq_true]
    intro k
    apply hf
    simp [inB] at k
    omega
  unfold askOf
  rw [if_pos h, h1]
  rfl
theorem ask_zero {b : Board} {fn : Nat} (h : b.check = 0) (h0 : fn < b.finds.length) : askOf b (fn : Int) 0 false true = 0 := by
  have h1 : inB (fn : Int) 0 (b.finds.length - 1) = true := by simp [inB]; omega
  unfold askOf
  rw [if_pos h, h1]
  rfl

set_option maxRecDepth 100000 in
set_option maxHeartbeats 8000000 in
theorem refWithout_any (b : Board) (Af As At : Option Addr) (cf cs ct : Nat) (w : World) (hs : b.small) (hB : BoardAt w Af As At b) (f : Int) :
    Calls Try.prog 42 #[.agg #[.slice Af b.finds.length cf, .slice As b.slots.length cs, .slice At b.fits.length ct], .int .i64 f] w
      (GotPost (askOf b f 0 false true) (if askOf b f 0 false true = 0 then b.without f.toNat else Board.nil) w) := by
  have HS := hid hs
  have n1 := hs.1
  have n3 := hs.2.2.1
  obtain ⟨W, hW, c0, c1, c2, hbW, hz⟩ := box3 w (.slice Af b.finds.length cf) (.slice As b.slots.length cs) (.slice At b.fits.length ct) 26
  obtain ⟨V, hV, r0, r1, r2, hbV, hzV⟩ := box3 W (.slice none 0 0) (.slice none 0 0) (.slice none 0 0) 26
  have hB0 := hid hB
  have HBV := hid (hbW.trans (hbV.mono hbW.size))
  have v0 := (Kept.of_below hbV) _ _ c0
  have v1 := (Kept.of_below hbV) _ _ c1
  have v2 := (Kept.of_below hbV) _ _ c2
  have HRB : Hid (V.heap[W.heap.size]? = some (.cells #[.slice none 0 0, .slice none 0 0, .slice none 0 0] 26 (0, 0))) := hid (by rw [← hV]; exact heap_alloc_new _ _)
  have HZ2 : Hid (w.heap.size ≤ W.heap.size) := hid (by omega)
  have HZ : Hid (W.heap.size < V.heap.size) := hid (by omega)
  clear hz hbW hbV hzV hB hs c0 c1 c2 r0 r1 r2
  by_cases hck : b.check = 0
  case neg =>
    have d1 : (b.check == 0) = false := beq_eq_false_iff_ne.2 hck
    have d2 : (b.check != 0) = true := bne_iff_ne.2 hck
    rw [askOf_bad hck, if_neg hck]
    clear hck
    go_enter Try.func42, Try.ntmps42
    go_wp2_with fail
    refine (refCheck_t Af As At cf cs ct b V HS.out (hB0.out.kept (Kept.of_below HBV.out)) rfl).mono ?_
    rintro e w1 ⟨rfl, hb1⟩
    have hrb := (hb1.block W.heap.size HZ.out).trans HRB.out
    have z0 : w1.cell? ⟨W.heap.size, 0, none⟩ = some (.slice none 0 0) := by simp [World.cell?, hrb]
    have z1 : w1.cell? ⟨W.heap.size, 1, none⟩ = some (.slice none 0 0) := by simp [World.cell?, hrb]
    have z2 : w1.cell? ⟨W.heap.size, 2, none⟩ = some (.slice none 0 0) := by simp [World.cell?, hrb]
    have z3 : ∀ o, w1.frozen? ⟨W.heap.size, o, none⟩ = false := fun o => by simp [World.frozen?, hrb]
    have HRB2 := hid hrb
    have k0 := (Kept.of_below hb1) _ _ v0
    have k1 := (Kept.of_below hb1) _ _ v1
    have k2 := (Kept.of_below hb1) _ _ v2
    have HB1 := hid hb1
    clear hb1 hrb
    go_wp2_with fail
    refine bodyPost_ret (ret_board2 rfl rfl rfl (set3 HRB2.out)) rfl ?_
    exact got_nil (below_set3 (HBV.out.trans (HB1.out.mono HBV.out.size)) HZ2.out) rfl
  by_cases hr : 0 ≤ f ∧ f < b.finds.length
  case neg =>
    rw [ask_one hck hr, if_neg (by decide)]
    have HCK := hid hck
    clear hck
    by_cases h0 : 0 ≤ f
    · have h1 : (b.finds.length : Int) ≤ f := by omega
      have h2 : ¬ f < 0 := by omega
      clear hr
      go_enter Try.func42, Try.ntmps42
      go_wp2_with fail
      refine (refCheck_t Af As At cf cs ct b V HS.out (hB0.out.kept (Kept.of_below HBV.out)) HCK.out).mono ?_
      rintro e w1 ⟨rfl, hb1⟩
      have hrb := (hb1.block W.heap.size HZ.out).trans HRB.out
      have z0 : w1.cell? ⟨W.heap.size, 0, none⟩ = some (.slice none 0 0) := by simp [World.cell?, hrb]
      have z1 : w1.cell? ⟨W.heap.size, 1, none⟩ = some (.slice none 0 0) := by simp [World.cell?, hrb]
      have z2 : w1.cell? ⟨W.heap.size, 2, none⟩ = some (.slice none 0 0) := by simp [World.cell?, hrb]
      have z3 : ∀ o, w1.frozen? ⟨W.heap.size, o, none⟩ = false := fun o => by simp [World.frozen?, hrb]
      have HRB2 := hid hrb
      have k0 := (Kept.of_below hb1) _ _ v0
      have k1 := (Kept.of_below hb1) _ _ v1
      have k2 := (Kept.of_below hb1) _ _ v2
      have HB1 := hid hb1
      clear hb1 hrb
      go_wp2_with fail
      refine bodyPost_ret (ret_board2 rfl rfl rfl (set3 HRB2.out)) rfl ?_
      exact got_nil (below_set3 (HBV.out.trans (HB1.out.mono HBV.out.size)) HZ2.out) rfl
    · have h1 : f < 0 := by omega
      clear hr
      go_enter Try.func42, Try.ntmps42
      go_wp2_with fail
      refine (refCheck_t Af As At cf cs ct b V HS.out (hB0.out.kept (Kept.of_below HBV.out)) HCK.out).mono ?_
      rintro e w1 ⟨rfl, hb1⟩
      have hrb := (hb1.block W.heap.size HZ.out).trans HRB.out
      have z0 : w1.cell? ⟨W.heap.size, 0, none⟩ = some (.slice none 0 0) := by simp [World.cell?, hrb]
      have z1 : w1.cell? ⟨W.heap.size, 1, none⟩ = some (.slice none 0 0) := by simp [World.cell?, hrb]
      have z2 : w1.cell? ⟨W.heap.size, 2, none⟩ = some (.slice none 0 0) := by simp [World.cell?, hrb]
      have z3 : ∀ o, w1.frozen? ⟨W.heap.size, o, none⟩ = false := fun o => by simp [World.frozen?, hrb]
      have HRB2 := hid hrb
      have k0 := (Kept.of_below hb1) _ _ v0
      have k1 := (Kept.of_below hb1) _ _ v1
      have k2 := (Kept.of_below hb1) _ _ v2
      have HB1 := hid hb1
      clear hb1 hrb
      go_wp2_with fail
      refine bodyPost_ret (ret_board2 rfl rfl rfl (set3 HRB2.out)) rfl ?_
      exact got_nil (below_set3 (HBV.out.trans (HB1.out.mono HBV.out.size)) HZ2.out) rfl
  obtain ⟨r3, r4⟩ := hr
  obtain ⟨fn, rfl⟩ := Int.eq_ofNat_of_zero_le r3
  have hfn : fn < b.finds.length := by omega
  rw [ask_zero hck hfn, if_pos rfl, Int.toNat_natCast]
  have HCK := hid hck
  have HFI := hid (Board.check_fine HS.out hck)
  have hff : fn < b.fits.length := by rw [HFI.out.fits]; exact hfn
  have h1 : ¬ (fn : Int) < 0 := by omega
  have h2 : ¬ (b.finds.length : Int) ≤ fn := by omega
  clear hck
  go_enter Try.func42, Try.ntmps42
  go_wp2_with fail
  refine (refCheck_t Af As At cf cs ct b V HS.out (hB0.out.kept (Kept.of_below HBV.out)) HCK.out).mono ?_
  rintro e w1 ⟨rfl, hb1⟩
  have k0 := (Kept.of_below hb1) _ _ v0
  have k1 := (Kept.of_below hb1) _ _ v1
  have k2 := (Kept.of_below hb1) _ _ v2
  have HRB1 := hid ((hb1.block W.heap.size HZ.out).trans HRB.out)
  have HB1 := hid (HBV.out.trans (hb1.mono HBV.out.size))
  clear hb1 hW hV v0 v1 v2 HRB
  go_wp2_with fail
  refine (copied_any b Af As At cf cs ct w1 HS.out (hB0.out.kept (Kept.of_below HB1.out))).mono ?_
  rintro e w2 ⟨vf, vs, vt, rfl, hM, hb2⟩
  obtain ⟨us, oT, hl, hap, hd⟩ := hM.fits
  have oF := hM.finds
  have oS := hM.slots
  obtain ⟨gf, cF, rfl, _, _⟩ := own_slice oF (by omega)
  obtain ⟨aS, cS, rfl, _, _⟩ := ownsRow.form oS
  obtain ⟨gt, cT, rfl, _, _⟩ := own_slice oT (by omega)
  obtain ⟨V2, hV2, y0, y1, y2, hbV2, hz2⟩ := box3 w2 (.slice (some ⟨gf, 0, none⟩) b.finds.length cF) (.slice aS b.slots.length cS) (.slice (some ⟨gt, 0, none⟩) b.fits.length cT) 26
  have HCB : Hid (V2.heap[w2.heap.size]? = some (.cells #[.slice (some ⟨gf, 0, none⟩) b.finds.length cF, .slice aS b.slots.length cS, .slice (some ⟨gt, 0, none⟩) b.fits.length cT] 26 (0, 0))) := hid (by rw [← hV2]; exact heap_alloc_new _ _)
  have HRB2 := hid ((hbV2.block W.heap.size (Nat.lt_of_lt_of_le (Array.getElem?_eq_some_iff.1 HRB1.out).1 hb2.size)).trans ((hb2.block W.heap.size (Array.getElem?_eq_some_iff.1 HRB1.out).1).trans HRB1.out))
  have HB2 := hid (HB1.out.trans ((hb2.trans (hbV2.mono hb2.size)).mono HB1.out.size))
  have OF := hid (own_below oF hbV2)
  have OS := hid (own_below oS hbV2)
  have OT := hid (own_below oT hbV2)
  have HL := hid (hl.below hbV2)
  have HD := hid hd
  have HUS : Hid (us.length = b.fits.length) := hid hl.1
  have HW1 : Hid (w.heap.size ≤ w1.heap.size ∧ w.heap.size ≤ w2.heap.size) := hid ⟨HB1.out.size, Nat.le_trans HB1.out.size hb2.size⟩
  have s0 : IntKind.i64.wrap ((fn : Int) + 1) = (fn : Int) + 1 := wrap_add1 (by omega)
  have HNE : Hid (w2.heap.size ≠ gf ∧ w2.heap.size ≠ gt ∧ W.heap.size ≠ gf ∧ W.heap.size ≠ gt ∧ W.heap.size ≠ w2.heap.size) := by
    obtain ⟨x, hx⟩ := own_heap OF.out
    obtain ⟨y, hy⟩ := own_heap OT.out
    have h1 := HCB.out
    have h2 := HRB2.out
    have h3 := (Array.getElem?_eq_some_iff.1 HRB1.out).1
    have h4 := hb2.size
    refine hid ⟨?_, ?_, ?_, ?_, by omega⟩
    · intro e; rw [e, hx] at h1; simp at h1
    · intro e; rw [e, hy] at h1; simp at h1
    · intro e; rw [e, hx] at h2; simp at h2
    · intro e; rw [e, hy] at h2; simp at h2
  have HLT : Hid (w2.heap.size < V2.heap.size ∧ W.heap.size < V2.heap.size) := hid ⟨(Array.getElem?_eq_some_iff.1 HCB.out).1, (Array.getElem?_eq_some_iff.1 HRB2.out).1⟩
  have HFT : Hid (gt ∉ [gf]) := by
    obtain ⟨x, hx⟩ := own_heap OF.out
    obtain ⟨y, hy⟩ := own_heap OT.out
    refine hid ?_
    simp only [List.mem_singleton]
    intro e
    rw [e, hx] at hy
    simp at hy
  obtain ⟨i0, hi0, hz0, hz1', hz2'⟩ := ints_info
  obtain ⟨j0, hj0, jz0, jz1, jz2⟩ := fitsl_info
  have hrF : RowAt asIs V2.drew gf (ints b.finds) := row_asIs (RowAt.of_own OF.out)
  have hlF : (ints b.finds).length = b.finds.length := ints_length _
  obtain ⟨AF, hAF, hsF⟩ := shift_src (cap := cF) hrF hlF hfn
  obtain ⟨nF, hnF⟩ : ∃ nF, nF = (ints b.finds).drop (fn + 1) := ⟨_, rfl⟩
  rw [← hnF] at hsF
  have f1 : Hid (nF.length = (b.finds.length - (fn + 1)) * 1) := hid (by rw [hnF, List.length_drop, hlF]; omega)
  have f2 : Hid (∀ t u, nF[t]? = some u → V2.drew.cell? (AF.add t) = some u) := hid (hsF (own_cap OF.out).1)
  have f3 : Hid (∀ u ∈ nF, u.oneCell' = true) := hid (fun u hu => by rw [hnF] at hu; have := List.mem_of_mem_drop hu; simp only [ints, List.mem_map] at this; obtain ⟨x, _, rfl⟩ := this; rfl)
  have f4 : Hid (∀ t, t < nF.length → (V2.drew.cell? ⟨gf, 0 + fn * 1 + t, none⟩).isSome = true ∧ V2.drew.frozen? ⟨gf, 0 + fn * 1 + t, none⟩ = false) := hid (by rw [hnF]; exact shift_room hrF hlF hfn)
  obtain ⟨W3, hW3⟩ : ∃ W3, W3 = V2.drew.setCells gf (0 + fn * 1) nF := ⟨_, rfl⟩
  have rF : RowAt (Value.int .i64) W3 gf (b.finds.eraseIdx fn) := by
    refine row_ints ?_
    rw [hW3, hnF, Nat.mul_one, Nat.zero_add, ← ints_erase]
    exact row_shift hrF (by rw [hlF]; exact hfn)
  have o3 : Only [gf] V2 W3 := by rw [hW3]; exact only_cells (by simp) _ _ ((Only.refl _ _).then (Below.refl _ _).drew)
  have HW3 : Hid (W3 = V2.drew.setCells gf (0 + fn * 1) nF) := hid hW3
  have hcb3 := (o3.block w2.heap.size HLT.out.1 (by simpa using HNE.out.1)).trans HCB.out
  have p0 : W3.cell? ⟨w2.heap.size, 0, none⟩ = some (.slice (some ⟨gf, 0, none⟩) b.finds.length cF) := by simp [World.cell?, hcb3]
  have p3 : ∀ o, W3.frozen? ⟨w2.heap.size, o, none⟩ = false := fun o => by simp [World.frozen?, hcb3]
  obtain ⟨V4, hV4⟩ : ∃ V4, W3.setCell ⟨w2.heap.size, 0, none⟩ (.slice (some ⟨gf, 0, none⟩) (fn + (b.finds.length - (fn + 1))) cF) = V4 := ⟨_, rfl⟩
  have o4 : Only [gf, w2.heap.size] V2 V4 := by rw [← hV4]; exact (o3.wide (by simp)).setCell (by simp) _
  have hcb4 : V4.heap[w2.heap.size]? = some (.cells #[.slice (some ⟨gf, 0, none⟩) (fn + (b.finds.length - (fn + 1))) cF, .slice aS b.slots.length cS, .slice (some ⟨gt, 0, none⟩) b.fits.length cT] 26 (0, 0)) := by rw [← hV4]; exact block_set hcb3
  have u0 : V4.cell? ⟨w2.heap.size, 0, none⟩ = some (.slice (some ⟨gf, 0, none⟩) (fn + (b.finds.length - (fn + 1))) cF) := by simp [World.cell?, hcb4]
  have u1 : V4.cell? ⟨w2.heap.size, 1, none⟩ = some (.slice aS b.slots.length cS) := by simp [World.cell?, hcb4]
  have u2 : V4.cell? ⟨w2.heap.size, 2, none⟩ = some (.slice (some ⟨gt, 0, none⟩) b.fits.length cT) := by simp [World.cell?, hcb4]
  have hrT : RowAt asIs V4.drew gt us := (own_asIs OT.out).only (o4.then (Below.refl _ _).drew) (by have := HFT.out; simp only [List.mem_cons, List.not_mem_nil, or_false, List.mem_singleton, not_or] at this ⊢; exact ⟨this, fun e => HNE.out.2.1 e.symm⟩)
  obtain ⟨AT, hAT, hsT⟩ := shift_src (cap := cT) hrT HUS.out hff
  obtain ⟨nT, hnT⟩ : ∃ nT, nT = us.drop (fn + 1) := ⟨_, rfl⟩
  rw [← hnT] at hsT
  have g1 : Hid (nT.length = (b.fits.length - (fn + 1)) * 1) := hid (by rw [hnT, List.length_drop, HUS.out]; omega)
  have g2 : Hid (∀ t u, nT[t]? = some u → V4.drew.cell? (AT.add t) = some u) := hid (hsT (own_cap OT.out).1)
  have g3 : Hid (∀ u ∈ nT, u.oneCell' = true) := hid (fun u hu => by rw [hnT] at hu; exact own_ones HL.out u (List.mem_of_mem_drop hu))
  have g4 : Hid (∀ t, t < nT.length → (V4.drew.cell? ⟨gt, 0 + fn * 1 + t, none⟩).isSome = true ∧ V4.drew.frozen? ⟨gt, 0 + fn * 1 + t, none⟩ = false) := hid (by rw [hnT]; exact shift_room hrT HUS.out hff)
  obtain ⟨W5, hW5⟩ : ∃ W5, W5 = V4.drew.setCells gt (0 + fn * 1) nT := ⟨_, rfl⟩
  have rT : RowAt asIs W5 gt (us.eraseIdx fn) := by rw [hW5, hnT, Nat.mul_one, Nat.zero_add]; exact row_shift hrT (by rw [HUS.out]; exact hff)
  have o5' : Only [gt] V4 W5 := by rw [hW5]; exact only_cells (by simp) _ _ ((Only.refl _ _).then (Below.refl _ _).drew)
  have HW5 : Hid (W5 = V4.drew.setCells gt (0 + fn * 1) nT) := hid hW5
  have oT34 : Only [gt, w2.heap.size] W3 V4 := by rw [← hV4]; exact (Only.refl _ _).setCell (by simp) _
  have oT : Only [gt, w2.heap.size] W3 W5 := oT34.trans (o5'.wide (by simp))
  have hcb5 := (o5'.block w2.heap.size (Array.getElem?_eq_some_iff.1 hcb4).1 (by simpa using HNE.out.2.1)).trans hcb4
  have oA : Only [gf, gt, w2.heap.size] V2 W5 := (o4.wide (by simp)).trans (o5'.wide (by simp))
  have hrb5 := (oA.block W.heap.size HLT.out.2 (by simp only [List.mem_cons, List.not_mem_nil, or_false, not_or]; exact ⟨HNE.out.2.2.1, HNE.out.2.2.2.1, HNE.out.2.2.2.2⟩)).trans HRB2.out
  have v0 : W5.cell? ⟨w2.heap.size, 0, none⟩ = some (.slice (some ⟨gf, 0, none⟩) (fn + (b.finds.length - (fn + 1))) cF) := by simp [World.cell?, hcb5]
  have v1 : W5.cell? ⟨w2.heap.size, 1, none⟩ = some (.slice aS b.slots.length cS) := by simp [World.cell?, hcb5]
  have v2 : W5.cell? ⟨w2.heap.size, 2, none⟩ = some (.slice (some ⟨gt, 0, none⟩) b.fits.length cT) := by simp [World.cell?, hcb5]
  have v3 : ∀ o, W5.frozen? ⟨w2.heap.size, o, none⟩ = false := fun o => by simp [World.frozen?, hcb5]
  have q0 : W5.cell? ⟨W.heap.size, 0, none⟩ = some (.slice none 0 0) := by simp [World.cell?, hrb5]
  have q1 : W5.cell? ⟨W.heap.size, 1, none⟩ = some (.slice none 0 0) := by simp [World.cell?, hrb5]
  have q2 : W5.cell? ⟨W.heap.size, 2, none⟩ = some (.slice none 0 0) := by simp [World.cell?, hrb5]
  have q3 : ∀ o, W5.frozen? ⟨W.heap.size, o, none⟩ = false := fun o => by simp [World.frozen?, hrb5]
  have q4 := HNE.out.2.2.2.2
  have zF1 : (0 : Int) ≤ (fn : Int) + 1 := by omega
  have zF2 : (fn : Int) + 1 ≤ b.finds.length := by omega
  have zF3 : ((fn : Int) + 1).toNat = fn + 1 := by omega
  have zF4 : (fn : Int) + 1 ≤ b.fits.length := by omega
  have zF5 : fn ≤ cF := by have := (own_cap OF.out).1; omega
  have zF6 : fn ≤ cT := by have := (own_cap OT.out).1; omega
  have zF7 : fn + 1 ≤ cF := by have := (own_cap OF.out).1; omega
  have zF8 : fn + 1 ≤ cT := by have := (own_cap OT.out).1; omega
  have zF9 : (0 : Int) ≤ fn := by omega
  have zFa : (fn : Int) ≤ cF := by omega
  have zFb : (fn : Int) ≤ cT := by omega
  have RF := hid rF
  have RT := hid rT
  have O3 := hid o3
  have OT5 := hid oT
  have OA := hid oA
  have HRB5 := hid hrb5
  clear hM oF oS oT hl hap hd hb2 hbV2 hz2 k0 k1 k2 HRB1 hrF hlF hsF hnF hW3 rF o3 hcb3 o4 hcb4 hrT hsT hnT hW5 rT oT34 o5' hcb5 oA hrb5
  go_wp2_with fail
  go_region_law (refine step_append_room rfl (.tmp 32) (.tmp 37) 22 rfl 3 i0 1 intsl_u hi0 hz1' gf 0 fn cF (by simp [Act.eval, Act.put]) AF (b.finds.length - (fn + 1)) (cF - (fn + 1)) nF (by simp [Act.eval, Act.put]) f1.out f2.out f3.out (by omega) f4.out ?_; rw [← HW3.out])
  all_goals
    go_wp2_with fail

    go_region_law (refine step_append_room rfl (.tmp 43) (.tmp 48) 24 rfl 22 j0 1 fitsl_u hj0 jz1 gt 0 fn cT (by simp [Act.eval, Act.put]) AT (b.fits.length - (fn + 1)) (cT - (fn + 1)) nT (by simp [Act.eval, Act.put]) g1.out g2.out g3.out (by omega) g4.out ?_; rw [← HW5.out])
    all_goals
      go_wp2_with fail
      refine bodyPost_ret (ret_board2 rfl rfl rfl (set3 (set_far HRB5.out HNE.out.2.2.2.2))) rfl ?_
      have o6 := only_four (x2 := .slice (some ⟨gt, 0, none⟩) (fn + (b.fits.length - (fn + 1))) cT) (y0 := .slice (some ⟨gf, 0, none⟩) (fn + (b.finds.length - (fn + 1))) cF) (y1 := .slice aS b.slots.length cS) (y2 := .slice (some ⟨gt, 0, none⟩) (fn + (b.fits.length - (fn + 1))) cT) W5 w2.heap.size W.heap.size
      have oB : Only [gf, gt, w2.heap.size, W.heap.size] V2 _ := (OA.out.wide (by simp)).trans (o6.wide (by simp))
      refine ⟨HB2.out.trans (oB.below (fun x hx => ?_) HB2.out.size), some ⟨gf, 0, none⟩, cF, aS, cS, some ⟨gt, 0, none⟩, cT, ?_, without_mem2 OF.out OS.out OT.out HL.out HD.out O3.out RF.out OT5.out RT.out HCB.out HRB2.out o6⟩
      · have h1 := (own_cap OF.out).2.2
        have h2 := (own_cap OT.out).2.2
        have h3 := HW1.out
        have h4 := HZ2.out
        simp only [List.mem_cons, List.not_mem_nil, or_false] at hx
        rcases hx with rfl | rfl | rfl | rfl <;> omega
      · rw [show (b.without fn).finds.length = fn + (b.finds.length - (fn + 1)) from by rw [show (b.without fn).finds.length = b.finds.length - 1 from List.length_eraseIdx_of_lt hfn]; omega, show (b.without fn).fits.length = fn + (b.fits.length - (fn + 1)) from by rw [show (b.without fn).fits.length = b.fits.length - 1 from List.length_eraseIdx_of_lt hff]; omega]
        rfl

set_option maxRecDepth 100000 in
set_option maxHeartbeats 8000000 in
theorem refBarred_any (b : Board) (Af As At : Option Addr) (cf cs ct : Nat) (w : World) (hs : b.small) (hB : BoardAt w Af As At b) (f s : Int) :
    Calls Try.prog 44 #[.agg #[.slice Af b.finds.length cf, .slice As b.slots.length cs, .slice At b.fits.length ct], .int .i64 f, .int .i64 s] w (FitPost (askOf b f s false false) b f s (fun L => drop L s) w) := by
  have HS := hid hs
  have n1 := hs.1
  have n3 := hs.2.2.1
  have N4 := hid hs.2.2.2
  obtain ⟨W, hW, c0, c1, c2, hbW, hz⟩ := box3 w (.slice Af b.finds.length cf) (.slice As b.slots.length cs) (.slice At b.fits.length ct) 26
  obtain ⟨V, hV, r0, r1, r2, hbV, hzV⟩ := box3 W (.slice none 0 0) (.slice none 0 0) (.slice none 0 0) 26
  have hB0 := hid hB
  have HBV := hid (hbW.trans (hbV.mono hbW.size))
  have v0 := (Kept.of_below hbV) _ _ c0
  have v1 := (Kept.of_below hbV) _ _ c1
  have v2 := (Kept.of_below hbV) _ _ c2
  have HRB : Hid (V.heap[W.heap.size]? = some (.cells #[.slice none 0 0, .slice none 0 0, .slice none 0 0] 26 (0, 0))) := hid (by rw [← hV]; exact heap_alloc_new _ _)
  have HZ2 : Hid (w.heap.size ≤ W.heap.size) := hid (by omega)
  have HZ : Hid (W.heap.size < V.heap.size) := hid (by omega)
  clear hz hbW hbV hzV hB hs c0 c1 c2 r0 r1 r2
  obtain ⟨k0, hk0⟩ : ∃ k, askOf b f s false false = k := ⟨_, rfl⟩
  have HK := hid hk0
  rw [hk0]
  clear hk0
  go_enter Try.func44, Try.ntmps44
  go_wp2_with fail
  refine (there_any b Af As At cf cs ct V HS.out (hB0.out.kept (Kept.of_below HBV.out)) f s HK.out).mono ?_
  rintro e w1 ⟨rfl, hb1⟩
  have m0 := (Kept.of_below hb1) _ _ v0
  have m1 := (Kept.of_below hb1) _ _ v1
  have m2 := (Kept.of_below hb1) _ _ v2
  have hrb := (hb1.block W.heap.size HZ.out).trans HRB.out
  have z0 : w1.cell? ⟨W.heap.size, 0, none⟩ = some (.slice none 0 0) := by simp [World.cell?, hrb]
  have z1 : w1.cell? ⟨W.heap.size, 1, none⟩ = some (.slice none 0 0) := by simp [World.cell?, hrb]
  have z2 : w1.cell? ⟨W.heap.size, 2, none⟩ = some (.slice none 0 0) := by simp [World.cell?, hrb]
  have z3 : ∀ o, w1.frozen? ⟨W.heap.size, o, none⟩ = false := fun o => by simp [World.frozen?, hrb]
  have HRB1 := hid hrb
  have HB1 := hid (HBV.out.trans (hb1.mono HBV.out.size))
  clear hb1 hrb hW hV v0 v1 v2 HRB
  by_cases hk : k0 = 0
  case neg =>
    have d1 : (k0 != 0) = true := by simpa using hk
    have HK0 := hid hk
    clear hk
    go_wp2_with fail
    refine bodyPost_ret (ret_board2 rfl rfl rfl (set3 HRB1.out)) rfl ?_
    exact ⟨k0, Board.nil, madeGot_nil (below_set3 HB1.out HZ2.out) rfl, .inl ⟨HK0.out, rfl, rfl⟩⟩
  subst hk
  obtain ⟨hck, r1, r2, r3, r4⟩ := askOf_range HK.out
  obtain ⟨fn, rfl⟩ := Int.eq_ofNat_of_zero_le r1
  have HFI := hid (Board.check_fine HS.out hck)
  have hff : fn < b.fits.length := by rw [HFI.out.fits]; omega
  obtain ⟨L, hL⟩ : ∃ L, b.fits[fn] = L := ⟨_, rfl⟩
  have HFO : Hid (fitOf b.fits ((fn : Int)).toNat = L) := hid (by rw [Int.toNat_natCast, fitOf_lt hff, hL])
  have HL0 := hid hL
  have hlen : L.length ≤ 60 := by rw [← hL]; exact N4.out _ (List.getElem_mem _)
  obtain ⟨fb, foff, rfl, hc⟩ := (hB0.out.fits.kept (Kept.of_below HB1.out)) (by omega)
  obtain ⟨Aj, cj, f1, f2⟩ := hc fn hff
  rw [hL] at f1 f2
  have F2 := hid f2
  obtain ⟨t, ht⟩ : ∃ t, decide (s ∈ L) = t := ⟨_, rfl⟩
  have HT := hid ht
  have i0 : (0 : Int) ≤ fn := by omega
  have i1 : (fn : Int) < b.fits.length := by omega
  clear hck hc f2 hL ht
  rcases t with _ | _
  case false =>
    go_wp2_with fail
    refine (has_t _ _ _ _ _ (by omega) F2.out HT.out).mono ?_
    rintro e w' ⟨rfl, rfl⟩
    go_wp2_with fail
    refine bodyPost_ret (ret_board2 rfl rfl rfl (set3 HRB1.out)) rfl ?_
    exact ⟨5, Board.nil, madeGot_nil (below_set3 HB1.out HZ2.out) rfl, .inr (.inl ⟨rfl, by rw [HFO.out]; exact of_decide_eq_false HT.out, rfl, rfl⟩)⟩
  go_wp2_with fail
  refine (has_t _ _ _ _ _ (by omega) F2.out HT.out).mono ?_
  rintro e w' ⟨rfl, rfl⟩
  go_wp2_with fail
  refine (copied_any b Af As (some ⟨fb, foff, none⟩) cf cs ct w1 HS.out (hB0.out.kept (Kept.of_below HB1.out))).mono ?_
  rintro e w2 ⟨vf, vs, vt, rfl, hM, hb2⟩
  obtain ⟨us, oT, hl, hap, hd⟩ := hM.fits
  have oF := hM.finds
  have oS := hM.slots
  obtain ⟨aF, cF, rfl, _, _⟩ := ownsRow.form oF
  obtain ⟨aS, cS, rfl, _, _⟩ := ownsRow.form oS
  obtain ⟨gt, cT, rfl, _, _⟩ := own_slice oT (by omega)
  obtain ⟨z, hz1, hz2⟩ := hl.2 fn hff
  rw [HL0.out] at hz2
  obtain ⟨g, c, rfl, _, _⟩ := own_slice hz2 (List.length_pos_of_mem (of_decide_eq_true HT.out))
  obtain ⟨V2, hV2, y0, y1, y2, hbV2, hzz⟩ := box3 w2 (.slice aF b.finds.length cF) (.slice aS b.slots.length cS) (.slice (some ⟨gt, 0, none⟩) b.fits.length cT) 26
  have HCB : Hid (V2.heap[w2.heap.size]? = some (.cells #[.slice aF b.finds.length cF, .slice aS b.slots.length cS, .slice (some ⟨gt, 0, none⟩) b.fits.length cT] 26 (0, 0))) := hid (by rw [← hV2]; exact heap_alloc_new _ _)
  have HRB2 := hid ((hbV2.block W.heap.size (Nat.lt_of_lt_of_le (Array.getElem?_eq_some_iff.1 HRB1.out).1 hb2.size)).trans ((hb2.block W.heap.size (Array.getElem?_eq_some_iff.1 HRB1.out).1).trans HRB1.out))
  have HB2 := hid (HB1.out.trans ((hb2.trans (hbV2.mono hb2.size)).mono HB1.out.size))
  have OF := hid (own_below oF hbV2)
  have OS := hid (own_below oS hbV2)
  have OT := hid (own_below oT hbV2)
  have OR := hid (own_below hz2 hbV2)
  have HL := hid (hl.below hbV2)
  have HD := hid hd
  have HAP := hid hap
  have HROW := hid hz1
  have HLO : Hid (w.heap.size ≤ w1.heap.size ∧ w1.heap.size ≤ V2.heap.size) := hid ⟨HB1.out.size, Nat.le_trans hb2.size hbV2.size⟩
  have hrowc := (own_asIs OT.out) fn (by rw [HL.out.1]; exact hff)
  have hg1 : V2.cell? ⟨gt, fn, none⟩ = some (.slice (some ⟨g, 0, none⟩) L.length c) := by
    rw [hrowc.1]
    have := (List.getElem?_eq_some_iff.1 hz1).2
    simp only [asIs, this]
  have hg2 : V2.frozen? ⟨gt, fn, none⟩ = false := hrowc.2
  have hne := hid (refit_ne OT.out OR.out HCB.out HRB2.out)
  have kk := (Kept.of_below hb2).trans (Kept.of_below hbV2)
  have X2 := hid (kk _ _ m2)
  have XF := hid (kk _ _ f1)
  have XL := hid (F2.out.kept kk)
  have j0 : (0 : Int) ≤ fn := by omega
  have j1 : (fn : Int) < b.fits.length := by omega
  have Y2 := hid y2
  have Y0 := hid y0
  have Y1 := hid y1
  clear hM oF oS oT hl hap hd hb2 hbV2 hzz hz1 hz2 hrowc m0 m1 m2 z0 z1 z2 z3 kk f1
  go_wp2_with fail
  clear y0 y1 y2
  go_loopg [10, 11] (L.length) (fun g' v i wr => ∃ k : Nat, k ≤ L.length ∧ g' = L.length - k ∧ i = .int .i64 k ∧ Hid (wr.ownsRow V2.heap.size 3 1 v (drop (L.take k) s).length (ints (drop (L.take k) s))) ∧ Hid (Below V2.heap.size V2 wr))
  case atStart => exact ⟨0, by omega, by omega, rfl, hid (World.ownsRow_nil _ _ _ _), hid (Below.refl _ _)⟩
  case round =>
    obtain ⟨k, hk, hgk, rfl, hown, hbw⟩ := hrel
    have kw := Kept.of_below hbw.out
    have x2 := kw _ _ X2.out
    have xf := kw _ _ XF.out
    by_cases hlt : k < L.length
    · obtain ⟨lb, loff, rfl, hlc⟩ := (XL.out.kept kw) (by omega)
      have xk := hlc k hlt
      have l0 : (0 : Int) ≤ k := by omega
      have l1 : (k : Int) < L.length := by omega
      have hdl := drop_len (L.take k) s
      rw [List.length_take] at hdl
      have hsn := drop_snoc (s := s) hlt
      obtain ⟨x, hx⟩ : ∃ x, L[k] = x := ⟨_, rfl⟩
      rw [hx] at xk hsn
      obtain ⟨v', w', hr2, ho', hb'⟩ := app_one x hown.out (by omega) hbw.out.size
      have HR2 := hid hr2
      have HO := hid ho'
      have HB3 := hid (hbw.out.trans hb')
      clear hlc hx hr2 ho' hb' kw hdl
      by_cases he : x = s
      · have d1 : (x != s) = false := by rw [bne_eq_false_iff_eq]; exact he
        rw [if_pos (by simp [he]), List.append_nil] at hsn
        have HSN := hid hsn
        clear he hsn HR2 HO HB3
        go_wp2_with fail
        go_roundg (L.length - (k + 1))
        case measure => omega
        case rel => exact ⟨k + 1, by omega, rfl, by go_num, by rw [HSN.out]; exact hown, hbw⟩
      · have d1 : (x != s) = true := by rw [bne_iff_ne]; exact he
        rw [if_neg (by simp [he])] at hsn
        have HSN := hid hsn
        clear he hsn
        go_wp2_with (at_builtin; refine wpList_app rfl rfl rfl rfl rfl HR2.out ?_)
        go_roundg (L.length - (k + 1))
        case measure => omega
        case rel =>
          refine ⟨k + 1, by omega, rfl, by go_num, hid ?_, HB3⟩
          rw [HSN.out]
          exact HO.out
    · obtain rfl : k = L.length := by omega
      have hown2 := hown.out
      rw [List.take_length] at hown2
      obtain ⟨aR, cR, rfl, _⟩ := ownsRow.form hown2
      have p2 := kw _ _ Y2.out
      have p0 := kw _ _ Y0.out
      have p1 := kw _ _ Y1.out
      have p3 := kw _ _ hg1
      have p4 := (hbw.out.frozen (p := ⟨gt, fn, none⟩) hne.out.1.2.2).trans hg2
      have hrb := (hbw.out.block W.heap.size hne.out.1.2.1).trans HRB2.out
      have q0 : wr.cell? ⟨W.heap.size, 0, none⟩ = some (.slice none 0 0) := by simp [World.cell?, hrb]
      have q1 : wr.cell? ⟨W.heap.size, 1, none⟩ = some (.slice none 0 0) := by simp [World.cell?, hrb]
      have q2 : wr.cell? ⟨W.heap.size, 2, none⟩ = some (.slice none 0 0) := by simp [World.cell?, hrb]
      have q3 : ∀ o, wr.frozen? ⟨W.heap.size, o, none⟩ = false := fun o => by simp [World.frozen?, hrb]
      have q4 := hne.out.2.2.1
      have q5 := hne.out.2.2.2
      have R1 := hid (own_lo hown2 HLO.out.2)
      have R3 : Hid (Only [g] V2 wr) := hid (Only.of_below hbw.out)
      have R4 : Hid (∀ x, (Value.slice aR (drop L s).length cR).ownBlock = some x → x = g ∨ V2.heap.size ≤ x) := hid (fun x hx => .inr (hown2.lt x hx).1)
      have HRB3 := hid hrb
      clear hown2 hown kw hrb hlt hgk hk hbw
      go_wp2_with fail
      refine bodyPost_ret (ret_board2 rfl rfl rfl (set3 (one_set HRB3.out hne.out.2.2.2))) rfl ?_
      have hm := refit_mem (rb := W.heap.size) (x0 := .slice aF b.finds.length cF) (x1 := .slice aS b.slots.length cS) (x2 := .slice (some ⟨gt, 0, none⟩) b.fits.length cT) (L' := drop L s) hff OF.out OS.out OT.out HL.out HAP.out HD.out HROW.out R3.out R1.out R4.out HRB2.out
      refine ⟨0, _, ⟨?_, _, _, _, rfl, hm.lo HLO.out.1⟩, .inr (.inr ⟨rfl, by rw [HFO.out]; exact of_decide_eq_true HT.out, rfl, by rw [HFO.out, Int.toNat_natCast]⟩)⟩
      refine below_set3 (HB2.out.trans (((R3.out.wide (Y := [gt, g]) (by simp)).setCell (p := ⟨gt, fn, none⟩) (by simp) _).below (fun x hx => ?_) HB2.out.size)) HZ2.out
      have h1 := (own_cap OT.out).2.2
      have h2 := (own_cap OR.out).2.2
      have h3 := HLO.out
      simp only [List.mem_cons, List.not_mem_nil, or_false] at hx
      rcases hx with rfl | rfl <;> omega

set_option maxRecDepth 100000 in
set_option maxHeartbeats 8000000 in
theorem refFixed_any (b : Board) (Af As At : Option Addr) (cf cs ct : Nat) (w : World) (hs : b.small) (hB : BoardAt w Af As At b) (f s : Int) :
    Calls Try.prog 45 #[.agg #[.slice Af b.finds.length cf, .slice As b.slots.length cs, .slice At b.fits.length ct], .int .i64 f, .int .i64 s] w (FitPost (askOf b f s false false) b f s (fun _ => [s]) w) := by
  have HS := hid hs
  have n1 := hs.1
  have n3 := hs.2.2.1
  have N4 := hid hs.2.2.2
  obtain ⟨W, hW, c0, c1, c2, hbW, hz⟩ := box3 w (.slice Af b.finds.length cf) (.slice As b.slots.length cs) (.slice At b.fits.length ct) 26
  obtain ⟨V, hV, r0, r1, r2, hbV, hzV⟩ := box3 W (.slice none 0 0) (.slice none 0 0) (.slice none 0 0) 26
  have hB0 := hid hB
  have HBV := hid (hbW.trans (hbV.mono hbW.size))
  have v0 := (Kept.of_below hbV) _ _ c0
  have v1 := (Kept.of_below hbV) _ _ c1
  have v2 := (Kept.of_below hbV) _ _ c2
  have HRB : Hid (V.heap[W.heap.size]? = some (.cells #[.slice none 0 0, .slice none 0 0, .slice none 0 0] 26 (0, 0))) := hid (by rw [← hV]; exact heap_alloc_new _ _)
  have HZ2 : Hid (w.heap.size ≤ W.heap.size) := hid (by omega)
  have HZ : Hid (W.heap.size < V.heap.size) := hid (by omega)
  clear hz hbW hbV hzV hB hs c0 c1 c2 r0 r1 r2
  obtain ⟨k0, hk0⟩ : ∃ k, askOf b f s false false = k := ⟨_, rfl⟩
  have HK := hid hk0
  rw [hk0]
  clear hk0
  go_enter Try.func45, Try.ntmps45
  go_wp2_with fail
  refine (there_any b Af As At cf cs ct V HS.out (hB0.out.kept (Kept.of_below HBV.out)) f s HK.out).mono ?_
  rintro e w1 ⟨rfl, hb1⟩
  have m0 := (Kept.of_below hb1) _ _ v0
  have m1 := (Kept.of_below hb1) _ _ v1
  have m2 := (Kept.of_below hb1) _ _ v2
  have hrb := (hb1.block W.heap.size HZ.out).trans HRB.out
  have z0 : w1.cell? ⟨W.heap.size, 0, none⟩ = some (.slice none 0 0) := by simp [World.cell?, hrb]
  have z1 : w1.cell? ⟨W.heap.size, 1, none⟩ = some (.slice none 0 0) := by simp [World.cell?, hrb]
  have z2 : w1.cell? ⟨W.heap.size, 2, none⟩ = some (.slice none 0 0) := by simp [World.cell?, hrb]
  have z3 : ∀ o, w1.frozen? ⟨W.heap.size, o, none⟩ = false := fun o => by simp [World.frozen?, hrb]
  have HRB1 := hid hrb
  have HB1 := hid (HBV.out.trans (hb1.mono HBV.out.size))
  clear hb1 hrb hW hV v0 v1 v2 HRB
  by_cases hk : k0 = 0
  case neg =>
    have d1 : (k0 != 0) = true := by simpa using hk
    have HK0 := hid hk
    clear hk
    go_wp2_with fail
    refine bodyPost_ret (ret_board2 rfl rfl rfl (set3 HRB1.out)) rfl ?_
    exact ⟨k0, Board.nil, madeGot_nil (below_set3 HB1.out HZ2.out) rfl, .inl ⟨HK0.out, rfl, rfl⟩⟩
  subst hk
  obtain ⟨hck, r1, r2, r3, r4⟩ := askOf_range HK.out
  obtain ⟨fn, rfl⟩ := Int.eq_ofNat_of_zero_le r1
  have HFI := hid (Board.check_fine HS.out hck)
  have hff : fn < b.fits.length := by rw [HFI.out.fits]; omega
  obtain ⟨L, hL⟩ : ∃ L, b.fits[fn] = L := ⟨_, rfl⟩
  have HFO : Hid (fitOf b.fits ((fn : Int)).toNat = L) := hid (by rw [Int.toNat_natCast, fitOf_lt hff, hL])
  have HL0 := hid hL
  have hlen : L.length ≤ 60 := by rw [← hL]; exact N4.out _ (List.getElem_mem _)
  obtain ⟨fb, foff, rfl, hc⟩ := (hB0.out.fits.kept (Kept.of_below HB1.out)) (by omega)
  obtain ⟨Aj, cj, f1, f2⟩ := hc fn hff
  rw [hL] at f1 f2
  have F2 := hid f2
  obtain ⟨t, ht⟩ : ∃ t, decide (s ∈ L) = t := ⟨_, rfl⟩
  have HT := hid ht
  have i0 : (0 : Int) ≤ fn := by omega
  have i1 : (fn : Int) < b.fits.length := by omega
  clear hck hc f2 hL ht
  rcases t with _ | _
  case false =>
    go_wp2_with fail
    refine (has_t _ _ _ _ _ (by omega) F2.out HT.out).mono ?_
    rintro e w' ⟨rfl, rfl⟩
    go_wp2_with fail
    refine bodyPost_ret (ret_board2 rfl rfl rfl (set3 HRB1.out)) rfl ?_
    exact ⟨5, Board.nil, madeGot_nil (below_set3 HB1.out HZ2.out) rfl, .inr (.inl ⟨rfl, by rw [HFO.out]; exact of_decide_eq_false HT.out, rfl, rfl⟩)⟩
  go_wp2_with fail
  refine (has_t _ _ _ _ _ (by omega) F2.out HT.out).mono ?_
  rintro e w' ⟨rfl, rfl⟩
  go_wp2_with fail
  refine (copied_any b Af As (some ⟨fb, foff, none⟩) cf cs ct w1 HS.out (hB0.out.kept (Kept.of_below HB1.out))).mono ?_
  rintro e w2 ⟨vf, vs, vt, rfl, hM, hb2⟩
  obtain ⟨us, oT, hl, hap, hd⟩ := hM.fits
  have oF := hM.finds
  have oS := hM.slots
  obtain ⟨aF, cF, rfl, _, _⟩ := ownsRow.form oF
  obtain ⟨aS, cS, rfl, _, _⟩ := ownsRow.form oS
  obtain ⟨gt, cT, rfl, _, _⟩ := own_slice oT (by omega)
  obtain ⟨z, hz1, hz2⟩ := hl.2 fn hff
  rw [HL0.out] at hz2
  obtain ⟨g, c, rfl, _, _⟩ := own_slice hz2 (List.length_pos_of_mem (of_decide_eq_true HT.out))
  obtain ⟨V2, hV2, y0, y1, y2, hbV2, hzz⟩ := box3 w2 (.slice aF b.finds.length cF) (.slice aS b.slots.length cS) (.slice (some ⟨gt, 0, none⟩) b.fits.length cT) 26
  have HCB : Hid (V2.heap[w2.heap.size]? = some (.cells #[.slice aF b.finds.length cF, .slice aS b.slots.length cS, .slice (some ⟨gt, 0, none⟩) b.fits.length cT] 26 (0, 0))) := hid (by rw [← hV2]; exact heap_alloc_new _ _)
  have HRB2 := hid ((hbV2.block W.heap.size (Nat.lt_of_lt_of_le (Array.getElem?_eq_some_iff.1 HRB1.out).1 hb2.size)).trans ((hb2.block W.heap.size (Array.getElem?_eq_some_iff.1 HRB1.out).1).trans HRB1.out))
  have HB2 := hid (HB1.out.trans ((hb2.trans (hbV2.mono hb2.size)).mono HB1.out.size))
  have OF := hid (own_below oF hbV2)
  have OS := hid (own_below oS hbV2)
  have OT := hid (own_below oT hbV2)
  have OR := hid (own_below hz2 hbV2)
  have HL := hid (hl.below hbV2)
  have HD := hid hd
  have HAP := hid hap
  have HROW := hid hz1
  have HLO : Hid (w.heap.size ≤ w1.heap.size ∧ w1.heap.size ≤ V2.heap.size) := hid ⟨HB1.out.size, Nat.le_trans hb2.size hbV2.size⟩
  have hrowc := (own_asIs OT.out) fn (by rw [HL.out.1]; exact hff)
  have hg1 : V2.cell? ⟨gt, fn, none⟩ = some (.slice (some ⟨g, 0, none⟩) L.length c) := by
    rw [hrowc.1]
    have := (List.getElem?_eq_some_iff.1 hz1).2
    simp only [asIs, this]
  have hg2 : V2.frozen? ⟨gt, fn, none⟩ = false := hrowc.2
  have hne := hid (refit_ne OT.out OR.out HCB.out HRB2.out)
  obtain ⟨V3, hV3, _, hbV3, hz3⟩ := boxI V2 s
  have o3 : Only [g] V2 V3 := by rw [← hV3]; exact (Only.refl _ _).alloc _
  have hu : V3.ownsRow w1.heap.size 3 1 (.slice (some ⟨V2.heap.size, 0, none⟩) 1 1) 1 (ints [s]) := by
    rw [← hV3]
    exact ⟨rfl, .inr ⟨V2.heap.size, 1, #[.int .i64 s], rfl, HLO.out.2, heap_alloc_new _ _, Nat.le_refl _, by unfold maxLen; omega, rfl, rfl⟩⟩
  have kV3 := Kept.of_below hbV3
  have p0 := kV3 _ _ y0
  have p1 := kV3 _ _ y1
  have p2 := kV3 _ _ y2
  have p3 := kV3 _ _ hg1
  have p4 := (hbV3.frozen (p := ⟨gt, fn, none⟩) hne.out.1.2.2).trans hg2
  have hrb := (hbV3.block W.heap.size hne.out.1.2.1).trans HRB2.out
  have q0 : V3.cell? ⟨W.heap.size, 0, none⟩ = some (.slice none 0 0) := by simp [World.cell?, hrb]
  have q1 : V3.cell? ⟨W.heap.size, 1, none⟩ = some (.slice none 0 0) := by simp [World.cell?, hrb]
  have q2 : V3.cell? ⟨W.heap.size, 2, none⟩ = some (.slice none 0 0) := by simp [World.cell?, hrb]
  have q3 : ∀ o, V3.frozen? ⟨W.heap.size, o, none⟩ = false := fun o => by simp [World.frozen?, hrb]
  have q4 := hne.out.2.2.1
  have q5 := hne.out.2.2.2
  have R1 := hid hu
  have R3 := hid o3
  have R4 : Hid (∀ x, (Value.slice (some ⟨V2.heap.size, 0, none⟩) 1 1).ownBlock = some x → x = g ∨ V2.heap.size ≤ x) := hid (fun x hx => .inr (by simp [Value.ownBlock] at hx; omega))
  have HRB3 := hid hrb
  clear hM oF oS oT hl hap hd hb2 hbV2 hzz hz1 hz2 hrowc m0 m1 m2 z0 z1 z2 z3 o3 hu kV3 hrb hbV3 hz3
  go_wp2_with fail
  refine bodyPost_ret (ret_board2 rfl rfl rfl (set3 (one_set HRB3.out hne.out.2.2.2))) rfl ?_
  have hm := refit_mem (rb := W.heap.size) (x0 := .slice aF b.finds.length cF) (x1 := .slice aS b.slots.length cS) (x2 := .slice (some ⟨gt, 0, none⟩) b.fits.length cT) (L' := [s]) hff OF.out OS.out OT.out HL.out HAP.out HD.out HROW.out R3.out R1.out R4.out HRB2.out
  refine ⟨0, _, ⟨?_, _, _, _, rfl, hm.lo HLO.out.1⟩, .inr (.inr ⟨rfl, by rw [HFO.out]; exact of_decide_eq_true HT.out, rfl, by rw [Int.toNat_natCast]⟩)⟩
  refine below_set3 (HB2.out.trans (((R3.out.wide (Y := [gt, g]) (by simp)).setCell (p := ⟨gt, fn, none⟩) (by simp) _).below (fun x hx => ?_) HB2.out.size)) HZ2.out
  have h1 := (own_cap OT.out).2.2
  have h2 := (own_cap OR.out).2.2
  have h3 := HLO.out
  simp only [List.mem_cons, List.not_mem_nil, or_false] at hx
  rcases hx with rfl | rfl <;> omega
end Go.Proofs.Ytpmdjbjnihhjeaa
