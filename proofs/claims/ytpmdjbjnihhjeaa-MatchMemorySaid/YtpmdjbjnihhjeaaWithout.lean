/- Without (the program). -/
import Derived.Test.YtpmdjbjnihhjeaaMade
import Derived.Test.YtpmdjbjnihhjeaaErase
import Derived.Test.YtpmdjbjnihhjeaaLoads
namespace Go.Proofs.Ytpmdjbjnihhjeaa
open Go.RowKit
set_option linter.unusedSimpArgs false

def Board.without (b : Board) (f : Nat) : Board := ⟨b.finds.eraseIdx f, b.slots, b.fits.eraseIdx f⟩
def Board.nil : Board := ⟨[], [], []⟩
/-- A call returns a board and an error. -/
def GotPost (k : Int) (d : Board) (w : World) (e : Ending) (w' : World) : Prop :=
  Below w.heap.size w w' ∧ ∃ Af cf As cs At ct, e = .returned (.tuple #[.agg #[.slice Af d.finds.length cf, .slice As d.slots.length cs, .slice At d.fits.length ct], .int .i64 k]) ∧ BoardAt w' Af As At d
theorem Board.nil_at (w : World) : BoardAt w none none none Board.nil := ⟨fun h => absurd h (by simp [Board.nil]), fun h => absurd h (by simp [Board.nil]), fun h => absurd h (by simp [Board.nil])⟩
theorem got_nil {k : Int} {w w' : World} {e : Ending} (hb : Below w.heap.size w w') (he : e = .returned (.tuple #[.agg #[.slice none 0 0, .slice none 0 0, .slice none 0 0], .int .i64 k])) : GotPost k Board.nil w e w' :=
  ⟨hb, none, 0, none, 0, none, 0, he, Board.nil_at _⟩

theorem own_onlyN {w w' : World} {base size n : Nat} {e : TypeId} {v : Value} {xs : List Value} {X : List Nat} (h : w.ownsRow base e size v n xs) (ho : Only X w w') (hX : ∀ g, v.ownBlock = some g → g ∉ X) : w'.ownsRow base e size v n xs := by
  refine ⟨h.1, ?_⟩
  rcases h.2 with h2 | ⟨g, cap, cur, rfl, hb, h1, h3⟩
  · exact .inl h2
  · exact .inr ⟨g, cap, cur, rfl, hb, (ho.block g (Array.getElem?_eq_some_iff.1 h1).1 (hX g rfl)).trans h1, h3⟩
theorem own_type {w : World} {base size n x : Nat} {e e' : TypeId} {v : Value} {xs : List Value} {cs : Array Value} (h : w.ownsRow base e size v n xs) (hc : w.heap[x]? = some (.cells cs e' (0, 0))) (hne : e ≠ e') : v.ownBlock ≠ some x := by
  rcases h.2 with ⟨rfl, _⟩ | ⟨g, cap, cur, rfl, _, h1, _⟩
  · simp [Value.ownBlock]
  · intro k
    have k : g = x := by simpa [Value.ownBlock] using k
    subst k
    rw [h1] at hc
    simp at hc
    exact hne hc.2
theorem own_heap {w : World} {base size n g cap : Nat} {e : TypeId} {xs : List Value} (h : w.ownsRow base e size (.slice (some ⟨g, 0, none⟩) n cap) n xs) : ∃ cs, w.heap[g]? = some (.cells cs e (0, 0)) := by
  rcases h.2 with ⟨h2, _⟩ | ⟨g', cap', cur, h1, _, h2, _⟩
  · cases h2
  · cases h1
    exact ⟨cur, h2⟩
theorem own_asIs {w : World} {base g n cap : Nat} {us : List Value} (h : w.ownsRow base 22 1 (.slice (some ⟨g, 0, none⟩) n cap) n us) : RowAt asIs w g us := fun j hj => by
  obtain ⟨cs, hc⟩ := own_heap h
  refine ⟨?_, by simp [World.frozen?, hc]⟩
  have := h.cells (g := g) rfl j us[j] (by simp [hj])
  rwa [add_lit, Nat.zero_add] at this
theorem ListsOwn.onlyN {w w' : World} {base : Nat} {us : List Value} {ls : List (List Int)} {X : List Nat} (h : ListsOwn w base us ls) (ho : Only X w w') (hX : ∀ u ∈ us, ∀ g, u.ownBlock = some g → g ∉ X) : ListsOwn w' base us ls :=
  ⟨h.1, fun j hj => by
    obtain ⟨v, h1, h2⟩ := h.2 j hj
    exact ⟨v, h1, own_onlyN h2 ho (hX v (List.mem_of_getElem? h1))⟩⟩
theorem ListsOwn.types {w : World} {base x : Nat} {e' : TypeId} {us : List Value} {ls : List (List Int)} {cs : Array Value} (h : ListsOwn w base us ls) (hc : w.heap[x]? = some (.cells cs e' (0, 0))) (hne : 3 ≠ e') : ∀ u ∈ us, u.ownBlock ≠ some x := fun u hu => by
  obtain ⟨j, hj⟩ := List.getElem?_of_mem hu
  obtain ⟨v, h1, h2⟩ := h.2 j (by rw [← h.1]; exact (List.getElem?_eq_some_iff.1 hj).1)
  rw [h1] at hj
  cases hj
  exact own_type h2 hc hne
theorem ListsOwn.erase {w : World} {base f : Nat} {us : List Value} {ls : List (List Int)} (h : ListsOwn w base us ls) : ListsOwn w base (us.eraseIdx f) (ls.eraseIdx f) := by
  have hl : (us.eraseIdx f).length = (ls.eraseIdx f).length := by rw [List.length_eraseIdx, List.length_eraseIdx, h.1]
  refine ⟨hl, fun j hj => ?_⟩
  by_cases hjf : j < f
  · have hj2 : j < ls.length := by rw [List.length_eraseIdx] at hj; split at hj <;> omega
    obtain ⟨v, h1, h2⟩ := h.2 j hj2
    refine ⟨v, by rw [List.getElem?_eraseIdx_of_lt hjf]; exact h1, ?_⟩
    rw [List.getElem_eraseIdx_of_lt hj hjf]
    exact h2
  · have hj2 : j + 1 < ls.length := by rw [List.length_eraseIdx] at hj; split at hj <;> omega
    obtain ⟨v, h1, h2⟩ := h.2 (j + 1) hj2
    refine ⟨v, by rw [List.getElem?_eraseIdx_of_ge (by omega)]; exact h1, ?_⟩
    rw [List.getElem_eraseIdx_of_ge hj (by omega)]
    exact h2
theorem cells_asIs {w : World} {g : Nat} {us : List Value} (h : RowAt asIs w g us) : CellsAt w (some ⟨g, 0, none⟩) us := fun _ => ⟨g, 0, rfl, fun j u hj => by
  obtain ⟨hlt, rfl⟩ := List.getElem?_eq_some_iff.1 hj
  rw [Nat.zero_add]
  exact (h j hlt).1⟩
theorem ListsOwn.fitsIn {w : World} {base : Nat} {us : List Value} {ls : List (List Int)} (h : ListsOwn w base us ls) : FitsIn w us ls :=
  ⟨h.1, fun j hj => by
    obtain ⟨v, h1, h2⟩ := h.2 j hj
    obtain ⟨A', c, rfl, hA⟩ := ownsRow.ints h2
    exact ⟨A', c, h1, hA⟩⟩

/-- The board less a find, as it lies when both rows are shortened. -/
theorem without_mem {n₀ gf gt cF cT cS f cb rb : Nat} {b : Board} {w2 w3 w4 w5 : World} {As : Option Addr} {us : List Value} {x y : Array Value}
    (hf : w2.ownsRow n₀ 3 1 (.slice (some ⟨gf, 0, none⟩) b.finds.length cF) b.finds.length (ints b.finds)) (hs : w2.ownsRow n₀ 50 3 (.slice As b.slots.length cS) b.slots.length (slotCells b.slots))
    (ht : w2.ownsRow n₀ 22 1 (.slice (some ⟨gt, 0, none⟩) b.fits.length cT) b.fits.length us) (hl : ListsOwn w2 n₀ us b.fits) (hd : ∀ u ∈ us, ∀ g, (Value.slice (some ⟨gf, 0, none⟩) b.finds.length cF).ownBlock = some g → u.ownBlock ≠ some g)
    (oF : Only [gf] w2 w3) (rF : RowAt (Value.int .i64) w3 gf (b.finds.eraseIdx f)) (oT : Only [gt] w3 w4) (rT : RowAt asIs w4 gt (us.eraseIdx f))
    (hcb : w2.heap[cb]? = some (.cells x 26 (0, 0))) (hrb : w2.heap[rb]? = some (.cells y 26 (0, 0))) (o5 : Only [cb, rb] w4 w5) :
    BoardAt w5 (some ⟨gf, 0, none⟩) As (some ⟨gt, 0, none⟩) (b.without f) := by
  obtain ⟨cf, hcf⟩ := own_heap hf
  obtain ⟨ct, hct⟩ := own_heap ht
  have ne1 : gf ≠ gt := fun e => by subst e; rw [hcf] at hct; simp at hct
  have ne2 : gf ≠ cb := fun e => by subst e; rw [hcf] at hcb; simp at hcb
  have ne3 : gf ≠ rb := fun e => by subst e; rw [hcf] at hrb; simp at hrb
  have ne4 : gt ≠ cb := fun e => by subst e; rw [hct] at hcb; simp at hcb
  have ne5 : gt ≠ rb := fun e => by subst e; rw [hct] at hrb; simp at hrb
  have oA : Only [gf, gt, cb, rb] w2 w5 := ((oF.wide (by simp)).trans (oT.wide (by simp))).trans (o5.wide (by simp))
  refine ⟨((rF.only oT (by simpa using ne1)).only o5 (by simp [ne2, ne3])).intsAt, ?_, ?_⟩
  · have h5 := own_onlyN hs oA (fun g hg => by
      simp only [List.mem_cons, List.not_mem_nil, or_false, not_or]
      exact ⟨fun e => own_type hs hcf (by decide) (e ▸ hg), fun e => own_type hs hct (by decide) (e ▸ hg), fun e => own_type hs hcb (by decide) (e ▸ hg), fun e => own_type hs hrb (by decide) (e ▸ hg)⟩)
    obtain ⟨A', c', hv, hc, _⟩ := ownsRow.form h5
    cases hv
    exact hc.slots
  · have h5 := hl.onlyN oA (fun u hu g hg => by
      simp only [List.mem_cons, List.not_mem_nil, or_false, not_or]
      exact ⟨fun e => hd u hu gf rfl (e ▸ hg), fun e => hl.types hct (by decide) u hu (e ▸ hg), fun e => hl.types hcb (by decide) u hu (e ▸ hg), fun e => hl.types hrb (by decide) u hu (e ▸ hg)⟩)
    exact h5.erase.fitsIn.at_ (cells_asIs (rT.only o5 (by simp [ne4, ne5])))

theorem two_set {w : World} {cb rb : Nat} {x y : Value} {o : Obj} (h : w.heap[rb]? = some o) (hne : rb ≠ cb) : ((w.setCell ⟨cb, 0, none⟩ x).setCell ⟨cb, 2, none⟩ y).heap[rb]? = some o :=
  ((((Only.refl [cb] w).setCell (by simp) x).setCell (by simp) y).block rb (Array.getElem?_eq_some_iff.1 h).1 (by simpa using hne)).trans h
theorem only_five {x0 x2 y0 y1 y2 : Value} (w : World) (cb rb : Nat) : Only [cb, rb] w (((((w.setCell ⟨cb, 0, none⟩ x0).setCell ⟨cb, 2, none⟩ x2).setCell ⟨rb, 0, none⟩ y0).setCell ⟨rb, 1, none⟩ y1).setCell ⟨rb, 2, none⟩ y2) :=
  (((((Only.refl [cb, rb] w).setCell (by simp) x0).setCell (by simp) x2).setCell (by simp) y0).setCell (by simp) y1).setCell (by simp) y2
theorem wrap_add1 {x : Int} (h : -1000 ≤ x ∧ x ≤ 1000) : IntKind.i64.wrap (x + 1) = x + 1 := by
  rw [IntKind.wrap_i64]
  omega
theorem own_cap {w : World} {base size n g cap : Nat} {e : TypeId} {xs : List Value} (h : w.ownsRow base e size (.slice (some ⟨g, 0, none⟩) n cap) n xs) : n ≤ cap ∧ cap ≤ 9223372036854775807 ∧ base ≤ g := by
  rcases h.2 with ⟨h2, _⟩ | ⟨g', cap', cur, h1, hb, _, h3, h4, _⟩
  · cases h2
  · cases h1
    exact ⟨h3, by simpa [maxLen] using h4, hb⟩
theorem call77 (v : Array Value) (w : World) : (callFunc 77 v).run Try.prog w = .ok (.enter 77 v) w := by
  have h := Try.func77
  unfold callFunc
  simp [h, Try.f77]
theorem call78 (v : Array Value) (w : World) : (callFunc 78 v).run Try.prog w = .ok (.enter 78 v) w := by
  have h := Try.func78
  unfold callFunc
  simp [h, Try.f78]
theorem own_ones {w : World} {base : Nat} {us : List Value} {ls : List (List Int)} (h : ListsOwn w base us ls) : ∀ u ∈ us, u.oneCell' = true := fun u hu => by
  obtain ⟨j, hj⟩ := List.getElem?_of_mem hu
  obtain ⟨v, h1, h2⟩ := h.2 j (by rw [← h.1]; exact (List.getElem?_eq_some_iff.1 hj).1)
  rw [h1] at hj
  obtain ⟨A, c, hv, _⟩ := ownsRow.form h2
  rw [hv] at hj
  rw [← Option.some.inj hj]
  rfl

set_option maxRecDepth 100000 in
set_option maxHeartbeats 8000000 in
theorem without_any (b : Board) (Af As At : Option Addr) (cf cs ct : Nat) (w : World) (hs : b.small) (hB : BoardAt w Af As At b) (f : Int) :
    Calls Try.prog 41 #[.agg #[.slice Af b.finds.length cf, .slice As b.slots.length cs, .slice At b.fits.length ct], .int .i64 f] w
      (GotPost (askOf b f 0 false true) (if askOf b f 0 false true = 0 then b.without f.toNat else Board.nil) w) := by
  have HS := hid hs
  have n1 := hs.1
  have n3 := hs.2.2.1
  obtain ⟨W, hW, c0, c1, c2, hbW, hz⟩ := box3 w (.slice Af b.finds.length cf) (.slice As b.slots.length cs) (.slice At b.fits.length ct) 26
  obtain ⟨V, hV, r0, r1, r2, hbV, hzV⟩ := box3 W (.slice none 0 0) (.slice none 0 0) (.slice none 0 0) 26
  have hB0 := hid hB
  have HBV := hid (hbW.trans (hbV.mono hbW.size))
  have v0 := (Kept.of_below hbV) _ _ c0
  have v1 := (Kept.of_below hbV) _ _ c1
  have v2 := (Kept.of_below hbV) _ _ c2
  have HRB : Hid (V.heap[W.heap.size]? = some (.cells #[.slice none 0 0, .slice none 0 0, .slice none 0 0] 26 (0, 0))) := hid (by rw [← hV]; exact heap_alloc_new _ _)
  have HZ2 : Hid (w.heap.size ≤ W.heap.size) := hid (by omega)
  have HZ : Hid (W.heap.size < V.heap.size) := hid (by omega)
  have bAl : ∀ (u v : Bool), Below V.heap.size V (V.alloc (.cells #[.bool u, .bool v] 4)) := fun _ _ => (Below.refl _ _).alloc (Nat.le_refl _) _
  have BAL := hid bAl
  clear bAl hz hbW hbV hzV hB hs c0 c1 c2 r0 r1 r2
  by_cases hc : askOf b f 0 false true = 0
  case neg =>
    have d1 : (askOf b f 0 false true != 0) = true := by simpa using hc
    rw [if_neg hc]
    have HC := hid hc
    clear hc
    go_enter Try.func41, Try.ntmps41
    go_wp2_with fail
    refine (asked_any b Af As At cf cs ct V.heap.size _ HS.out (hB0.out.kept (Kept.of_below (HBV.out.trans ((BAL.out _ _).mono HBV.out.size)))) f 0 false true (by simp) (by simp)).mono ?_
    rintro e w1 ⟨rfl, hb1⟩
    have hb1' := (BAL.out false true).trans (hb1.mono (by simp))
    have hrb := (hb1'.block W.heap.size HZ.out).trans HRB.out
    have z0 : w1.cell? ⟨W.heap.size, 0, none⟩ = some (.slice none 0 0) := by simp [World.cell?, hrb]
    have z1 : w1.cell? ⟨W.heap.size, 1, none⟩ = some (.slice none 0 0) := by simp [World.cell?, hrb]
    have z2 : w1.cell? ⟨W.heap.size, 2, none⟩ = some (.slice none 0 0) := by simp [World.cell?, hrb]
    have z3 : ∀ o, w1.frozen? ⟨W.heap.size, o, none⟩ = false := fun o => by simp [World.frozen?, hrb]
    have HRB2 := hid hrb
    have HB1 := hid hb1'
    clear hb1 hb1' hrb
    go_wp2_with fail
    refine bodyPost_ret (ret_board2 rfl rfl rfl (set3 HRB2.out)) rfl ?_
    exact got_nil (below_set3 (HBV.out.trans (HB1.out.mono HBV.out.size)) HZ2.out) rfl
  obtain ⟨hck, r3, r4⟩ := askOf_find hc
  obtain ⟨fn, rfl⟩ := Int.eq_ofNat_of_zero_le r3
  rw [if_pos hc, hc, Int.toNat_natCast]
  have HC := hid hc
  have HFI := hid (Board.check_fine HS.out hck)
  have hfn : fn < b.finds.length := by omega
  have hff : fn < b.fits.length := by rw [HFI.out.fits]; exact hfn
  clear hc hck
  go_enter Try.func41, Try.ntmps41
  go_wp2_with fail
  refine (asked_t b Af As At cf cs ct V.heap.size _ HS.out (hB0.out.kept (Kept.of_below (HBV.out.trans ((BAL.out _ _).mono HBV.out.size)))) fn 0 false true (by simp) (by simp) HC.out).mono ?_
  rintro e w1 ⟨rfl, hb1⟩
  have hb1' := (BAL.out false true).trans (hb1.mono (by simp))
  have k0 := (Kept.of_below hb1') _ _ v0
  have k1 := (Kept.of_below hb1') _ _ v1
  have k2 := (Kept.of_below hb1') _ _ v2
  have HRB1 := hid ((hb1'.block W.heap.size HZ.out).trans HRB.out)
  have HB1 := hid (HBV.out.trans (hb1'.mono HBV.out.size))
  clear hb1 hb1' hW hV v0 v1 v2 HRB
  go_wp2_with fail
  refine (other_any b Af As At cf cs ct w1 HS.out (hB0.out.kept (Kept.of_below HB1.out))).mono ?_
  rintro e w2 ⟨vf, vs, vt, rfl, hM, hb2⟩
  obtain ⟨us, oT, hl, hap, hd⟩ := hM.fits
  have oF := hM.finds
  have oS := hM.slots
  obtain ⟨gf, cF, rfl, _, _⟩ := own_slice oF (by omega)
  obtain ⟨aS, cS, rfl, _, _⟩ := ownsRow.form oS
  obtain ⟨gt, cT, rfl, _, _⟩ := own_slice oT (by omega)
  obtain ⟨V2, hV2, y0, y1, y2, hbV2, hz2⟩ := box3 w2 (.slice (some ⟨gf, 0, none⟩) b.finds.length cF) (.slice aS b.slots.length cS) (.slice (some ⟨gt, 0, none⟩) b.fits.length cT) 26
  have HCB : Hid (V2.heap[w2.heap.size]? = some (.cells #[.slice (some ⟨gf, 0, none⟩) b.finds.length cF, .slice aS b.slots.length cS, .slice (some ⟨gt, 0, none⟩) b.fits.length cT] 26 (0, 0))) := hid (by rw [← hV2]; exact heap_alloc_new _ _)
  have HRB2 := hid ((hbV2.block W.heap.size (Nat.lt_of_lt_of_le (Array.getElem?_eq_some_iff.1 HRB1.out).1 hb2.size)).trans ((hb2.block W.heap.size (Array.getElem?_eq_some_iff.1 HRB1.out).1).trans HRB1.out))
  have HB2 := hid (HB1.out.trans ((hb2.trans (hbV2.mono hb2.size)).mono HB1.out.size))
  have OF := hid (own_below oF hbV2)
  have OS := hid (own_below oS hbV2)
  have OT := hid (own_below oT hbV2)
  have HL := hid (hl.below hbV2)
  have HD := hid hd
  have HUS : Hid (us.length = b.fits.length) := hid hl.1
  have HW1 : Hid (w.heap.size ≤ w1.heap.size ∧ w.heap.size ≤ w2.heap.size) := hid ⟨HB1.out.size, Nat.le_trans HB1.out.size hb2.size⟩
  have s0 : IntKind.i64.wrap ((fn : Int) + 1) = (fn : Int) + 1 := wrap_add1 (by omega)
  have HNE : Hid (w2.heap.size ≠ gf ∧ w2.heap.size ≠ gt ∧ W.heap.size ≠ gf ∧ W.heap.size ≠ gt ∧ W.heap.size ≠ w2.heap.size) := by
    obtain ⟨x, hx⟩ := own_heap OF.out
    obtain ⟨y, hy⟩ := own_heap OT.out
    have h1 := HCB.out
    have h2 := HRB2.out
    have h3 := (Array.getElem?_eq_some_iff.1 HRB1.out).1
    have h4 := hb2.size
    refine hid ⟨?_, ?_, ?_, ?_, by omega⟩
    · intro e; rw [e, hx] at h1; simp at h1
    · intro e; rw [e, hy] at h1; simp at h1
    · intro e; rw [e, hx] at h2; simp at h2
    · intro e; rw [e, hy] at h2; simp at h2
  have HLT : Hid (w2.heap.size < V2.heap.size ∧ W.heap.size < V2.heap.size) := hid ⟨(Array.getElem?_eq_some_iff.1 HCB.out).1, (Array.getElem?_eq_some_iff.1 HRB2.out).1⟩
  have HFT : Hid (gt ∉ [gf]) := by
    obtain ⟨x, hx⟩ := own_heap OF.out
    obtain ⟨y, hy⟩ := own_heap OT.out
    refine hid ?_
    simp only [List.mem_singleton]
    intro e
    rw [e, hx] at hy
    simp at hy
  have ERF : Hid (Calls Try.prog 77 #[.slice (some ⟨gf, 0, none⟩) b.finds.length cF, .int .i64 fn, .int .i64 ((fn : Int) + 1)] V2.drew fun e w' => ∃ u, e = .returned u ∧ u = .slice (some ⟨gf, 0, none⟩) (b.finds.length - 1) cF ∧ RowAt (Value.int .i64) w' gf (b.finds.eraseIdx fn) ∧ Only [gf] V2 w') :=
    hid ((eraseInts_any gf cF fn b.finds.length b.finds V2.drew (RowAt.of_own OF.out) rfl (own_cap OF.out).1 (own_cap OF.out).2.1 hfn).mono (fun _ _ ⟨h1, h2, h3⟩ => ⟨_, h1, rfl, h2, (Only.of_below ((Below.refl _ _).drew)).trans h3⟩))
  have ERT : Hid (∀ w3, Only [gf] V2 w3 → Calls Try.prog 78 #[.slice (some ⟨gt, 0, none⟩) b.fits.length cT, .int .i64 fn, .int .i64 ((fn : Int) + 1)] w3 fun e w' => ∃ u, e = .returned u ∧ u = .slice (some ⟨gt, 0, none⟩) (b.fits.length - 1) cT ∧ RowAt asIs w' gt (us.eraseIdx fn) ∧ Only [gt] w3 w') :=
    hid (fun w3 ho => (eraseFits_any gt cT fn b.fits.length us w3 ((own_asIs OT.out).only ho HFT.out) HUS.out (own_cap OT.out).1 (by omega) hff (own_ones HL.out)).mono (fun _ _ ⟨h1, h2, h3⟩ => ⟨_, h1, rfl, h2, h3⟩))
  clear hM oF oS oT hl hap hd hb2 hbV2 hz2 k0 k1 k2 HRB1
  go_wp2_with fail
  go_region_law (first
    | (refine step_call rfl #[.tmp 19, .tmp 20, .tmp 22] 77 #[22, 3, 3] rfl call77 #[.slice (some ⟨gf, 0, none⟩) b.finds.length cF, .int .i64 fn, .int .i64 ((fn : Int) + 1)] ?hs
        (fun u w' => u = .slice (some ⟨gf, 0, none⟩) (b.finds.length - 1) cF ∧ RowAt (Value.int .i64) w' gf (b.finds.eraseIdx fn) ∧ Only [gf] V2 w') ERF.out ?_
       case hs => simp [Act.eval, Act.put]
       rintro _ w3 ⟨rfl, rF, o3⟩
       have RF := hid rF
       have O3 := hid o3
       have p0 := (o3.cell (p := ⟨w2.heap.size, 0, none⟩) HLT.out.1 (by simpa using HNE.out.1)).trans y0
       have p1 := (o3.cell (p := ⟨w2.heap.size, 1, none⟩) HLT.out.1 (by simpa using HNE.out.1)).trans y1
       have p2 := (o3.cell (p := ⟨w2.heap.size, 2, none⟩) HLT.out.1 (by simpa using HNE.out.1)).trans y2
       clear rF o3)
    | (refine step_call rfl #[.tmp 25, .tmp 26, .tmp 28] 78 #[24, 3, 3] rfl call78 #[.slice (some ⟨gt, 0, none⟩) b.fits.length cT, .int .i64 fn, .int .i64 ((fn : Int) + 1)] ?hs
        (fun u w' => u = .slice (some ⟨gt, 0, none⟩) (b.fits.length - 1) cT ∧ RowAt asIs w' gt (us.eraseIdx fn) ∧ Only [gt] w3 w') (ERT.out w3 O3.out) ?_
       case hs => simp [Act.eval, Act.put]
       rintro _ w4 ⟨rfl, rT, o4⟩
       have RT := hid rT
       have O4 := hid o4
       have O5 := hid ((O3.out.wide (Y := [gf, gt]) (by simp)).trans (o4.wide (by simp)))
       have hcb := (O5.out.block w2.heap.size HLT.out.1 (by simp only [List.mem_cons, List.not_mem_nil, or_false, not_or]; exact ⟨HNE.out.1, HNE.out.2.1⟩)).trans HCB.out
       have hrb := (O5.out.block W.heap.size HLT.out.2 (by simp only [List.mem_cons, List.not_mem_nil, or_false, not_or]; exact ⟨HNE.out.2.2.1, HNE.out.2.2.2.1⟩)).trans HRB2.out
       have p0 : w4.cell? ⟨w2.heap.size, 0, none⟩ = some (.slice (some ⟨gf, 0, none⟩) b.finds.length cF) := by simp [World.cell?, hcb]
       have p1 : w4.cell? ⟨w2.heap.size, 1, none⟩ = some (.slice aS b.slots.length cS) := by simp [World.cell?, hcb]
       have p2 : w4.cell? ⟨w2.heap.size, 2, none⟩ = some (.slice (some ⟨gt, 0, none⟩) b.fits.length cT) := by simp [World.cell?, hcb]
       have p3 : ∀ o, w4.frozen? ⟨w2.heap.size, o, none⟩ = false := fun o => by simp [World.frozen?, hcb]
       have q0 : w4.cell? ⟨W.heap.size, 0, none⟩ = some (.slice none 0 0) := by simp [World.cell?, hrb]
       have q1 : w4.cell? ⟨W.heap.size, 1, none⟩ = some (.slice none 0 0) := by simp [World.cell?, hrb]
       have q2 : w4.cell? ⟨W.heap.size, 2, none⟩ = some (.slice none 0 0) := by simp [World.cell?, hrb]
       have q3 : ∀ o, w4.frozen? ⟨W.heap.size, o, none⟩ = false := fun o => by simp [World.frozen?, hrb]
       have q4 := HNE.out.2.2.2.2
       have HRB4 := hid hrb
       clear rT o4 hcb hrb))
  all_goals
    go_wp2_with fail
    refine bodyPost_ret (ret_board2 rfl rfl rfl (set3 (two_set HRB4.out HNE.out.2.2.2.2))) rfl ?_
    have o5 := only_five (x0 := .slice (some ⟨gf, 0, none⟩) (b.finds.length - 1) cF) (x2 := .slice (some ⟨gt, 0, none⟩) (b.fits.length - 1) cT) (y0 := .slice (some ⟨gf, 0, none⟩) (b.finds.length - 1) cF) (y1 := .slice aS b.slots.length cS) (y2 := .slice (some ⟨gt, 0, none⟩) (b.fits.length - 1) cT) w4 w2.heap.size W.heap.size
    have oA : Only [gf, gt, w2.heap.size, W.heap.size] V2 _ := (O5.out.wide (by simp)).trans (o5.wide (by simp))
    refine ⟨HB2.out.trans (oA.below (fun x hx => ?_) HB2.out.size), some ⟨gf, 0, none⟩, cF, aS, cS, some ⟨gt, 0, none⟩, cT, ?_, without_mem OF.out OS.out OT.out HL.out HD.out O3.out RF.out O4.out RT.out HCB.out HRB2.out o5⟩
    · have h1 := (own_cap OF.out).2.2
      have h2 := (own_cap OT.out).2.2
      have h3 := HW1.out
      have h4 := HZ2.out
      simp only [List.mem_cons, List.not_mem_nil, or_false] at hx
      rcases hx with rfl | rfl | rfl | rfl <;> omega
    · rw [show (b.without fn).finds.length = b.finds.length - 1 from List.length_eraseIdx_of_lt hfn, show (b.without fn).fits.length = b.fits.length - 1 from List.length_eraseIdx_of_lt hff]
      rfl
end Go.Proofs.Ytpmdjbjnihhjeaa
