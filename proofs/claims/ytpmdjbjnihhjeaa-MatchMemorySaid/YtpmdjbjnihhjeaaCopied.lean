/- Copied (the reference): a board in new memory. -/
import Derived.Test.YtpmdjbjnihhjeaaMade
namespace Go.Proofs.Ytpmdjbjnihhjeaa
open Go.RowKit
set_option linter.unusedSimpArgs false

/-- An append whose run is known, as a step of a region that draws its order. -/
theorem step_app {P : Program} {ops : Array Oper} {o : Oper} {a : Act} {w : World} {K : Act → World → Prop} {Q : Exit → Act → World → Prop} {E : Prop}
    (hg : o.guard = none) (s x : Operand) (t ty : TypeId) (hop : o.op = Op.call { callee := Callee.builtin Builtin.append, args := #[s, x], argTypes := #[t, t] }) (hty : o.type = ty)
    (v src : Value) (hs : a.eval s = v) (hx : a.eval x = src) (R : Value → World → Prop) (hr : ∃ v' w', (Builtin.append_ #[t, t] ty #[v, src]).run P w = .ok v' w' ∧ R v' w') (hK : ∀ v' w', R v' w' → K (a.put o.dst v') w') :
    if Region.wanted o (yielded ops a.tmps) = true then Oper.wp P o a w K Q else E := by
  have hw : Region.wanted o (yielded ops a.tmps) = true := by simp [Region.wanted, hg]
  rw [if_pos hw]
  obtain ⟨v', w', hrun, hR⟩ := hr
  subst hty
  unfold Oper.wp
  simp [execOp, hop, resolve, invoke, builtin, hs, hx, hrun, Result.andThen]
  exact hK v' w' hR
theorem empty_own {w : World} {base g size : Nat} {e : TypeId} (h : w.heap[g]? = some (.cells #[] e (0, 0))) (hb : base ≤ g) : w.ownsRow base e size (.slice (some ⟨g, 0, none⟩) 0 0) 0 [] :=
  ⟨by simp, .inr ⟨g, 0, #[], rfl, hb, h, Nat.le_refl _, Nat.zero_le _, by simp, by simp⟩⟩
theorem copy_ints {V : World} {A : Option Addr} {c : Nat} {xs : List Int} (hm : xs.length ≤ 1000) (hA : IntsAt V A xs) : ∀ (p : World) (g : Nat), Below V.heap.size V p → V.heap.size ≤ g → p.heap[g]? = some (.cells #[] 3 (0, 0)) →
    ∃ v' w', (Builtin.append_ #[22, 22] 22 #[.slice (some ⟨g, 0, none⟩) 0 0, .slice A xs.length c]).run Try.prog p = .ok v' w' ∧ (w'.ownsRow V.heap.size 3 1 v' xs.length (ints xs) ∧ p.grownBy w' (some g) ∧ p.heap[g]? = some (.cells #[] 3 (0, 0)) ∧ ∃ A' c', v' = .slice A' xs.length c') := fun p g hb hg hh => by
  obtain ⟨v', w', hr, ho, hgr⟩ := app_ints (w := p) (base := V.heap.size) (xs := []) (v := .slice (some ⟨g, 0, none⟩) 0 0) (ys := xs) (A := A) (c := c) (empty_own hh hg) (hA.kept (Kept.of_below hb)) (by simp; omega) hb.size
  have ho' : w'.ownsRow V.heap.size 3 1 v' xs.length (ints xs) := by simpa using ho
  obtain ⟨A', c', hv, _⟩ := ownsRow.form ho'
  exact ⟨v', w', hr, ho', hgr, hh, A', c', hv⟩
theorem copy_slots {V : World} {A : Option Addr} {c : Nat} {ss : List Slot} (hm : ss.length ≤ 1000) (hA : SlotsAt V A ss) : ∀ (p : World) (g : Nat), Below V.heap.size V p → V.heap.size ≤ g → p.heap[g]? = some (.cells #[] 50 (0, 0)) →
    ∃ v' w', (Builtin.append_ #[23, 23] 23 #[.slice (some ⟨g, 0, none⟩) 0 0, .slice A ss.length c]).run Try.prog p = .ok v' w' ∧ (w'.ownsRow V.heap.size 50 3 v' ss.length (slotCells ss) ∧ p.grownBy w' (some g) ∧ p.heap[g]? = some (.cells #[] 50 (0, 0)) ∧ ∃ A' c', v' = .slice A' ss.length c') := fun p g hb hg hh => by
  obtain ⟨v', w', hr, ho, hgr⟩ := app_slots (w := p) (base := V.heap.size) (n := 0) (us := []) (v := .slice (some ⟨g, 0, none⟩) 0 0) (m := ss.length) (vs := slotCells ss) (A := A) (c := c) (empty_own hh hg) (slotCells_length ss) (hA.cells.kept (Kept.of_below hb))
    (by intro u hu; simp only [slotCells, List.mem_flatMap, List.mem_cons, List.not_mem_nil, or_false] at hu; obtain ⟨s, _, rfl | rfl | rfl⟩ := hu <;> rfl) (by omega) hb.size
  have ho' : w'.ownsRow V.heap.size 50 3 v' ss.length (slotCells ss) := by simpa using ho
  obtain ⟨A', c', hv, _⟩ := ownsRow.form ho'
  exact ⟨v', w', hr, ho', hgr, hh, A', c', hv⟩
theorem copy_row (wr : World) (A : Option Addr) (c : Nat) (L : List Int) (hm : L.length ≤ 1000) (hA : IntsAt wr A L) :
    ∃ v' w', (Builtin.append_ #[22, 22] 22 #[.slice (some ⟨wr.heap.size, 0, none⟩) 0 0, .slice A L.length c]).run Try.prog (wr.alloc (.cells #[] 3)).drew = .ok v' w' ∧ (w'.ownsRow wr.drew.heap.size 3 1 v' L.length (ints L) ∧ Below wr.drew.heap.size wr.drew w') := by
  have hb : Below wr.heap.size wr (wr.alloc (.cells #[] 3)).drew := ((Below.refl _ _).alloc (Nat.le_refl _) _).drew
  obtain ⟨v', w', hr, ho, hg, _⟩ := copy_ints (c := c) hm hA (wr.alloc (.cells #[] 3)).drew wr.heap.size hb (Nat.le_refl _) (heap_alloc_new wr _)
  have hb2 : Below wr.heap.size wr w' := hb.trans (Below.of_grown hg hb.size (fun k e => by cases e; exact Nat.le_refl _))
  exact ⟨v', w', hr, ho, ⟨hb2.os, hb2.tape, hb2.output, hb2.size, hb2.block⟩⟩
theorem alloc_get (w : World) (o : Obj) (k : Nat) : (w.alloc o).heap[k]? = if k = w.heap.size then some o else w.heap[k]? := by
  show (w.heap.push o)[k]? = _
  rw [Array.getElem?_push]
theorem alloc_size (w : World) (o : Obj) : (w.alloc o).heap.size = w.heap.size + 1 := by
  show (w.heap.push o).size = _
  simp
theorem drew_heap (w : World) : w.drew.heap = w.heap := rfl
theorem keepV {V p : World} {p1 p2 : Addr} {v1 v2 : Value} (h1 : V.cell? p1 = some v1) (h2 : V.cell? p2 = some v2) (hb : Below V.heap.size V p) : p.cell? p1 = some v1 ∧ p.cell? p2 = some v2 ∧ Below V.heap.size V p :=
  ⟨(Kept.of_below hb) _ _ h1, (Kept.of_below hb) _ _ h2, hb⟩
theorem lastV {V p : World} {p1 p2 : Addr} {v1 v2 : Value} (_ : V.cell? p1 = some v1) (_ : V.cell? p2 = some v2) (h : p.cell? p1 = some v1 ∧ p.cell? p2 = some v2 ∧ Below V.heap.size V p) : Below V.heap.size V p := h.2.2
theorem below_alloc' {V p : World} (h : Below V.heap.size V p) (o : Obj) : Below V.heap.size V (p.alloc o) := h.alloc h.size o
theorem below_grown' {V p p' : World} {g : Nat} (h : Below V.heap.size V p) (hg : p.grownBy p' (some g)) (hge : V.heap.size ≤ g) : Below V.heap.size V p' :=
  h.trans (Below.of_grown hg h.size (fun k e => by cases e; exact hge))
theorem grown_heap {p p' : World} {g k : Nat} (hg : p.grownBy p' (some g)) (h1 : k < p.heap.size) (h2 : k ≠ g) : p'.heap[k]? = p.heap[k]? := hg.block k h1 (fun e => h2 (Option.some.inj e))
theorem grown_cell {p p' : World} {g x o : Nat} (hg : p.grownBy p' (some g)) (h1 : x < p.heap.size) (h2 : x ≠ g) : p'.cell? ⟨x, o, none⟩ = p.cell? ⟨x, o, none⟩ := World.cell?_of_block (a := ⟨x, o, none⟩) (grown_heap hg h1 h2)
theorem grown_frozen {p p' : World} {g x o : Nat} (hg : p.grownBy p' (some g)) (h1 : x < p.heap.size) (h2 : x ≠ g) : p'.frozen? ⟨x, o, none⟩ = p.frozen? ⟨x, o, none⟩ := World.frozen?_of_block (a := ⟨x, o, none⟩) (grown_heap hg h1 h2)
theorem fin_set {V p : World} {cb n m : Nat} {vf vs : Value} {us ss : List Value} (hcb : p.heap[cb]? = some (.cells #[.slice none 0 0, .slice none 0 0, .slice none 0 0] 26 (0, 0))) (hlo : V.heap.size ≤ cb)
    (o1 : p.ownsRow V.heap.size 3 1 vf n us) (o2 : p.ownsRow V.heap.size 50 3 vs m ss) (hp : Below V.heap.size V p) (W3 : World) (hW : W3 = ((p.setCell ⟨cb, 0, none⟩ vf).setCell ⟨cb, 1, none⟩ vs).setCell ⟨cb, 2, none⟩ (.slice none 0 0)) :
    W3.heap[cb]? = some (.cells #[vf, vs, .slice none 0 0] 26 (0, 0)) ∧ V.heap.size ≤ cb ∧ W3.ownsRow V.heap.size 3 1 vf n us ∧ W3.ownsRow V.heap.size 50 3 vs m ss ∧ Below V.heap.size V W3 := by
  subst hW
  exact ⟨set3 hcb, hlo, own_set3 o1 hcb (by decide), own_set3 o2 hcb (by decide), below_set3 hp hlo⟩
theorem fin_alloc {V p : World} {n m : Nat} {vf vs : Value} {us ss : List Value}
    (o1 : p.ownsRow V.heap.size 3 1 vf n us) (o2 : p.ownsRow V.heap.size 50 3 vs m ss) (hp : Below V.heap.size V p) :
    (p.alloc (.cells #[vf, vs, .slice none 0 0] 26)).heap[p.heap.size]? = some (.cells #[vf, vs, .slice none 0 0] 26 (0, 0)) ∧ V.heap.size ≤ p.heap.size ∧ (p.alloc (.cells #[vf, vs, .slice none 0 0] 26)).ownsRow V.heap.size 3 1 vf n us ∧ (p.alloc (.cells #[vf, vs, .slice none 0 0] 26)).ownsRow V.heap.size 50 3 vs m ss ∧ Below V.heap.size V (p.alloc (.cells #[vf, vs, .slice none 0 0] 26)) :=
  ⟨heap_alloc_new _ _, hp.size, own_below o1 ((Below.refl _ _).alloc (Nat.le_refl _) _), own_below o2 ((Below.refl _ _).alloc (Nat.le_refl _) _), hp.alloc hp.size _⟩

set_option maxRecDepth 100000 in
set_option maxHeartbeats 8000000 in
theorem copied_any (b : Board) (Af As At : Option Addr) (cf cs ct : Nat) (w : World) (hs : b.small) (hB : BoardAt w Af As At b) :
    Calls Try.prog 26 #[.agg #[.slice Af b.finds.length cf, .slice As b.slots.length cs, .slice At b.fits.length ct]] w (MadePost b w) := by
  have n1 := hs.1
  have n2 := hs.2.1
  have n3 := hs.2.2.1
  have N4 := hid hs.2.2.2
  obtain ⟨W, hW, c0, c1, c2, hbW, hz⟩ := box3 w (.slice Af b.finds.length cf) (.slice As b.slots.length cs) (.slice At b.fits.length ct) 26
  obtain ⟨V, hV, r0, r1, r2, hbV, hzV⟩ := box3 W (.slice none 0 0) (.slice none 0 0) (.slice none 0 0) 26
  have hwV : Below w.heap.size w V := hbW.trans (hbV.mono hbW.size)
  have HB := hid (hB.kept (Kept.of_below hwV))
  have HWV := hid hwV
  have c0 := (Kept.of_below hbV) _ _ c0
  have c1 := (Kept.of_below hbV) _ _ c1
  have c2 := (Kept.of_below hbV) _ _ c2
  have HRB : Hid (V.heap[W.heap.size]? = some (.cells #[.slice none 0 0, .slice none 0 0, .slice none 0 0] 26 (0, 0))) := hid (by rw [← hV]; exact heap_alloc_new _ _)
  have HZ2 : Hid (w.heap.size ≤ W.heap.size) := hid (by omega)
  have HZ : Hid (W.heap.size < V.heap.size ∧ w.heap.size < V.heap.size) := hid (by omega)
  have zz1 : V.heap.size + 1 + 1 ≠ V.heap.size := by omega
  have zz2 : V.heap.size ≠ V.heap.size + 1 + 1 := by omega
  have zz3 : V.heap.size < V.heap.size + 1 + 1 := by omega
  have zz4 : V.heap.size < V.heap.size + 1 + 1 + 1 := by omega
  have zz5 : V.heap.size + 1 < V.heap.size + 1 + 1 + 1 := by omega
  have EF := hid (copy_ints (V := V) (A := Af) (c := cf) (xs := b.finds) (by omega) HB.out.finds)
  have ES := hid (copy_slots (V := V) (A := As) (c := cs) (ss := b.slots) (by omega) HB.out.slots)
  clear hwV hB hbW hbV hz hzV r0 r1 r2 hs
  go_enter Try.func26, Try.ntmps26
  go_wp2_with fail
  go_cut [3] (fun s3 wx => ∃ cb vf vs, s3 = .pointer (some ⟨cb, 0, none⟩) ∧ wx.heap[cb]? = some (.cells #[vf, vs, .slice none 0 0] 26 (0, 0)) ∧ V.heap.size ≤ cb ∧
    wx.ownsRow V.heap.size 3 1 vf b.finds.length (ints b.finds) ∧ wx.ownsRow V.heap.size 50 3 vs b.slots.length (slotCells b.slots) ∧ Below V.heap.size V wx)
  case first =>
    go_region_held3 (fun w' => w'.cell? ⟨w.heap.size, 0, none⟩ = some (.slice Af b.finds.length cf) ∧ w'.cell? ⟨w.heap.size, 1, none⟩ = some (.slice As b.slots.length cs) ∧ Below V.heap.size V w')
      (first
        | exact keepV c0 c1 (Below.refl _ _).drew
        | (refine keepV c0 c1 (below_grown' (lastV c0 c1 ?_) gr1 ?_)
           · assumption
           · omega)
        | (refine keepV c0 c1 (below_grown' (lastV c0 c1 ?_) gr2 ?_)
           · assumption
           · (have := HP1.size; omega))
        | (refine keepV c0 c1 (below_alloc' (lastV c0 c1 ?_) _); assumption)
        | exact keepV c0 c1 (below_alloc' ((Below.refl V.heap.size V).drew) _)
        | exact keepV c0 c1 ((below_alloc' (Below.refl V.heap.size V) _).drew)
        | exact keepV c0 c1 ((below_alloc' (below_alloc' (Below.refl V.heap.size V) _) _).drew)
        | exact keepV c0 c1 ((below_alloc' (below_alloc' (below_alloc' (Below.refl V.heap.size V) _) _) _).drew)
        | exact keepV c0 c1 (below_alloc' HP2 _)
        | (refine keepV c0 c1 (below_set3 HP2 ?_)
           have := HP1.size
           omega))
      (first
        | (refine step_app rfl (.tmp 5) (.tmp 7) 22 22 rfl rfl (.slice (some ⟨V.heap.size, 0, none⟩) 0 0) (.slice Af b.finds.length cf) ?hs ?hx _ (EF.out _ (V.heap.size) ?hb ?hg ?hh) ?_
           case hs => simp [Act.eval, Act.put]
           case hx => simp [Act.eval, Act.put]
           case hb => refine lastV c0 c1 ?_; assumption
           case hg => omega
           case hh =>
             try (simp only [alloc_get, drew_heap, alloc_size, ↓reduceIte])
             repeat' split
             all_goals first
               | rfl
               | (exfalso; omega)
           rintro v1 p1 ⟨own1, gr1, hh1, aA1, kk1, rfl⟩
           have hs1 := gr1.size
           simp only [alloc_size, drew_heap] at hs1
           have hb1 := fun (k : Nat) (h1 : k < _) (h2 : k ≠ _) => grown_heap gr1 h1 h2
           have hc1 := fun (x o : Nat) (h1 : x < _) (h2 : x ≠ _) => grown_cell (o := o) gr1 h1 h2
           have hf1 := fun (x o : Nat) (h1 : x < _) (h2 : x ≠ _) => grown_frozen (o := o) gr1 h1 h2
           have hl1 := fun (x : Nat) (h : x < _) => Nat.lt_of_lt_of_le h gr1.size
           have hx1 := fun (x : Nat) (h : x < _) => Nat.ne_of_lt (Nat.lt_of_lt_of_le h gr1.size)
           have hx2 := fun (x : Nat) (h : x < _) => Nat.ne_of_lt (Nat.lt_succ_of_lt (Nat.lt_of_lt_of_le h gr1.size))
           have hy1 := fun (x : Nat) (h : x < _) => (Nat.ne_of_lt (Nat.lt_of_lt_of_le h gr1.size)).symm
           have hy2 := fun (x : Nat) (h : x < _) => (Nat.ne_of_lt (Nat.lt_succ_of_lt (Nat.lt_of_lt_of_le h gr1.size))).symm
           have zp3 : V.heap.size ≤ p1.heap.size := by omega
           have zp4 : V.heap.size < p1.heap.size + 1 := by omega
           have zp5 : V.heap.size < p1.heap.size + 1 + 1 := by omega
           have zp6 : V.heap.size < p1.heap.size := by omega
           have zp7 : V.heap.size + 1 < p1.heap.size + 1 + 1 := by omega
           have zp1 : p1.heap.size < p1.heap.size + 1 + 1 := by omega
           have zp2 : p1.heap.size ≠ p1.heap.size + 1 + 1 := by omega
           have HP1 : Below V.heap.size V p1 := by
             refine below_grown' (lastV c0 c1 ?_) gr1 (by omega)
             assumption)
        | (refine step_app rfl (.tmp 5) (.tmp 7) 22 22 rfl rfl (.slice (some ⟨V.heap.size + 1, 0, none⟩) 0 0) (.slice Af b.finds.length cf) ?hs ?hx _ (EF.out _ (V.heap.size + 1) ?hb ?hg ?hh) ?_
           case hs => simp [Act.eval, Act.put]
           case hx => simp [Act.eval, Act.put]
           case hb => refine lastV c0 c1 ?_; assumption
           case hg => omega
           case hh =>
             try (simp only [alloc_get, drew_heap, alloc_size, ↓reduceIte])
             repeat' split
             all_goals first
               | rfl
               | (exfalso; omega)
           rintro v1 p1 ⟨own1, gr1, hh1, aA1, kk1, rfl⟩
           have hs1 := gr1.size
           simp only [alloc_size, drew_heap] at hs1
           have hb1 := fun (k : Nat) (h1 : k < _) (h2 : k ≠ _) => grown_heap gr1 h1 h2
           have hc1 := fun (x o : Nat) (h1 : x < _) (h2 : x ≠ _) => grown_cell (o := o) gr1 h1 h2
           have hf1 := fun (x o : Nat) (h1 : x < _) (h2 : x ≠ _) => grown_frozen (o := o) gr1 h1 h2
           have hl1 := fun (x : Nat) (h : x < _) => Nat.lt_of_lt_of_le h gr1.size
           have hx1 := fun (x : Nat) (h : x < _) => Nat.ne_of_lt (Nat.lt_of_lt_of_le h gr1.size)
           have hx2 := fun (x : Nat) (h : x < _) => Nat.ne_of_lt (Nat.lt_succ_of_lt (Nat.lt_of_lt_of_le h gr1.size))
           have hy1 := fun (x : Nat) (h : x < _) => (Nat.ne_of_lt (Nat.lt_of_lt_of_le h gr1.size)).symm
           have hy2 := fun (x : Nat) (h : x < _) => (Nat.ne_of_lt (Nat.lt_succ_of_lt (Nat.lt_of_lt_of_le h gr1.size))).symm
           have zp3 : V.heap.size ≤ p1.heap.size := by omega
           have zp4 : V.heap.size < p1.heap.size + 1 := by omega
           have zp5 : V.heap.size < p1.heap.size + 1 + 1 := by omega
           have zp6 : V.heap.size < p1.heap.size := by omega
           have zp7 : V.heap.size + 1 < p1.heap.size + 1 + 1 := by omega
           have zp1 : p1.heap.size < p1.heap.size + 1 + 1 := by omega
           have zp2 : p1.heap.size ≠ p1.heap.size + 1 + 1 := by omega
           have HP1 : Below V.heap.size V p1 := by
             refine below_grown' (lastV c0 c1 ?_) gr1 (by omega)
             assumption)
        | (refine step_app rfl (.tmp 5) (.tmp 7) 22 22 rfl rfl (.slice (some ⟨V.heap.size + 2, 0, none⟩) 0 0) (.slice Af b.finds.length cf) ?hs ?hx _ (EF.out _ (V.heap.size + 2) ?hb ?hg ?hh) ?_
           case hs => simp [Act.eval, Act.put]
           case hx => simp [Act.eval, Act.put]
           case hb => refine lastV c0 c1 ?_; assumption
           case hg => omega
           case hh =>
             try (simp only [alloc_get, drew_heap, alloc_size, ↓reduceIte])
             repeat' split
             all_goals first
               | rfl
               | (exfalso; omega)
           rintro v1 p1 ⟨own1, gr1, hh1, aA1, kk1, rfl⟩
           have hs1 := gr1.size
           simp only [alloc_size, drew_heap] at hs1
           have hb1 := fun (k : Nat) (h1 : k < _) (h2 : k ≠ _) => grown_heap gr1 h1 h2
           have hc1 := fun (x o : Nat) (h1 : x < _) (h2 : x ≠ _) => grown_cell (o := o) gr1 h1 h2
           have hf1 := fun (x o : Nat) (h1 : x < _) (h2 : x ≠ _) => grown_frozen (o := o) gr1 h1 h2
           have hl1 := fun (x : Nat) (h : x < _) => Nat.lt_of_lt_of_le h gr1.size
           have hx1 := fun (x : Nat) (h : x < _) => Nat.ne_of_lt (Nat.lt_of_lt_of_le h gr1.size)
           have hx2 := fun (x : Nat) (h : x < _) => Nat.ne_of_lt (Nat.lt_succ_of_lt (Nat.lt_of_lt_of_le h gr1.size))
           have hy1 := fun (x : Nat) (h : x < _) => (Nat.ne_of_lt (Nat.lt_of_lt_of_le h gr1.size)).symm
           have hy2 := fun (x : Nat) (h : x < _) => (Nat.ne_of_lt (Nat.lt_succ_of_lt (Nat.lt_of_lt_of_le h gr1.size))).symm
           have zp3 : V.heap.size ≤ p1.heap.size := by omega
           have zp4 : V.heap.size < p1.heap.size + 1 := by omega
           have zp5 : V.heap.size < p1.heap.size + 1 + 1 := by omega
           have zp6 : V.heap.size < p1.heap.size := by omega
           have zp7 : V.heap.size + 1 < p1.heap.size + 1 + 1 := by omega
           have zp1 : p1.heap.size < p1.heap.size + 1 + 1 := by omega
           have zp2 : p1.heap.size ≠ p1.heap.size + 1 + 1 := by omega
           have HP1 : Below V.heap.size V p1 := by
             refine below_grown' (lastV c0 c1 ?_) gr1 (by omega)
             assumption)
        | (refine step_app rfl (.tmp 9) (.tmp 11) 23 23 rfl rfl (.slice (some ⟨V.heap.size, 0, none⟩) 0 0) (.slice As b.slots.length cs) ?hs ?hx _ (ES.out _ (V.heap.size) ?hb ?hg ?hh) ?_
           case hs => simp [Act.eval, Act.put]
           case hx => simp [Act.eval, Act.put]
           case hb => refine lastV c0 c1 ?_; assumption
           case hg => have := HP1.size; omega
           case hh =>
             try (simp only [alloc_get, drew_heap, alloc_size, ↓reduceIte])
             repeat' split
             all_goals first
               | rfl
               | (exfalso; omega)
               | (refine (hb1 _ ?_ ?_).trans ?_
                  · (first | omega | (simp only [alloc_size, drew_heap]; omega))
                  · omega
                  · (try (simp only [alloc_get, drew_heap, alloc_size, ↓reduceIte])
                     repeat' split
                     all_goals first
                       | rfl
                       | (exfalso; omega)))
           rintro v2 p2 ⟨own2, gr2, hh2, aA2, kk2, rfl⟩
           have hs2 := gr2.size
           have hb2 := fun (k : Nat) (h1 : k < _) (h2 : k ≠ _) => grown_heap gr2 h1 h2
           have hc2 := fun (x o : Nat) (h1 : x < _) (h2 : x ≠ _) => grown_cell (o := o) gr2 h1 h2
           have hf2 := fun (x o : Nat) (h1 : x < _) (h2 : x ≠ _) => grown_frozen (o := o) gr2 h1 h2
           have HP2 : Below V.heap.size V p2 := by
             refine below_grown' (lastV c0 c1 ?_) gr2 (by have := HP1.size; omega)
             assumption
           have o12 : p2.ownsRow V.heap.size 3 1 (.slice aA1 b.finds.length kk1) b.finds.length (ints b.finds) := by
             refine own_apart ?_ hh2 (by decide) gr2
             first | exact own1 | exact own1.alloc _ | exact (own1.alloc _).alloc _)
        | (refine step_app rfl (.tmp 9) (.tmp 11) 23 23 rfl rfl (.slice (some ⟨V.heap.size + 1, 0, none⟩) 0 0) (.slice As b.slots.length cs) ?hs ?hx _ (ES.out _ (V.heap.size + 1) ?hb ?hg ?hh) ?_
           case hs => simp [Act.eval, Act.put]
           case hx => simp [Act.eval, Act.put]
           case hb => refine lastV c0 c1 ?_; assumption
           case hg => have := HP1.size; omega
           case hh =>
             try (simp only [alloc_get, drew_heap, alloc_size, ↓reduceIte])
             repeat' split
             all_goals first
               | rfl
               | (exfalso; omega)
               | (refine (hb1 _ ?_ ?_).trans ?_
                  · (first | omega | (simp only [alloc_size, drew_heap]; omega))
                  · omega
                  · (try (simp only [alloc_get, drew_heap, alloc_size, ↓reduceIte])
                     repeat' split
                     all_goals first
                       | rfl
                       | (exfalso; omega)))
           rintro v2 p2 ⟨own2, gr2, hh2, aA2, kk2, rfl⟩
           have hs2 := gr2.size
           have hb2 := fun (k : Nat) (h1 : k < _) (h2 : k ≠ _) => grown_heap gr2 h1 h2
           have hc2 := fun (x o : Nat) (h1 : x < _) (h2 : x ≠ _) => grown_cell (o := o) gr2 h1 h2
           have hf2 := fun (x o : Nat) (h1 : x < _) (h2 : x ≠ _) => grown_frozen (o := o) gr2 h1 h2
           have HP2 : Below V.heap.size V p2 := by
             refine below_grown' (lastV c0 c1 ?_) gr2 (by have := HP1.size; omega)
             assumption
           have o12 : p2.ownsRow V.heap.size 3 1 (.slice aA1 b.finds.length kk1) b.finds.length (ints b.finds) := by
             refine own_apart ?_ hh2 (by decide) gr2
             first | exact own1 | exact own1.alloc _ | exact (own1.alloc _).alloc _)
        | (refine step_app rfl (.tmp 9) (.tmp 11) 23 23 rfl rfl (.slice (some ⟨V.heap.size + 2, 0, none⟩) 0 0) (.slice As b.slots.length cs) ?hs ?hx _ (ES.out _ (V.heap.size + 2) ?hb ?hg ?hh) ?_
           case hs => simp [Act.eval, Act.put]
           case hx => simp [Act.eval, Act.put]
           case hb => refine lastV c0 c1 ?_; assumption
           case hg => have := HP1.size; omega
           case hh =>
             try (simp only [alloc_get, drew_heap, alloc_size, ↓reduceIte])
             repeat' split
             all_goals first
               | rfl
               | (exfalso; omega)
               | (refine (hb1 _ ?_ ?_).trans ?_
                  · (first | omega | (simp only [alloc_size, drew_heap]; omega))
                  · omega
                  · (try (simp only [alloc_get, drew_heap, alloc_size, ↓reduceIte])
                     repeat' split
                     all_goals first
                       | rfl
                       | (exfalso; omega)))
           rintro v2 p2 ⟨own2, gr2, hh2, aA2, kk2, rfl⟩
           have hs2 := gr2.size
           have hb2 := fun (k : Nat) (h1 : k < _) (h2 : k ≠ _) => grown_heap gr2 h1 h2
           have hc2 := fun (x o : Nat) (h1 : x < _) (h2 : x ≠ _) => grown_cell (o := o) gr2 h1 h2
           have hf2 := fun (x o : Nat) (h1 : x < _) (h2 : x ≠ _) => grown_frozen (o := o) gr2 h1 h2
           have HP2 : Below V.heap.size V p2 := by
             refine below_grown' (lastV c0 c1 ?_) gr2 (by have := HP1.size; omega)
             assumption
           have o12 : p2.ownsRow V.heap.size 3 1 (.slice aA1 b.finds.length kk1) b.finds.length (ints b.finds) := by
             refine own_apart ?_ hh2 (by decide) gr2
             first | exact own1 | exact own1.alloc _ | exact (own1.alloc _).alloc _)
        | (refine step_app rfl (.tmp 9) (.tmp 11) 23 23 rfl rfl (.slice (some ⟨p1.heap.size, 0, none⟩) 0 0) (.slice As b.slots.length cs) ?hs ?hx _ (ES.out _ (p1.heap.size) ?hb ?hg ?hh) ?_
           case hs => simp [Act.eval, Act.put]
           case hx => simp [Act.eval, Act.put]
           case hb => refine lastV c0 c1 ?_; assumption
           case hg => have := HP1.size; omega
           case hh =>
             try (simp only [alloc_get, drew_heap, alloc_size, ↓reduceIte])
             repeat' split
             all_goals first
               | rfl
               | (exfalso; omega)
               | (refine (hb1 _ ?_ ?_).trans ?_
                  · (first | omega | (simp only [alloc_size, drew_heap]; omega))
                  · omega
                  · (try (simp only [alloc_get, drew_heap, alloc_size, ↓reduceIte])
                     repeat' split
                     all_goals first
                       | rfl
                       | (exfalso; omega)))
           rintro v2 p2 ⟨own2, gr2, hh2, aA2, kk2, rfl⟩
           have hs2 := gr2.size
           have hb2 := fun (k : Nat) (h1 : k < _) (h2 : k ≠ _) => grown_heap gr2 h1 h2
           have hc2 := fun (x o : Nat) (h1 : x < _) (h2 : x ≠ _) => grown_cell (o := o) gr2 h1 h2
           have hf2 := fun (x o : Nat) (h1 : x < _) (h2 : x ≠ _) => grown_frozen (o := o) gr2 h1 h2
           have HP2 : Below V.heap.size V p2 := by
             refine below_grown' (lastV c0 c1 ?_) gr2 (by have := HP1.size; omega)
             assumption
           have o12 : p2.ownsRow V.heap.size 3 1 (.slice aA1 b.finds.length kk1) b.finds.length (ints b.finds) := by
             refine own_apart ?_ hh2 (by decide) gr2
             first | exact own1 | exact own1.alloc _ | exact (own1.alloc _).alloc _)
        | (refine step_app rfl (.tmp 9) (.tmp 11) 23 23 rfl rfl (.slice (some ⟨p1.heap.size + 1, 0, none⟩) 0 0) (.slice As b.slots.length cs) ?hs ?hx _ (ES.out _ (p1.heap.size + 1) ?hb ?hg ?hh) ?_
           case hs => simp [Act.eval, Act.put]
           case hx => simp [Act.eval, Act.put]
           case hb => refine lastV c0 c1 ?_; assumption
           case hg => have := HP1.size; omega
           case hh =>
             try (simp only [alloc_get, drew_heap, alloc_size, ↓reduceIte])
             repeat' split
             all_goals first
               | rfl
               | (exfalso; omega)
               | (refine (hb1 _ ?_ ?_).trans ?_
                  · (first | omega | (simp only [alloc_size, drew_heap]; omega))
                  · omega
                  · (try (simp only [alloc_get, drew_heap, alloc_size, ↓reduceIte])
                     repeat' split
                     all_goals first
                       | rfl
                       | (exfalso; omega)))
           rintro v2 p2 ⟨own2, gr2, hh2, aA2, kk2, rfl⟩
           have hs2 := gr2.size
           have hb2 := fun (k : Nat) (h1 : k < _) (h2 : k ≠ _) => grown_heap gr2 h1 h2
           have hc2 := fun (x o : Nat) (h1 : x < _) (h2 : x ≠ _) => grown_cell (o := o) gr2 h1 h2
           have hf2 := fun (x o : Nat) (h1 : x < _) (h2 : x ≠ _) => grown_frozen (o := o) gr2 h1 h2
           have HP2 : Below V.heap.size V p2 := by
             refine below_grown' (lastV c0 c1 ?_) gr2 (by have := HP1.size; omega)
             assumption
           have o12 : p2.ownsRow V.heap.size 3 1 (.slice aA1 b.finds.length kk1) b.finds.length (ints b.finds) := by
             refine own_apart ?_ hh2 (by decide) gr2
             first | exact own1 | exact own1.alloc _ | exact (own1.alloc _).alloc _))
    all_goals
      go_wp2_with fail
      go_meet
      first
        | exact ⟨p2.heap.size, _, _, rfl, fin_alloc o12 own2 HP2⟩
        | (refine ⟨_, _, _, rfl, fin_set ?_ ?_ o12 own2 HP2 _ rfl⟩
           · (try (simp only [alloc_get, drew_heap, alloc_size, ↓reduceIte])
              repeat' split
              all_goals first
                | rfl
                | (exfalso; omega)
                | (refine (hb2 _ ?_ ?_).trans ?_
                   · (first | omega | (simp only [alloc_size, drew_heap]; omega))
                   · omega
                   · (try (simp only [alloc_get, drew_heap, alloc_size, ↓reduceIte])
                      repeat' split
                      all_goals first
                        | rfl
                        | (exfalso; omega)
                        | (refine (hb1 _ ?_ ?_).trans ?_
                           · (first | omega | (simp only [alloc_size, drew_heap]; omega))
                           · omega
                           · (try (simp only [alloc_get, drew_heap, alloc_size, ↓reduceIte])
                              repeat' split
                              all_goals first
                                | rfl
                                | (exfalso; omega))))))
           · (have := HP1.size; omega))
  case rest =>
    obtain ⟨cb, vf, vs, rfl, hcb, hlo, oF, oS, hbc⟩ := hcut
    obtain ⟨aF, kF, rfl, _⟩ := ownsRow.form oF
    obtain ⟨aS, kS, rfl, _⟩ := ownsRow.form oS
    have HC2 := hid c2
    have x2 := (Kept.of_below hbc) _ _ c2
    have hclt : cb < wc.heap.size := (Array.getElem?_eq_some_iff.1 hcb).1
    have HCB := hid hcb
    have HOF := hid oF
    have HOS := hid oS
    have HBC := hid hbc
    have HLO := hid hlo
    obtain ⟨i, i1, i2, i3, i4⟩ := fitsl_info
    clear hW hV c0 c1 c2 hcb oF oS hbc
    go_wp2_with fail
    clear x2
    go_loopg [4] (b.fits.length) (fun g i wr => ∃ (k : Nat) (v : Value) (us : List Value), k ≤ b.fits.length ∧ g = b.fits.length - k ∧ i = .int .i64 k ∧ Hid (wr.heap[cb]? = some (.cells #[.slice aF b.finds.length kF, .slice aS b.slots.length kS, v] 26 (0, 0))) ∧
      Hid (wr.ownsRow wc.heap.size 22 1 v k us) ∧ Hid (ListsOwn wr wc.heap.size us (b.fits.take k)) ∧ Hid (Apart us) ∧ Hid (Only [cb] wc wr))
    case atStart => exact ⟨0, _, [], by omega, by omega, rfl, HCB, hid (World.ownsRow_nil _ _ _ _), hid ⟨rfl, fun j hj => by simp at hj⟩, hid Apart.nil, hid (Only.refl _ _)⟩
    case round =>
      obtain ⟨k, v, us, hk, hgk, rfl, hblk, hown, hli, hap, ho⟩ := hrel
      have hbr : Below V.heap.size V wr := HBC.out.trans (ho.out.below (fun x hx => by rw [List.mem_singleton] at hx; have := HLO.out; omega) HBC.out.size)
      by_cases hlt : k < b.fits.length
      · obtain ⟨fb, foff, rfl, hc⟩ := (HB.out.fits.kept (Kept.of_below hbr)) (by omega)
        obtain ⟨Aj, cj, f1, f2⟩ := hc k hlt
        obtain ⟨L, hL⟩ : ∃ L, b.fits[k] = L := ⟨_, rfl⟩
        rw [hL] at f1 f2
        have F2 := hid f2
        have HL := hid hL
        have hlen : L.length ≤ 60 := by rw [← hL]; exact N4.out _ (List.getElem_mem _)
        have y3 : wr.cell? ⟨cb, 2, none⟩ = some v := by simp [World.cell?, hblk.out]
        have y3f : wr.frozen? ⟨cb, 2, none⟩ = false := by simp [World.frozen?, hblk.out]
        have htr : cb < wr.heap.size := Nat.lt_of_lt_of_le hclt ho.out.size
        have lwc : wc.heap.size ≤ wr.heap.size := ho.out.size
        have ERW : Hid (∃ v' w', (Builtin.append_ #[22, 22] 22 #[.slice (some ⟨wr.heap.size, 0, none⟩) 0 0, .slice Aj L.length cj]).run Try.prog (wr.alloc (.cells #[] 3)).drew = .ok v' w' ∧ (w'.ownsRow wr.drew.heap.size 3 1 v' L.length (ints L) ∧ Below wr.drew.heap.size wr.drew w')) := hid (copy_row wr Aj cj L (by omega) F2.out)
        have x2' := (Kept.of_below hbr) _ _ HC2.out
        have kal := Kept.of_below ((Below.refl wr.heap.size wr).alloc (Nat.le_refl _) (.cells #[] 3))
        have x3' := kal _ _ x2'
        have f1' := kal _ _ f1
        have y3' := kal _ _ y3
        have j0 : (0 : Int) ≤ k := by omega
        have j1 : (k : Int) < b.fits.length := by omega
        clear hc f2 hL hbr kal
        go_wp2_with fail
        go_region_law (first
            | (refine step_append_lies _ rfl (.tmp 22) (.tmp 30) 24 rfl wc.heap.size 22 i (.slice none 0 0) 1 24 fitsl_u i1 i2 i3 i4 rfl (by decide) v k us ?hs (own_below hown3.out ((Below.refl _ _).alloc (Nat.le_refl _) _)) ⟨w2.heap.size, 0, none⟩ 1 1 [.slice A2 L.length c2] ?hx rfl (cell_one_new _ _ _) (by simp [Value.oneCell']) (by decide) ?h63 ?hbytes ?hbase _ rfl ?_
               case hs => simp [Act.eval, Act.put]
               case hx => simp [Act.eval, Act.put]
               case h63 => unfold maxLen; omega
               case hbytes => omega
               case hbase => simp; omega
               intro g cap w3 hown1 hgrow1 hat hlt1
               have hb1 := hid ((hgrow1.block cb (by simp; omega) (fun e => by have := (hown3.out.lt cb e.symm).1; omega)).trans HB2.out)
               have s1 : w3.cell? ⟨cb, 2, none⟩ = some v := by simp [World.cell?, hb1.out]
               have s2 : w3.frozen? ⟨cb, 2, none⟩ = false := by simp [World.frozen?, hb1.out])
            | (refine step_app rfl (.tmp 23) (.tmp 28) 22 22 rfl rfl (.slice (some ⟨wr.heap.size, 0, none⟩) 0 0) (.slice Aj L.length cj) ?hs ?hx _ ERW.out ?_
               case hs => simp [Act.eval, Act.put]
               case hx => simp [Act.eval, Act.put]
               rintro v2 w2 ⟨hown2, hbel⟩
               obtain ⟨A2, c2, rfl, _⟩ := ownsRow.form hown2
               have y4 := (hbel.cell (p := ⟨cb, 2, none⟩) htr).trans y3
               have y4f := (hbel.frozen (p := ⟨cb, 2, none⟩) htr).trans y3f
               have htr2 : cb < w2.heap.size := Nat.lt_of_lt_of_le htr hbel.size
               have hown3 := hid (own_below (w := wr.drew) hown.out hbel)
               have HB2 : Hid ((w2.alloc (.cells #[.slice A2 L.length c2] 22)).heap[cb]? = some (.cells #[.slice aF b.finds.length kF, .slice aS b.slots.length kS, v] 26 (0, 0))) := hid ((Below.heap_alloc _ _ _ htr2).trans ((hbel.block cb htr).trans hblk.out))
               have lw2 : wc.heap.size ≤ w2.heap.size := Nat.le_trans lwc hbel.size))
        all_goals
          go_wp2_with fail
          go_roundg (b.fits.length - (k + 1))
          case measure => omega
          case rel =>
            obtain ⟨r1, r2, r3, r4⟩ := other_round hlt HL.out hown.out hli.out hap.out ho.out hown2 hbel hown1 hgrow1 hb1.out
            exact ⟨k + 1, _, _, by omega, rfl, by go_num, hid (block_set hb1.out), hid r1, hid r2, hid r3, hid r4⟩
      · obtain rfl : k = b.fits.length := by omega
        have hrb : wr.heap[W.heap.size]? = some (.cells #[.slice none 0 0, .slice none 0 0, .slice none 0 0] 26 (0, 0)) := (hbr.block W.heap.size HZ.out.1).trans HRB.out
        obtain ⟨aT, kT, rfl, _⟩ := ownsRow.form hown.out
        have z0 : wr.cell? ⟨W.heap.size, 0, none⟩ = some (.slice none 0 0) := by simp [World.cell?, hrb]
        have z1 : wr.cell? ⟨W.heap.size, 1, none⟩ = some (.slice none 0 0) := by simp [World.cell?, hrb]
        have z2 : wr.cell? ⟨W.heap.size, 2, none⟩ = some (.slice none 0 0) := by simp [World.cell?, hrb]
        have z3 : ∀ o, wr.frozen? ⟨W.heap.size, o, none⟩ = false := fun o => by simp [World.frozen?, hrb]
        have y0 : wr.cell? ⟨cb, 0, none⟩ = some (.slice aF b.finds.length kF) := by simp [World.cell?, hblk.out]
        have y1 : wr.cell? ⟨cb, 1, none⟩ = some (.slice aS b.slots.length kS) := by simp [World.cell?, hblk.out]
        have y2 : wr.cell? ⟨cb, 2, none⟩ = some (.slice aT b.fits.length kT) := by simp [World.cell?, hblk.out]
        have x2' := (Kept.of_below hbr) _ _ HC2.out
        have HRB2 := hid hrb
        have HBR := hid hbr
        clear hrb hbr hlt hgk hk
        go_wp2_with fail
        have hu3 := set3 (a := .slice aF b.finds.length kF) (b := .slice aS b.slots.length kS) (c := .slice aT b.fits.length kT) HRB2.out
        refine bodyPost_ret (ret_board rfl rfl hu3) rfl ?_
        have hwc := HBC.out.size
        have hwV := HWV.out.size
        have l0 : w.heap.size ≤ wc.heap.size := Nat.le_trans hwV hwc
        have e1 := own_set3 (a := .slice aF b.finds.length kF) (b := .slice aS b.slots.length kS) (c := .slice aT b.fits.length kT) (own_only HOF.out ho.out HCB.out (by decide)) HRB2.out (by decide)
        have e2 := own_set3 (a := .slice aF b.finds.length kF) (b := .slice aS b.slots.length kS) (c := .slice aT b.fits.length kT) (own_only HOS.out ho.out HCB.out (by decide)) HRB2.out (by decide)
        have e3 := own_set3 (a := .slice aF b.finds.length kF) (b := .slice aS b.slots.length kS) (c := .slice aT b.fits.length kT) hown.out HRB2.out (by decide)
        have hl := hli.out
        rw [List.take_length] at hl
        have e4 := hl.set3 (a := .slice aF b.finds.length kF) (b := .slice aS b.slots.length kS) (c := .slice aT b.fits.length kT) HRB2.out (by decide)
        refine ⟨_, _, _, rfl, ⟨own_lo e1 hwV, own_lo e2 hwV, us, own_lo e3 l0, e4.lo l0, hap.out, fun u hu g hg hu2 => ?_⟩, below_set3 (HWV.out.trans (HBR.out.mono hwV)) HZ2.out⟩
        have := (own_blocks hl u hu g hu2).1
        have := (HOF.out.lt g hg).2
        omega
end Go.Proofs.Ytpmdjbjnihhjeaa
