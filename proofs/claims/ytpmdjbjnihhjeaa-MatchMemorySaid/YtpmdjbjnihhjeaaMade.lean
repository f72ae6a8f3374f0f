/- A board in new memory: other (the program). -/
import Derived.Test.YtpmdjbjnihhjeaaEvery
import Derived.Test.YtpmdjbjnihhjeaaAssign
import Derived.Deep.AppendLies
import Derived.Deep.RegionLaw
import Derived.BigCall
namespace Go.Proofs.Ytpmdjbjnihhjeaa
open Go.RowKit

/-- Rows of which each lies in a block of its own. -/
def Apart (us : List Value) : Prop := ∀ (i j : Nat) (u v : Value) (g : Nat), i ≠ j → us[i]? = some u → us[j]? = some v → u.ownBlock = some g → v.ownBlock ≠ some g
theorem Apart.nil : Apart [] := by intro i j u v g _ h; simp at h
theorem Apart.snoc {us : List Value} {v : Value} {B : Nat} (h : Apart us) (hu : ∀ u ∈ us, ∀ g, u.ownBlock = some g → g < B) (hv : ∀ g, v.ownBlock = some g → B ≤ g) : Apart (us ++ [v]) := by
  intro i j u x g hij hi hj hg
  rcases Nat.lt_or_ge i us.length with a | a
  · rw [List.getElem?_append_left a] at hi
    rcases Nat.lt_or_ge j us.length with c | c
    · rw [List.getElem?_append_left c] at hj
      exact h i j u x g hij hi hj hg
    · rw [List.getElem?_append_right c] at hj
      have h0 : j - us.length = 0 := by have := (List.getElem?_eq_some_iff.1 hj).1; simpa using this
      rw [h0] at hj
      simp at hj
      subst hj
      intro e
      have := hu u (List.mem_of_getElem? hi) g hg
      have := hv g e
      omega
  · rw [List.getElem?_append_right a] at hi
    have h0 : i - us.length = 0 := by have := (List.getElem?_eq_some_iff.1 hi).1; simpa using this
    rw [h0] at hi
    simp at hi
    subst hi
    rcases Nat.lt_or_ge j us.length with c | c
    · rw [List.getElem?_append_left c] at hj
      intro e
      have := hu x (List.mem_of_getElem? hj) g e
      have := hv g hg
      omega
    · rw [List.getElem?_append_right c] at hj
      have h1 : j - us.length = 0 := by have := (List.getElem?_eq_some_iff.1 hj).1; simpa using this
      omega

/-- A board that a call has made: all its rows lie in blocks from n₀ on, each in a block of its own. -/
structure MadeAt (n₀ : Nat) (w : World) (vf vs vt : Value) (b : Board) : Prop where
  finds : w.ownsRow n₀ 3 1 vf b.finds.length (ints b.finds)
  slots : w.ownsRow n₀ 50 3 vs b.slots.length (slotCells b.slots)
  fits : ∃ us, w.ownsRow n₀ 22 1 vt b.fits.length us ∧ ListsOwn w n₀ us b.fits ∧ Apart us ∧ ∀ u ∈ us, ∀ g, vf.ownBlock = some g → u.ownBlock ≠ some g
theorem MadeAt.below {n₀ : Nat} {w w' : World} {vf vs vt : Value} {b : Board} (h : MadeAt n₀ w vf vs vt b) (hb : Below w.heap.size w w') : MadeAt n₀ w' vf vs vt b := by
  obtain ⟨us, h1, h2, h3, h4⟩ := h.fits
  exact ⟨own_below h.finds hb, own_below h.slots hb, us, own_below h1 hb, h2.below hb, h3, h4⟩
theorem MadeAt.boardAt {n₀ : Nat} {w : World} {vf vs vt : Value} {b : Board} (h : MadeAt n₀ w vf vs vt b) : ∃ Af cf As cs At ct, vf = .slice Af b.finds.length cf ∧ vs = .slice As b.slots.length cs ∧ vt = .slice At b.fits.length ct ∧ BoardAt w Af As At b := by
  obtain ⟨us, h1, h2, h3, h4⟩ := h.fits
  obtain ⟨Af, cf, rfl, hF⟩ := ownsRow.ints h.finds
  obtain ⟨As, cs, rfl, hS, _⟩ := ownsRow.form h.slots
  obtain ⟨At, ct, rfl, _⟩ := ownsRow.form h1
  exact ⟨Af, cf, As, cs, At, ct, rfl, rfl, rfl, hF, hS.slots, h2.fits h1⟩
theorem own_blocks {w : World} {n₀ : Nat} {us : List Value} {ls : List (List Int)} (h : ListsOwn w n₀ us ls) : ∀ u ∈ us, ∀ g, u.ownBlock = some g → n₀ ≤ g ∧ g < w.heap.size := fun u hu g hg => by
  obtain ⟨j, hj⟩ := List.getElem?_of_mem hu
  have hlt := (List.getElem?_eq_some_iff.1 hj).1
  obtain ⟨v, h1, h2⟩ := h.2 j (by rw [← h.1]; exact hlt)
  rw [h1] at hj
  cases hj
  exact h2.lt g hg

/-- A call returns a board in new memory. -/
def MadePost (b : Board) (w : World) (e : Ending) (w' : World) : Prop :=
  ∃ vf vs vt, e = .returned (.agg #[vf, vs, vt]) ∧ MadeAt w.heap.size w' vf vs vt b ∧ Below w.heap.size w w'

theorem grown_set (w : World) (cb o : Nat) (u : Value) : w.grownBy (w.setCell ⟨cb, o, none⟩ u) (some cb) :=
  ⟨rfl, rfl, rfl, by simp, fun k _ hk => by
    simp only [World.setCell, Array.getElem?_modify]
    rw [if_neg (fun e => hk (by rw [e]))]⟩
theorem own_apart {w w' : World} {base size n cb : Nat} {e e' : TypeId} {v : Value} {xs : List Value} {cs : Array Value} (h : w.ownsRow base e size v n xs) (hc : w.heap[cb]? = some (.cells cs e' (0, 0))) (hne : e ≠ e') (hg : w.grownBy w' (some cb)) : w'.ownsRow base e size v n xs := by
  refine h.kept hg ?_
  rcases h.2 with ⟨rfl, _⟩ | ⟨g, cap, cur, rfl, _, h1, _⟩
  · exact .inl rfl
  · right
    intro k
    have k : g = cb := by simpa [Value.ownBlock] using k
    subst k
    rw [h1] at hc
    simp at hc
    exact hne hc.2
theorem own_set {w : World} {base size n cb o : Nat} {e e' : TypeId} {v u : Value} {xs : List Value} {cs : Array Value} (h : w.ownsRow base e size v n xs) (hc : w.heap[cb]? = some (.cells cs e' (0, 0))) (hne : e ≠ e') : (w.setCell ⟨cb, o, none⟩ u).ownsRow base e size v n xs :=
  own_apart h hc hne (grown_set w cb o u)
theorem own_only {w w' : World} {base size n cb : Nat} {e e' : TypeId} {v : Value} {xs : List Value} {cs : Array Value} (h : w.ownsRow base e size v n xs) (ho : Only [cb] w w') (hc : w.heap[cb]? = some (.cells cs e' (0, 0))) (hne : e ≠ e') : w'.ownsRow base e size v n xs :=
  own_apart h hc hne ⟨ho.os, ho.tape, ho.output, ho.size, fun k hk hx => ho.block k hk (fun e => hx (by rw [List.mem_singleton] at e; rw [e]))⟩
theorem ListsOwn.set {w : World} {base cb o : Nat} {e' : TypeId} {u : Value} {us : List Value} {ls : List (List Int)} {cs : Array Value} (h : ListsOwn w base us ls) (hc : w.heap[cb]? = some (.cells cs e' (0, 0))) (hne : 3 ≠ e') : ListsOwn (w.setCell ⟨cb, o, none⟩ u) base us ls :=
  ⟨h.1, fun j hj => by
    obtain ⟨v, h1, h2⟩ := h.2 j hj
    exact ⟨v, h1, own_set h2 hc hne⟩⟩
theorem ListsOwn.set3 {w : World} {base cb : Nat} {e' : TypeId} {a b c : Value} {us : List Value} {ls : List (List Int)} {cs : Array Value} (h : ListsOwn w base us ls) (hc : w.heap[cb]? = some (.cells cs e' (0, 0))) (hne : 3 ≠ e') :
    ListsOwn (((w.setCell ⟨cb, 0, none⟩ a).setCell ⟨cb, 1, none⟩ b).setCell ⟨cb, 2, none⟩ c) base us ls :=
  ((h.set hc hne).set (block_set hc) hne).set (block_set (block_set hc)) hne
theorem own_set3 {w : World} {base size n cb : Nat} {e e' : TypeId} {v a b c : Value} {xs : List Value} {cs : Array Value} (h : w.ownsRow base e size v n xs) (hc : w.heap[cb]? = some (.cells cs e' (0, 0))) (hne : e ≠ e') :
    (((w.setCell ⟨cb, 0, none⟩ a).setCell ⟨cb, 1, none⟩ b).setCell ⟨cb, 2, none⟩ c).ownsRow base e size v n xs :=
  own_set (own_set (own_set h hc hne) (block_set hc) hne) (block_set (block_set hc)) hne
theorem set3 {w : World} {cb : Nat} {e' : TypeId} {a b c x y z : Value} (hc : w.heap[cb]? = some (.cells #[x, y, z] e' (0, 0))) :
    (((w.setCell ⟨cb, 0, none⟩ a).setCell ⟨cb, 1, none⟩ b).setCell ⟨cb, 2, none⟩ c).heap[cb]? = some (.cells #[a, b, c] e' (0, 0)) :=
  block_set (block_set (block_set hc))
theorem below_set3 {B : Nat} {a w : World} {cb : Nat} {x y z : Value} (h : Below B a w) (hc : B ≤ cb) : Below B a (((w.setCell ⟨cb, 0, none⟩ x).setCell ⟨cb, 1, none⟩ y).setCell ⟨cb, 2, none⟩ z) :=
  ((h.setCell (p := ⟨cb, 0, none⟩) hc _).setCell (p := ⟨cb, 1, none⟩) hc _).setCell (p := ⟨cb, 2, none⟩) hc _
theorem board_i : (Try.prog.info? 26).map (·.size) = some 3 := by kernel_rfl
theorem ret_board {fn : Func} {p : Tmp} {tmps : Array Value} {w : World} {g : Nat} {a b c : Value} (h : fn.results = #[.cell p 26]) (hp : tmps.getD p undef = .pointer (some ⟨g, 0, none⟩)) (hg : w.heap[g]? = some (.cells #[a, b, c] 26 (0, 0))) :
    (results fn tmps).run Try.prog w = .ok (.agg #[a, b, c]) w := by
  exact results_cell_row h tmps w g 26 _ (0, 0) _ hp hg Try.underlying26 rfl board_i
theorem ret_board2 {fn : Func} {p u : Tmp} {tmps : Array Value} {w : World} {g : Nat} {a b c x : Value} (h : fn.results = #[.cell p 26, .tmp u]) (hp : tmps.getD p undef = .pointer (some ⟨g, 0, none⟩)) (hx : tmps.getD u undef = x) (hg : w.heap[g]? = some (.cells #[a, b, c] 26 (0, 0))) :
    (results fn tmps).run Try.prog w = .ok (.tuple #[.agg #[a, b, c], x]) w := by
  rw [results_cell_tmp h, hp, hx]
  have := run_loadVar_row (P := Try.prog) w g 26 26 #[a, b, c] (0, 0) _ hg Try.underlying26 rfl board_i
  simp [asAddr, this, Result.andThen]
theorem below2 {a b c d : World} (h : Below a.heap.size a b) (k : Below b.heap.size b c) (l : Below c.heap.size c d) : Below a.heap.size a d :=
  (h.trans (k.mono h.size)).trans (l.mono (h.trans (k.mono h.size)).size)

theorem made_mid {V w1 w2 : World} {vf vs : Value} {n m : Nat} {us ss : List Value} (hF : Below V.heap.size V w1) (oF : w1.ownsRow V.heap.size 3 1 vf n us)
    (hS : Below (w1.heap.size + 1) (w1.alloc (.cells #[.slice none 0 0, .slice none 0 0, .slice none 0 0] 26)) w2) (oS : w2.ownsRow (w1.heap.size + 1) 50 3 vs m ss) (W3 : World) (hW : W3 = ((w2.setCell ⟨w1.heap.size, 0, none⟩ vf).setCell ⟨w1.heap.size, 1, none⟩ vs).setCell ⟨w1.heap.size, 2, none⟩ (.slice none 0 0)) :
    W3.heap[w1.heap.size]? = some (.cells #[vf, vs, .slice none 0 0] 26 (0, 0)) ∧ V.heap.size ≤ w1.heap.size ∧ W3.ownsRow V.heap.size 3 1 vf n us ∧ W3.ownsRow V.heap.size 50 3 vs m ss ∧ Below V.heap.size V W3 := by
  subst hW
  have hal := (Below.refl w1.heap.size w1).alloc (Nat.le_refl _) (.cells #[.slice none 0 0, .slice none 0 0, .slice none 0 0] 26)
  have hS' : Below (w1.alloc (.cells #[.slice none 0 0, .slice none 0 0, .slice none 0 0] 26)).heap.size (w1.alloc (.cells #[.slice none 0 0, .slice none 0 0, .slice none 0 0] 26)) w2 := by simpa using hS
  have hh := (hS'.block w1.heap.size (by simp)).trans (heap_alloc_new w1 _)
  have hba := hF.alloc hF.size (.cells #[.slice none 0 0, .slice none 0 0, .slice none 0 0] 26)
  exact ⟨set3 hh, hF.size, own_set3 (own_below (own_below oF hal) hS') hh (by decide), own_set3 (own_lo oS (by have := hF.size; omega)) hh (by decide), below_set3 (hba.trans (hS'.mono hba.size)) hF.size⟩

theorem take_snoc {α : Type} {l : List α} {k : Nat} {x : α} (h : k < l.length) (hx : l[k] = x) : l.take k ++ [x] = l.take (k + 1) := by
  rw [List.take_succ_eq_append_getElem h, hx]
/-- One round of the copying of the fits. -/
theorem other_round {b : Board} {wc wr w2 w3 : World} {cb k c2 g cap : Nat} {A2 : Option Addr} {v : Value} {us : List Value} {L : List Int} {vf vs : Value} (hlt : k < b.fits.length) (hL : b.fits[k] = L)
    (hown : wr.ownsRow wc.heap.size 22 1 v k us) (hli : ListsOwn wr wc.heap.size us (b.fits.take k)) (hap : Apart us) (ho : Only [cb] wc wr)
    (hown2 : w2.ownsRow wr.drew.heap.size 3 1 (.slice A2 L.length c2) L.length (ints L)) (hbel : Below wr.drew.heap.size wr.drew w2)
    (hown1 : w3.ownsRow wc.heap.size 22 1 (.slice (some ⟨g, 0, none⟩) (k + 1) cap) (k + 1) (us ++ [.slice A2 L.length c2])) (hgrow1 : (w2.alloc (.cells #[.slice A2 L.length c2] 22)).grownBy w3 v.ownBlock)
    (hb1 : w3.heap[cb]? = some (.cells #[vf, vs, v] 26 (0, 0))) :
    (w3.setCell ⟨cb, 2, none⟩ (.slice (some ⟨g, 0, none⟩) (k + 1) cap)).ownsRow wc.heap.size 22 1 (.slice (some ⟨g, 0, none⟩) (k + 1) cap) (k + 1) (us ++ [.slice A2 L.length c2]) ∧
    ListsOwn (w3.setCell ⟨cb, 2, none⟩ (.slice (some ⟨g, 0, none⟩) (k + 1) cap)) wc.heap.size (us ++ [.slice A2 L.length c2]) (b.fits.take (k + 1)) ∧ Apart (us ++ [.slice A2 L.length c2]) ∧
    Only [cb] wc (w3.setCell ⟨cb, 2, none⟩ (.slice (some ⟨g, 0, none⟩) (k + 1) cap)) := by
  have hal := (Below.refl w2.heap.size w2).alloc (Nat.le_refl _) (.cells #[.slice A2 L.length c2] 22)
  have o2 : w2.ownsRow wc.heap.size 22 1 v k us := own_below (w := wr.drew) hown hbel
  have l2 : ListsOwn w2 wc.heap.size (us ++ [.slice A2 L.length c2]) (b.fits.take (k + 1)) := by
    rw [← take_snoc hlt hL]
    exact ((show ListsOwn wr.drew wc.heap.size us (b.fits.take k) from hli).below hbel).snoc (own_lo hown2 ho.size)
  have o3 := own_below o2 hal
  refine ⟨own_set hown1 hb1 (by decide), ((l2.below hal).grown hgrow1 o3).set hb1 (by decide), hap.snoc (B := wr.heap.size) (fun u hu g hg => (own_blocks hli u hu g hg).2) (fun g hg => (hown2.lt g hg).1), Only.setCell ?_ (by simp) _⟩
  refine Only.thenB (((ho.then (Below.refl _ _).drew).then hbel).alloc _) (Below.of_grown hgrow1 ?_ (fun x e => (o3.lt x e).1))
  exact Nat.le_trans ho.size (Nat.le_trans hbel.size hal.size)
/-- A call of a Go function, as a step of a region that draws its order. -/
theorem step_call {P : Program} {ops : Array Oper} {o : Oper} {a : Act} {w : World} {K : Act → World → Prop} {Q : Exit → Act → World → Prop} {E : Prop}
    (hg : o.guard = none) (xs : Array Operand) (f : FuncId) (ats : Array TypeId) (hop : o.op = Op.call { callee := Callee.value (Operand.func f), args := xs, argTypes := ats })
    (hcf : ∀ v w, (callFunc f v).run P w = .ok (.enter f v) w) (v : Array Value) (hv : xs.map a.eval = v) (R : Value → World → Prop)
    (hc : Calls P f v w fun e w' => ∃ u, e = .returned u ∧ R u w') (hK : ∀ u w', R u w' → K (a.put o.dst u) w') :
    if Region.wanted o (yielded ops a.tmps) = true then Oper.wp P o a w K Q else E := by
  have hw : Region.wanted o (yielded ops a.tmps) = true := by simp [Region.wanted, hg]
  rw [if_pos hw]
  unfold Oper.wp
  have hr : (execOp a.eval o).run P w = .ok (.enter f v) w := by
    obtain ⟨dst, op, type, pos, after, guard⟩ := o
    dsimp only at hop
    subst hop
    rw [execOp_call_go, hv]
    simp [hcf]
  rw [hr, Oper.upon_enter]
  refine hc.mono ?_
  rintro e w' ⟨u, rfl, h⟩
  exact hK u w' h
theorem call88 (v : Array Value) (w : World) : (callFunc 88 v).run Try.prog w = .ok (.enter 88 v) w := by
  have h := Try.func88
  unfold callFunc
  simp [h, Try.f88]
theorem IntsAt.drew1 {w : World} {A : Option Addr} {xs : List Int} (h : IntsAt w A xs) : IntsAt w.drew A xs := h.kept (Kept.of_below (Below.refl w.heap.size w).drew)

set_option maxRecDepth 100000 in
set_option maxHeartbeats 8000000 in
theorem other_any (b : Board) (Af As At : Option Addr) (cf cs ct : Nat) (w : World) (hs : b.small) (hB : BoardAt w Af As At b) :
    Calls Try.prog 76 #[.agg #[.slice Af b.finds.length cf, .slice As b.slots.length cs, .slice At b.fits.length ct]] w (MadePost b w) := by
  have n1 := hs.1
  have n2 := hs.2.1
  have n3 := hs.2.2.1
  have N4 := hid hs.2.2.2
  obtain ⟨W, hW, c0, c1, c2, hbW, hz⟩ := box3 w (.slice Af b.finds.length cf) (.slice As b.slots.length cs) (.slice At b.fits.length ct) 26
  obtain ⟨V, hV, r0, r1, r2, hbV, hzV⟩ := box3 W (.slice none 0 0) (.slice none 0 0) (.slice none 0 0) 26
  have hwV : Below w.heap.size w V := hbW.trans (hbV.mono hbW.size)
  have HB := hid (hB.kept (Kept.of_below hwV))
  have HWV := hid hwV
  have c0 := (Kept.of_below hbV) _ _ c0
  have c1 := (Kept.of_below hbV) _ _ c1
  have c2 := (Kept.of_below hbV) _ _ c2
  have HRB : Hid (V.heap[W.heap.size]? = some (.cells #[.slice none 0 0, .slice none 0 0, .slice none 0 0] 26 (0, 0))) := hid (by rw [← hV]; exact heap_alloc_new _ _)
  have HZ2 : Hid (w.heap.size ≤ W.heap.size) := hid (by omega)
  have HZ : Hid (W.heap.size < V.heap.size ∧ w.heap.size < V.heap.size) := hid (by omega)
  clear hwV hB hbW hbV hz hzV r0 r1 r2 hs
  go_enter Try.func76, Try.ntmps76
  go_wp2_with fail
  go_cut [3] (fun s3 wx => ∃ cb vf vs, s3 = .pointer (some ⟨cb, 0, none⟩) ∧ wx.heap[cb]? = some (.cells #[vf, vs, .slice none 0 0] 26 (0, 0)) ∧ V.heap.size ≤ cb ∧
    wx.ownsRow V.heap.size 3 1 vf b.finds.length (ints b.finds) ∧ wx.ownsRow V.heap.size 50 3 vs b.slots.length (slotCells b.slots) ∧ Below V.heap.size V wx)
  case first =>
    go_region_held3 (fun w' => w'.cell? ⟨w.heap.size, 0, none⟩ = some (.slice Af b.finds.length cf) ∧ w'.cell? ⟨w.heap.size, 1, none⟩ = some (.slice As b.slots.length cs) ∧ w'.cell? ⟨w.heap.size, 2, none⟩ = some (.slice At b.fits.length ct) ∧ Below V.heap.size V w')
      (first
        | exact ⟨c0, c1, c2, (Below.refl _ _).drew⟩
        | (refine keep3 ?_ hbelF; assumption)
        | (refine keep3 ?_ hbelS; assumption)
        | (refine keep3 ?_ ((Below.refl _ _).alloc (Nat.le_refl _) _); assumption)
        | exact keep3 (wa := V) ⟨c0, c1, c2, Below.refl _ _⟩ (Below.alloc (below2 (Below.drew (Below.refl _ _)) hbelF hbelS) (below2 (Below.drew (Below.refl _ _)) hbelF hbelS).size _)
        | exact keep3 (wa := V) ⟨c0, c1, c2, Below.refl _ _⟩ (Below.alloc (below2 (Below.drew (Below.refl _ _)) hbelS hbelF) (below2 (Below.drew (Below.refl _ _)) hbelS hbelF).size _)
        | (refine keep3_set (keep3_set (keep3_set ?_ ?_ HZ.out.2 HZ.out.2 HZ.out.2) ?_ HZ.out.2 HZ.out.2 HZ.out.2) ?_ HZ.out.2 HZ.out.2 HZ.out.2
           · assumption
           all_goals first | exact Nat.le_refl _ | exact Nat.le_trans (Below.drew (Below.refl V.heap.size V)).size hbelF.size | exact Nat.le_trans (Below.drew (Below.refl V.heap.size V)).size hbelS.size)
        | exact keep3 (wa := V) ⟨c0, c1, c2, Below.refl _ _⟩ (((Below.refl _ _).alloc (Nat.le_refl _) _).drew))
      (first
        | (go_at_call 88; refine (copiedInts_any Af cf b.finds _ (by omega) (HB.out.finds.kept (Kept.of_below (And.right (And.right (And.right (by assumption))))))).mono ?_; rintro e w' ⟨vf, rfl, hownF, hbelF⟩; obtain ⟨aF, kF, rfl, _⟩ := ownsRow.form hownF; have hcF := fun (x o : Nat) (h : x < _) => hbelF.cell (p := ⟨x, o, none⟩) h; have hlF := fun (x : Nat) (h : x < _) => Nat.lt_of_lt_of_le h hbelF.size; have hfF := fun (x o : Nat) (h : x < _) => hbelF.frozen (p := ⟨x, o, none⟩) h)
        | (go_at_call 92; refine (copiedSlots_any As cs b.slots _ (by omega) (HB.out.slots.kept (Kept.of_below (And.right (And.right (And.right (by assumption))))))).mono ?_; rintro e w' ⟨vs, rfl, hownS, hbelS⟩; obtain ⟨aS, kS, rfl, _⟩ := ownsRow.form hownS; have hcS := fun (x o : Nat) (h : x < _) => hbelS.cell (p := ⟨x, o, none⟩) h; have hlS := fun (x : Nat) (h : x < _) => Nat.lt_of_lt_of_le h hbelS.size; have hfS := fun (x o : Nat) (h : x < _) => hbelS.frozen (p := ⟨x, o, none⟩) h))
    · go_wp2_with fail
      go_meet
      have hb := below2 (Below.drew (Below.refl _ _)) hbelF hbelS
      have hal := (Below.refl w'.heap.size w').alloc (Nat.le_refl _) (.cells #[.slice aF b.finds.length kF, .slice aS b.slots.length kS, .slice none 0 0] 26)
      exact ⟨w'.heap.size, _, _, rfl, heap_alloc_new _ _, hb.size, own_below (own_below hownF hbelS) hal, own_lo (own_below hownS hal) hbelF.size, hb.alloc hb.size _⟩
    · go_wp2_with fail
      go_meet
      have hm := made_mid ((Below.drew (Below.refl V.heap.size V)).trans hbelF) hownF (by simpa using hbelS) (by simpa using hownS) _ rfl
      exact ⟨_, _, _, rfl, hm⟩
    · go_wp2_with fail
      go_meet
      have hba : Below V.heap.size V ((V.alloc (.cells #[.slice none 0 0, .slice none 0 0, .slice none 0 0] 26)).drew) := ((Below.refl _ _).alloc (Nat.le_refl _) _).drew
      have hbF := hba.trans (hbelF.mono hba.size)
      have hbS := hbF.trans (hbelS.mono hbF.size)
      have h1 := (hbelF.block V.heap.size (by simp)).trans (heap_alloc_new V _)
      have hh := (hbelS.block V.heap.size (Array.getElem?_eq_some_iff.1 h1).1).trans h1
      exact ⟨V.heap.size, _, _, rfl, set3 hh, Nat.le_refl _, own_set3 (own_lo (own_below hownF hbelS) hba.size) hh (by decide), own_set3 (own_lo hownS hbF.size) hh (by decide), below_set3 hbS (Nat.le_refl _)⟩
  case rest =>
    obtain ⟨cb, vf, vs, rfl, hcb, hlo, oF, oS, hbc⟩ := hcut
    obtain ⟨aF, kF, rfl, _⟩ := ownsRow.form oF
    obtain ⟨aS, kS, rfl, _⟩ := ownsRow.form oS
    have x2 := (Kept.of_below hbc) _ _ c2
    have hclt : cb < wc.heap.size := (Array.getElem?_eq_some_iff.1 hcb).1
    have HCB := hid hcb
    have HOF := hid oF
    have HOS := hid oS
    have HBC := hid hbc
    have HLO := hid hlo
    obtain ⟨i, i1, i2, i3, i4⟩ := fitsl_info
    clear hW hV c0 c1 c2 hcb oF oS hbc
    go_wp2_with fail
    clear x2
    go_loopg [16] (b.fits.length) (fun g i wr => ∃ (k : Nat) (v : Value) (us : List Value), k ≤ b.fits.length ∧ g = b.fits.length - k ∧ i = .int .i64 k ∧ Hid (wr.heap[cb]? = some (.cells #[.slice aF b.finds.length kF, .slice aS b.slots.length kS, v] 26 (0, 0))) ∧
      Hid (wr.ownsRow wc.heap.size 22 1 v k us) ∧ Hid (ListsOwn wr wc.heap.size us (b.fits.take k)) ∧ Hid (Apart us) ∧ Hid (Only [cb] wc wr))
    case atStart => exact ⟨0, _, [], by omega, by omega, rfl, HCB, hid (World.ownsRow_nil _ _ _ _), hid ⟨rfl, fun j hj => by simp at hj⟩, hid Apart.nil, hid (Only.refl _ _)⟩
    case round =>
      obtain ⟨k, v, us, hk, hgk, rfl, hblk, hown, hli, hap, ho⟩ := hrel
      have hbr : Below V.heap.size V wr := HBC.out.trans (ho.out.below (fun x hx => by rw [List.mem_singleton] at hx; have := HLO.out; omega) HBC.out.size)
      by_cases hlt : k < b.fits.length
      · obtain ⟨fb, foff, rfl, hc⟩ := (HB.out.fits.kept (Kept.of_below hbr)) (by omega)
        obtain ⟨Aj, cj, f1, f2⟩ := hc k hlt
        obtain ⟨L, hL⟩ : ∃ L, b.fits[k] = L := ⟨_, rfl⟩
        rw [hL] at f1 f2
        have F2 := hid f2
        have HL := hid hL
        have hlen : L.length ≤ 60 := by rw [← hL]; exact N4.out _ (List.getElem_mem _)
        have y3 : wr.cell? ⟨cb, 2, none⟩ = some v := by simp [World.cell?, hblk.out]
        have y3f : wr.frozen? ⟨cb, 2, none⟩ = false := by simp [World.frozen?, hblk.out]
        have htr : cb < wr.heap.size := Nat.lt_of_lt_of_le hclt ho.out.size
        have lwc : wc.heap.size ≤ wr.heap.size := ho.out.size
        clear hc f2 hL hbr
        go_wp2_with fail
        go_region_law (first
            | (refine step_append_lies _ rfl (.tmp 21) (.tmp 24) 24 rfl wc.heap.size 22 i (.slice none 0 0) 1 24 fitsl_u i1 i2 i3 i4 rfl (by decide) v k us ?hs (own_below hown3.out ((Below.refl _ _).alloc (Nat.le_refl _) _)) ⟨w2.heap.size, 0, none⟩ 1 1 [.slice A2 L.length c2] ?hx rfl (cell_one_new _ _ _) (by simp [Value.oneCell']) (by decide) ?h63 ?hbytes ?hbase _ rfl ?_
               case hs => simp [Act.eval]
               case hx => simp [Act.eval]
               case h63 => unfold maxLen; omega
               case hbytes => omega
               case hbase => simp; omega
               intro g cap w3 hown1 hgrow1 hat hlt1
               have hb1 := hid ((hgrow1.block cb (by simp; omega) (fun e => by have := (hown3.out.lt cb e.symm).1; omega)).trans HB2.out)
               have s1 : w3.cell? ⟨cb, 2, none⟩ = some v := by simp [World.cell?, hb1.out]
               have s2 : w3.frozen? ⟨cb, 2, none⟩ = false := by simp [World.frozen?, hb1.out])
            | (refine step_call rfl #[.tmp 22] 88 #[22] rfl call88 #[.slice Aj L.length cj] ?hs (fun u w' => w'.ownsRow wr.drew.heap.size 3 1 u L.length (ints L) ∧ Below wr.drew.heap.size wr.drew w') (copiedInts_any Aj cj L wr.drew (by omega) F2.out.drew1) ?_
               case hs => simp [Act.eval, Act.put]
               rintro v2 w2 ⟨hown2, hbel⟩
               obtain ⟨A2, c2, rfl, _⟩ := ownsRow.form hown2
               have y4 := (hbel.cell (p := ⟨cb, 2, none⟩) htr).trans y3
               have y4f := (hbel.frozen (p := ⟨cb, 2, none⟩) htr).trans y3f
               have htr2 : cb < w2.heap.size := Nat.lt_of_lt_of_le htr hbel.size
               have hown3 := hid (own_below (w := wr.drew) hown.out hbel)
               have HB2 : Hid ((w2.alloc (.cells #[.slice A2 L.length c2] 22)).heap[cb]? = some (.cells #[.slice aF b.finds.length kF, .slice aS b.slots.length kS, v] 26 (0, 0))) := hid ((Below.heap_alloc _ _ _ htr2).trans ((hbel.block cb htr).trans hblk.out))
               have lw2 : wc.heap.size ≤ w2.heap.size := Nat.le_trans lwc hbel.size))
        all_goals
          go_wp2_with fail
          go_roundg (b.fits.length - (k + 1))
          case measure => omega
          case rel =>
            obtain ⟨r1, r2, r3, r4⟩ := other_round hlt HL.out hown.out hli.out hap.out ho.out hown2 hbel hown1 hgrow1 hb1.out
            exact ⟨k + 1, _, _, by omega, rfl, by go_num, hid (block_set hb1.out), hid r1, hid r2, hid r3, hid r4⟩
      · obtain rfl : k = b.fits.length := by omega
        have hrb : wr.heap[W.heap.size]? = some (.cells #[.slice none 0 0, .slice none 0 0, .slice none 0 0] 26 (0, 0)) := (hbr.block W.heap.size HZ.out.1).trans HRB.out
        obtain ⟨aT, kT, rfl, _⟩ := ownsRow.form hown.out
        have z0 : wr.cell? ⟨W.heap.size, 0, none⟩ = some (.slice none 0 0) := by simp [World.cell?, hrb]
        have z1 : wr.cell? ⟨W.heap.size, 1, none⟩ = some (.slice none 0 0) := by simp [World.cell?, hrb]
        have z2 : wr.cell? ⟨W.heap.size, 2, none⟩ = some (.slice none 0 0) := by simp [World.cell?, hrb]
        have z3 : ∀ o, wr.frozen? ⟨W.heap.size, o, none⟩ = false := fun o => by simp [World.frozen?, hrb]
        have y0 : wr.cell? ⟨cb, 0, none⟩ = some (.slice aF b.finds.length kF) := by simp [World.cell?, hblk.out]
        have y1 : wr.cell? ⟨cb, 1, none⟩ = some (.slice aS b.slots.length kS) := by simp [World.cell?, hblk.out]
        have y2 : wr.cell? ⟨cb, 2, none⟩ = some (.slice aT b.fits.length kT) := by simp [World.cell?, hblk.out]
        have HRB2 := hid hrb
        have HBR := hid hbr
        clear hrb hbr hlt hgk hk
        go_wp2_with fail
        have hu3 := set3 (a := .slice aF b.finds.length kF) (b := .slice aS b.slots.length kS) (c := .slice aT b.fits.length kT) HRB2.out
        refine bodyPost_ret (ret_board rfl rfl hu3) rfl ?_
        have hwc := HBC.out.size
        have hwV := HWV.out.size
        have l0 : w.heap.size ≤ wc.heap.size := Nat.le_trans hwV hwc
        have e1 := own_set3 (a := .slice aF b.finds.length kF) (b := .slice aS b.slots.length kS) (c := .slice aT b.fits.length kT) (own_only HOF.out ho.out HCB.out (by decide)) HRB2.out (by decide)
        have e2 := own_set3 (a := .slice aF b.finds.length kF) (b := .slice aS b.slots.length kS) (c := .slice aT b.fits.length kT) (own_only HOS.out ho.out HCB.out (by decide)) HRB2.out (by decide)
        have e3 := own_set3 (a := .slice aF b.finds.length kF) (b := .slice aS b.slots.length kS) (c := .slice aT b.fits.length kT) hown.out HRB2.out (by decide)
        have hl := hli.out
        rw [List.take_length] at hl
        have e4 := hl.set3 (a := .slice aF b.finds.length kF) (b := .slice aS b.slots.length kS) (c := .slice aT b.fits.length kT) HRB2.out (by decide)
        refine ⟨_, _, _, rfl, ⟨own_lo e1 hwV, own_lo e2 hwV, us, own_lo e3 l0, e4.lo l0, hap.out, fun u hu g hg hu2 => ?_⟩, below_set3 (HWV.out.trans (HBR.out.mono hwV)) HZ2.out⟩
        have := (own_blocks hl u hu g hu2).1
        have := (HOF.out.lt g hg).2
        omega
end Go.Proofs.Ytpmdjbjnihhjeaa
