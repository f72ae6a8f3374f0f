/- Rows that a call makes itself: append from any source, and what such a row reads as; touches, makes and names; names; slices.Equal of numbers; equal; slices.Equal of numbers; equal (two reports). -/
import Derived.Test.YtfaoillnakhejaaGreatG2
import Derived.Laws.AppendOwn
import Derived.Laws.CopyOwn
namespace Go.Proofs.YtfaoillnakhejaaGreat
set_option maxRecDepth 100000
open Go.RowKit
section
open Go.RowKit
/-- A slice that starts at A holds the cells us. -/
def CellsAt (w : World) (A : Option Addr) (us : List Value) : Prop :=
  0 < us.length → ∃ b off, A = some ⟨b, off, none⟩ ∧ ∀ j u, us[j]? = some u → w.cell? ⟨b, off + j, none⟩ = some u
theorem CellsAt.kept {w w' : World} {A : Option Addr} {us : List Value} (h : CellsAt w A us) (k : Kept w w') : CellsAt w' A us := fun h0 => by
  obtain ⟨b, off, e, hc⟩ := h h0
  exact ⟨b, off, e, fun j u hj => k _ _ (hc j u hj)⟩
def ints (xs : List Int) : List Value := xs.map (Value.int .i64)
theorem ints_length (xs : List Int) : (ints xs).length = xs.length := by simp [ints]
theorem ints_append (xs ys : List Int) : ints (xs ++ ys) = ints xs ++ ints ys := by simp [ints]
theorem IntsAt.cells {w : World} {A : Option Addr} {xs : List Int} (h : IntsAt w A xs) : CellsAt w A (ints xs) := fun h0 => by
  obtain ⟨b, off, e, hc⟩ := h (by simpa [ints] using h0)
  refine ⟨b, off, e, fun j u hj => ?_⟩
  simp only [ints, List.getElem?_map, Option.map_eq_some_iff] at hj
  obtain ⟨x, hx, rfl⟩ := hj
  obtain ⟨hlt, rfl⟩ := List.getElem?_eq_some_iff.1 hx
  exact hc j hlt
theorem CellsAt.ints {w : World} {A : Option Addr} {xs : List Int} (h : CellsAt w A (ints xs)) : IntsAt w A xs := fun h0 => by
  obtain ⟨b, off, e, hc⟩ := h (by simpa [YtfaoillnakhejaaGreat.ints] using h0)
  exact ⟨b, off, e, fun j hj => hc j _ (by simp [YtfaoillnakhejaaGreat.ints, hj])⟩
theorem add_lit (b off j : Nat) : (⟨b, off, none⟩ : Addr).add j = ⟨b, off + j, none⟩ := by
  unfold Addr.add
  split <;> simp_all
section
variable {P : Program} {w w' : World} {base : Nat} {e : TypeId} {size n : Nat} {v : Value} {us : List Value}
theorem run_app {t : TypeId} (ty : TypeId) {i : TypeInfo} {z : Value} {bytes : Nat} (ht : P.underlying t = some (.slice e)) (hi : P.info? e = some i) (hz : i.zero = some z)
    (hsize : i.size = size) (hby : i.bytes = bytes) (hzs : z.cells.size = size) (hsz : 0 < size)
    (hown : w.ownsRow base e size v n us) {A : Option Addr} {m c : Nat} {news : List Value} (hl : news.length = m * size) (hsrc : CellsAt w A news) (h1 : ∀ u ∈ news, u.oneCell' = true)
    (h63 : n + m ≤ maxLen) (hbytes : (n + m) * bytes ≤ 140737488355328) (hbase : base ≤ w.heap.size) :
    ∃ v' w', (Builtin.append_ #[t, t] ty #[v, .slice A m c]).run P w = .ok v' w' ∧ w'.ownsRow base e size v' (n + m) (us ++ news) ∧ w.grownBy w' v.ownBlock := by
  cases A with
  | none =>
    have hm : m = 0 := by
      rcases Nat.eq_zero_or_pos m with h | h
      · exact h
      · obtain ⟨_, _, h2, _⟩ := hsrc (by rw [hl]; exact Nat.mul_pos h hsz)
        cases h2
    subst hm
    have hn : news = [] := List.eq_nil_of_length_eq_zero (by simpa using hl)
    subst hn
    refine ⟨v, w, ?_, by simpa using hown, ⟨rfl, rfl, rfl, Nat.le_refl _, fun _ _ _ => rfl⟩⟩
    rcases hown.2 with ⟨rfl, rfl⟩ | ⟨g, cap, cur, rfl, _, _, hnc, _⟩
    · simp [Builtin.append_, run_underlying ht, sizeOf, typeInfo, hi, Builtin.lenOf, Builtin.firstCells]
    · simp [Builtin.append_, run_underlying ht, sizeOf, typeInfo, hi, Builtin.lenOf, Builtin.firstCells, hnc, storeCells]
  | some a =>
    have hcells : ∀ j u, news[j]? = some u → w.cell? (a.add j) = some u := fun j u hj => by
      obtain ⟨b, off, h2, hc⟩ := hsrc (by have := (List.getElem?_eq_some_iff.1 hj).1; omega)
      cases h2
      rw [add_lit]
      exact hc j u hj
    obtain ⟨v', w', h2, h3, h4, _⟩ := run_append_own (P := P) w base t ty e i z size bytes ht hi hz hsize hby hzs hsz v n us hown a m c news hl hcells h1 h63 hbytes hbase
    exact ⟨v', w', h2, h3, h4⟩
theorem ownsRow.form (h : w.ownsRow base e size v n us) : ∃ A cap, v = .slice A n cap ∧ CellsAt w A us ∧ n ≤ cap ∧ (∀ a, A = some a → base ≤ a.block ∧ a = ⟨a.block, 0, none⟩ ∧ w.frozen? ⟨a.block, 0, none⟩ = false) := by
  rcases h.2 with ⟨rfl, rfl⟩ | ⟨g, cap, cur, rfl, hbg, hg, hnc, _, _, ht⟩
  · have : us = [] := List.eq_nil_of_length_eq_zero (by simpa using h.1)
    subst this
    exact ⟨none, 0, rfl, fun h => absurd h (by simp), Nat.le_refl _, by intro a h; cases h⟩
  · refine ⟨some ⟨g, 0, none⟩, cap, rfl, fun _ => ⟨g, 0, rfl, fun j u hj => ?_⟩, hnc, ?_⟩
    · have := h.cells (g := g) rfl j u hj
      rwa [add_lit] at this
    · rintro a h; cases h
      exact ⟨hbg, rfl, by simp [World.frozen?, hg]⟩
/-- The own row as a list of numbers. -/
theorem ownsRow.ints {xs : List Int} (h : w.ownsRow base e size v n (ints xs)) : ∃ A cap, v = .slice A n cap ∧ IntsAt w A xs := by
  obtain ⟨A, cap, hv, hc, _⟩ := ownsRow.form h
  exact ⟨A, cap, hv, hc.ints⟩
theorem Below.of_grown {B : Nat} {row : Option Nat} (hg : w.grownBy w' row) (hB : B ≤ w.heap.size) (hr : ∀ k, row = some k → B ≤ k) : Below B w w' := (Below.refl B w).grown hg hB hr
end
theorem ints_info : ∃ i, Tryz.prog.info? 3 = some i ∧ i.zero = some (.int .i64 0) ∧ i.size = 1 ∧ i.bytes = 8 := by
  have h : (Tryz.prog.info? 3).map (fun i => (i.zero, i.size, i.bytes)) = some (some (.int .i64 0), 1, 8) := by kernel_rfl
  obtain ⟨i, h1, h2, h3, h4⟩ := info_parts h
  exact ⟨i, h1, h2, h3, h4⟩
theorem intsl_u : Tryz.prog.underlying 25 = some (.slice 3) := by kernel_rfl
/-- append of numbers to a row of the call's own -/
theorem app_ints {w : World} {base : Nat} {v : Value} {xs ys : List Int} {A : Option Addr} {c : Nat} (hown : w.ownsRow base 3 1 v xs.length (ints xs)) (hsrc : IntsAt w A ys) (hsz : xs.length + ys.length ≤ 1000000) (hbase : base ≤ w.heap.size) :
    ∃ v' w', (Builtin.append_ #[25, 25] 25 #[v, .slice A ys.length c]).run Tryz.prog w = .ok v' w' ∧ w'.ownsRow base 3 1 v' (xs ++ ys).length (ints (xs ++ ys)) ∧ w.grownBy w' v.ownBlock := by
  obtain ⟨i, h1, h2, h3, h4⟩ := ints_info
  obtain ⟨v', w', hr, ho, hg⟩ := run_app (P := Tryz.prog) 25 (bytes := 8) (c := c) intsl_u h1 h2 h3 h4 (by rfl) (by omega) hown (m := ys.length) (by simp [ints]) hsrc.cells (by simp [ints, Value.oneCell']) (by unfold maxLen; omega) (by omega) hbase
  exact ⟨v', w', hr, by rwa [List.length_append, ints_append], hg⟩
/-- An append whose run is known. -/
theorem wpList_app {P : Program} {ops : Array Oper} {rest : List Oper} {o : Oper} {a : Act} {Q : Exit → Act → World → Prop} {s x : Operand} {t ty : TypeId} {v src v' : Value} {w w' : World} (hgd : o.guard = none)
    (ho : o.op = .call { callee := .builtin .append, args := #[s, x], argTypes := #[t, t] }) (hty : o.type = ty) (hs : a.eval s = v) (hx : a.eval x = src)
    (hr : (Builtin.append_ #[t, t] ty #[v, src]).run P w = .ok v' w') (h : wpList P ops Q rest (a.put o.dst v') w') : wpList P ops Q (o :: rest) a w :=
  wpList_plain hgd fun _ hK => by
    unfold Oper.wp execOp
    subst hty
    simp only [ho, resolve, invoke, builtin, Sem.run_bind, Sem.run_pure, Result.andThen_ok, List.map_toArray, List.map_cons, List.map_nil, hs, hx, hr]
    exact hK _ _ h
theorem emptyRow (w : World) (e : TypeId) (size : Nat) : (w.alloc (.cells #[] e)).ownsRow w.heap.size e size (.slice (some ⟨w.heap.size, 0, none⟩) 0 0) 0 [] :=
  ⟨by simp, .inr ⟨w.heap.size, 0, #[], rfl, Nat.le_refl _, heap_alloc_new w _, Nat.le_refl _, Nat.zero_le _, by simp, by simp⟩⟩
theorem own_below {w w' : World} {base e size n : Nat} {v : Value} {us : List Value} (h : w.ownsRow base e size v n us) (hb : Below w.heap.size w w') : w'.ownsRow base e size v n us := by
  refine ⟨h.1, ?_⟩
  rcases h.2 with h2 | ⟨g, cap, cur, h1, h2, hg, h3⟩
  · exact .inl h2
  · exact .inr ⟨g, cap, cur, h1, h2, (hb.block g (Array.getElem?_eq_some_iff.1 hg).1).trans hg, h3⟩
theorem own_slice {w : World} {base e size n : Nat} {v : Value} {us : List Value} (h : w.ownsRow base e size v n us) (h0 : 0 < n) : ∃ g cap, v = .slice (some ⟨g, 0, none⟩) n cap ∧ base ≤ g ∧ n ≤ cap := by
  rcases h.2 with ⟨_, h2⟩ | ⟨g, cap, cur, h1, h2, hg, h3, _⟩
  · omega
  · exact ⟨g, cap, h1, h2, h3⟩
theorem own_lo {w : World} {base base' e size n : Nat} {v : Value} {xs : List Value} (h : w.ownsRow base e size v n xs) (hb : base' ≤ base) : w.ownsRow base' e size v n xs :=
  ⟨h.1, h.2.imp id (fun ⟨g, cap, cur, a, b, c⟩ => ⟨g, cap, cur, a, Nat.le_trans hb b, c⟩)⟩
theorem app_one {w : World} {base : Nat} {v : Value} {xs : List Int} (x : Int) (hown : w.ownsRow base 3 1 v xs.length (ints xs)) (hl : xs.length ≤ 1000) (hbase : base ≤ w.heap.size) :
    ∃ v' w', (Builtin.append_ #[25, 25] 25 #[v, .slice (some ⟨w.heap.size, 0, none⟩) 1 1]).run Tryz.prog (w.alloc (.cells #[.int .i64 x] 3)) = .ok v' w' ∧ w'.ownsRow base 3 1 v' (xs ++ [x]).length (ints (xs ++ [x])) ∧ (Below base w w') := by
  obtain ⟨v', w', hr2, ho', hg'⟩ := app_ints (w := w.alloc (.cells #[.int .i64 x] 3)) (c := 1) (A := some ⟨w.heap.size, 0, none⟩) (ys := [x]) (hown.alloc _) (fun _ => ⟨w.heap.size, 0, rfl, fun j hj => by
    have : j = 0 := by simpa using hj
    subst this; simp⟩) (by simp; omega) (by simp; omega)
  exact ⟨v', w', hr2, ho', ((Below.refl _ _).alloc hbase _).grown hg' (by simp; omega) (fun g e => (hown.lt g e).1)⟩
/-- Block g is the cells cs, of type t, none frozen. -/
def Block (w : World) (g : Nat) (t : TypeId) (cs : List Value) : Prop := w.heap[g]? = some (.cells cs.toArray t (0, 0))
theorem own_block {w : World} {base g n : Nat} {e : TypeId} {us : List Value} (h : w.ownsRow base e 1 (.slice (some ⟨g, 0, none⟩) n n) n us) : Block w g e us ∧ us.length = n := by
  rcases h.2 with ⟨h1, _⟩ | ⟨g', cap, cur, h1, _, hg, _, _, hs, ht⟩
  · cases h1
  · cases h1
    have hlen := h.1
    refine ⟨?_, by omega⟩
    rw [List.take_of_length_le (by simp; omega)] at ht
    unfold Block
    rw [hg, ← ht]
theorem block_own {w : World} {base g n : Nat} {e : TypeId} {us : List Value} (h : Block w g e us) (hl : us.length = n) (hb : base ≤ g) (hn : n ≤ maxLen) : w.ownsRow base e 1 (.slice (some ⟨g, 0, none⟩) n n) n us :=
  ⟨by omega, .inr ⟨g, n, us.toArray, rfl, hb, h, Nat.le_refl _, hn, by simp [hl], by rw [List.take_of_length_le (by simp [hl])]⟩⟩
theorem Block.cell {w : World} {g : Nat} {e : TypeId} {us : List Value} (h : Block w g e us) (j : Nat) : w.cell? ⟨g, j, none⟩ = us[j]? := by
  unfold Block at h
  simp [World.cell?, h]
theorem made1 (u : Value) (n : Nat) : (madeCells #[u] n).toList = List.replicate n u := by
  apply List.ext_getElem
  · simp [madeCells]
  · intro k h1 h2
    simp [madeCells, Nat.mod_one]
theorem ints_replicate (n : Nat) (v : Int) : ints (List.replicate n v) = List.replicate n (.int .i64 v) := by simp [ints]
theorem block_set {w : World} {g i : Nat} {cs : Array Value} {t : TypeId} {v : Value} (h : w.heap[g]? = some (.cells cs t (0, 0))) : (w.setCell ⟨g, i, none⟩ v).heap[g]? = some (.cells (cs.setIfInBounds i v) t (0, 0)) := by
  simp only [World.setCell, Array.getElem?_modify, if_true, h]
  rfl
theorem set_block {w : World} {g i : Nat} {cs : Array Value} {t : TypeId} {v : Value} (h : w.heap[g]? = some (.cells cs t (0, 0))) : (w.setCell ⟨g, i, none⟩ v).heap[g]? = some (.cells (cs.setIfInBounds i v) t (0, 0)) := block_set h
theorem ownsRow_ints {w : World} {base n k : Nat} {A : Option Addr} {xs : List Int} (h : w.ownsRow base 3 1 (.slice A n k) n (ints xs)) : IntsAt w A xs := by
  obtain ⟨A', c', e, hA⟩ := ownsRow.ints h
  cases e
  exact hA
/-- One number more behind a row of the call's own: the run, the row, and what is below. -/
theorem app_more {w : World} {base : Nat} {v : Value} {xs : List Int} (x : Int) (hown : w.ownsRow base 3 1 v xs.length (ints xs)) (hl : xs.length ≤ 1000) (hbase : base ≤ w.heap.size) :
    ∃ v' w', (Builtin.append_ #[25, 25] 25 #[v, .slice (some ⟨w.heap.size, 0, none⟩) 1 1]).run Tryz.prog (w.alloc (.cells #[.int .i64 x] 3)) = .ok v' w' ∧ w'.ownsRow base 3 1 v' (xs ++ [x]).length (ints (xs ++ [x])) ∧ Below base w w' := app_one x hown hl hbase
end
theorem lit_own (w : World) (xs : List Int) (cs : Array Value) (n : Nat) (hcs : cs = (ints xs).toArray) (hn : xs.length = n) (hm : n ≤ 1000) {g : Nat} (hg : g = w.heap.size) :
    (w.alloc (.cells cs 3)).ownsRow w.heap.size 3 1 (.slice (some ⟨g, 0, none⟩) n n) n (ints xs) := by
  subst hcs hn hg
  exact ⟨by simp [ints], .inr ⟨w.heap.size, xs.length, (ints xs).toArray, rfl, Nat.le_refl _, heap_alloc_new w _, Nat.le_refl _, by unfold maxLen; omega, by simp [ints], by rw [List.take_of_length_le (by simp [ints])]⟩⟩
theorem filter_snoc {α : Type} (p : α → Bool) (l : List α) (k : Nat) (h : k < l.length) : (l.take (k + 1)).filter p = (l.take k).filter p ++ if p l[k] then [l[k]] else [] := by
  rw [List.take_succ_eq_append_getElem h, List.filter_append]
  simp [List.filter_cons]
theorem filter_take_le {α : Type} (p : α → Bool) (l : List α) (k : Nat) : ((l.take k).filter p).length ≤ k := by
  have h1 := List.length_filter_le p (l.take k)
  have h2 := List.length_take_le k l
  omega
set_option maxHeartbeats 4000000 in
theorem touches_own (r : Rep) (A : Option Addr) (c : Nat) (w : World) (hp : r.parts.length ≤ 100) (hA : IntsAt w A r.parts) :
    Calls Tryz.prog 141 #[r.val A c] w fun e w' => ∃ v, e = .returned v ∧ w'.ownsRow w.heap.size 3 1 v r.touches.length (ints r.touches) ∧ Below w.heap.size w w' := by
  obtain ⟨W, hW, hc, hbW, hz⟩ := boxR r A c w
  have c4 : W.cell? ⟨w.heap.size, 4, none⟩ = some (.int .i64 r.parcel) := hc 4 _ rfl
  have c6 : W.cell? ⟨w.heap.size, 6, none⟩ = some (.slice A r.parts.length c) := hc 6 _ rfl
  have c13 : W.cell? ⟨w.heap.size, 13, none⟩ = some (.int .i64 r.other) := hc 13 _ rfl
  have HBW := hid hbW
  obtain ⟨xs, hxs⟩ : ∃ xs, xs = [r.parcel, r.other] ++ r.parts := ⟨_, rfl⟩
  have hxl : xs.length ≤ 102 := by rw [hxs]; simp; omega
  have hbU : Below W.heap.size W (W.alloc (.cells #[.int .i64 r.parcel, .int .i64 r.other] 3)) := (Below.refl _ _).alloc (Nat.le_refl _) _
  obtain ⟨v1, w1, hr, ho, hg⟩ := app_ints (w := W.alloc (.cells #[.int .i64 r.parcel, .int .i64 r.other] 3)) (base := W.heap.size) (xs := [r.parcel, r.other]) (ys := r.parts) (A := A) (c := c)
    (lit_own W [r.parcel, r.other] _ 2 rfl rfl (by omega) rfl) (hA.kept (Kept.of_below (hbW.trans (hbU.mono hbW.size)))) (by simp; omega) (by simp)
  rw [← hxs] at ho
  obtain ⟨A1, cp1, rfl, hx9⟩ := ownsRow.form ho
  clear hx9
  have hI := ownsRow_ints ho
  have hb1 : Below W.heap.size W w1 := hbU.trans (Below.of_grown hg hbU.size (fun k e => by cases e; exact Nat.le_refl _))
  have HR := hid hr
  have HI := hid hI
  have HB1 := hid (hbW.trans (hb1.mono hbW.size))
  have HT : Hid (r.touches = xs.filter fun p => decide (0 < p)) := hid (by rw [hxs]; rfl)
  clear hc hz hbW hbU hr ho hg hI hb1 hxs hA
  have hlt : w.heap.size < W.heap.size := cell_lt c4
  go_enter Tryz.func141, Tryz.ntmps141
  go_wp2_with (at_builtin; refine wpList_app rfl rfl rfl rfl rfl HR.out ?_)
  clear c4 c6 c13 hW
  go_loopg [3, 15] (xs.length) (fun g v i wr => ∃ k : Nat, k ≤ xs.length ∧ g = xs.length - k ∧ i = .int .i64 k ∧ Hid (wr.ownsRow w1.heap.size 3 1 v ((xs.take k).filter fun p => decide (0 < p)).length (ints ((xs.take k).filter fun p => decide (0 < p)))) ∧ Hid (Below w1.heap.size w1 wr))
  case atStart => exact ⟨0, by omega, by omega, rfl, hid (World.ownsRow_nil _ _ _ _), hid (Below.refl _ _)⟩
  case round =>
    obtain ⟨k, hk, hgk, rfl, hown, hbw⟩ := hrel
    by_cases hlt : k < xs.length
    · obtain ⟨ab, aoff, rfl, hac⟩ := (HI.out.kept (Kept.of_below hbw.out)) (by omega)
      have hak := hac k hlt
      have hsn := filter_snoc (fun p => decide ((0 : Int) < p)) xs k hlt
      have hle := filter_take_le (fun p => decide ((0 : Int) < p)) xs k
      obtain ⟨x, hx⟩ : ∃ x, xs[k] = x := ⟨_, rfl⟩
      rw [hx] at hak hsn
      have i0 : (0 : Int) ≤ k := by omega
      have i1 : (k : Int) < xs.length := by omega
      clear hac hx
      by_cases h0 : 0 < x
      · have d1 : decide (0 < x) = true := decide_eq_true h0
        rw [d1, if_pos rfl] at hsn
        obtain ⟨v', w', hr2, ho', hb'⟩ := app_more x hown.out (by omega) hbw.out.size
        rw [← hsn] at ho'
        have HR2 := hid hr2
        have HO := hid ho'
        have HB2 := hid (hbw.out.trans hb')
        clear hr2 ho' hb' hsn h0
        go_wp2_with (at_builtin; refine wpList_app rfl rfl rfl rfl rfl HR2.out ?_)
        go_roundg (xs.length - (k + 1))
        case measure => omega
        case rel => exact ⟨k + 1, by omega, rfl, by go_num, HO, HB2⟩
      · have d1 : decide (0 < x) = false := decide_eq_false h0
        rw [d1, if_neg (by simp), List.append_nil] at hsn
        have HSN := hid hsn
        clear hsn h0
        go_wp2_with fail
        go_roundg (xs.length - (k + 1))
        case measure => omega
        case rel => exact ⟨k + 1, by omega, rfl, by go_num, by rw [HSN.out]; exact hown, hbw⟩
    · obtain rfl : k = xs.length := by omega
      go_wp2_with fail
      go_ret
      refine ⟨_, rfl, ?_, HB1.out.trans (hbw.out.mono HB1.out.size)⟩
      rw [HT.out]
      have := hown.out
      rw [List.take_length] at this
      exact own_lo this HB1.out.size
def Rep.many (r : Rep) : Nat := if r.kind = 1 ∨ r.kind = 3 then 1 else if r.kind = 2 then r.count.toNat else 0
theorem Rep.makes_eq (r : Rep) : r.makes = (List.range r.many).map fun (i : Nat) => 10 * r.id + (i : Int) := by
  unfold Rep.makes Rep.many
  by_cases h : r.kind = 1 ∨ r.kind = 3
  · rw [if_pos h, if_pos h]; simp [List.range_succ]
  · rw [if_neg h, if_neg h]
    by_cases h2 : r.kind = 2
    · rw [if_pos h2, if_pos h2]
    · rw [if_neg h2, if_neg h2]; simp
theorem Rep.Wf.many {r : Rep} (h : r.Wf) : r.many ≤ 8 := by
  unfold Rep.many
  split
  · omega
  · split
    · have := h.count ‹_›; omega
    · omega
def MakesPost (r : Rep) (w : World) (e : Ending) (w' : World) : Prop := ∃ v, e = .returned v ∧ w'.ownsRow w.heap.size 3 1 v r.makes.length (ints r.makes) ∧ Below w.heap.size w w'
set_option maxHeartbeats 8000000 in
theorem makes_own (r : Rep) (A : Option Addr) (c : Nat) (w : World) (hr : r.Wf) :
    Calls Tryz.prog 58 #[r.val A c] w (MakesPost r w) := by
  obtain ⟨W, hW, hc, hbW, hz⟩ := boxR r A c w
  have c0 : W.cell? ⟨w.heap.size, 0, none⟩ = some (.int .i64 r.id) := hc 0 _ rfl
  have c3 : W.cell? ⟨w.heap.size, 3, none⟩ = some (.int .u8 r.kind) := hc 3 _ rfl
  have c5 : W.cell? ⟨w.heap.size, 5, none⟩ = some (.int .i64 r.count) := hc 5 _ rfl
  have HBW := hid hbW
  have hid1 := hr.id.1
  have hid2 := hr.id.2
  have HME := hid r.makes_eq
  obtain ⟨n, hn⟩ : ∃ n, r.many = n := ⟨_, rfl⟩
  have hn8 : n ≤ 8 := by rw [← hn]; exact hr.many
  rw [hn] at HME
  have C0 := hid c0
  have fin : ∀ (k : Nat) (v : Value) (wr : World), k = n → wr.ownsRow W.heap.size 3 1 v k (ints ((List.range k).map fun (i : Nat) => 10 * r.id + (i : Int))) → Below W.heap.size W wr → MakesPost r w (.returned v) wr := by
    rintro k v wr rfl ho hb
    refine ⟨v, rfl, ?_, hbW.trans (hb.mono hbW.size)⟩
    rw [HME.out]
    have h1 : ((List.range k).map fun (i : Nat) => 10 * r.id + (i : Int)).length = k := by simp
    rw [h1]
    exact own_lo ho hbW.size
  have FIN := hid fin
  have hkind : (r.kind = 1 ∧ n = 1) ∨ (r.kind = 3 ∧ n = 1) ∨ (r.kind = 2 ∧ r.count = (n : Int)) ∨ (r.kind ≠ 1 ∧ r.kind ≠ 2 ∧ r.kind ≠ 3 ∧ n = 0) := by
    rw [← hn]
    unfold Rep.many
    by_cases h1 : r.kind = 1
    · exact .inl ⟨h1, by rw [if_pos (.inl h1)]⟩
    · by_cases h3 : r.kind = 3
      · exact .inr (.inl ⟨h3, by rw [if_pos (.inr h3)]⟩)
      · by_cases h2 : r.kind = 2
        · have := hr.count h2
          exact .inr (.inr (.inl ⟨h2, by rw [if_neg (by omega), if_pos h2]; omega⟩))
        · exact .inr (.inr (.inr ⟨h1, h2, h3, by rw [if_neg (by omega), if_neg h2]⟩))
  have HK := hid hkind
  clear hc hz hbW hn hr HME fin hkind
  rcases HK.out with ⟨hk, hn1⟩ | ⟨hk, hn1⟩ | ⟨hk, hn1⟩ | ⟨hk1, hk2, hk3, hn1⟩
  · have d1 : (r.kind == 1) = true := beq_iff_eq.2 hk
    subst hn1
    clear hk HK
    go_enter Tryz.func58, Tryz.ntmps58
    go_wp2_with fail
    clear c0 c3 c5 hW
    go_loopg [4, 16] (1) (fun g v i wr => ∃ k : Nat, k ≤ 1 ∧ g = 1 - k ∧ i = .int .i64 k ∧ Hid (wr.ownsRow W.heap.size 3 1 v k (ints ((List.range k).map fun (i : Nat) => 10 * r.id + (i : Int)))) ∧ Hid (Below W.heap.size W wr))
    case atStart => exact ⟨0, by omega, by omega, rfl, hid (World.ownsRow_nil _ _ _ _), hid (Below.refl _ _)⟩
    case round =>
      obtain ⟨k, hk, hgk, rfl, hown, hbw⟩ := hrel
      have x0 := (Kept.of_below hbw.out) _ _ C0.out
      by_cases hlt : k < 1
      · have hown2 := hown.out
        have hlen : ((List.range k).map fun (i : Nat) => 10 * r.id + (i : Int)).length = k := by simp
        obtain ⟨v', w', hr2, ho', hb'⟩ := app_more (10 * r.id + (k : Int)) (xs := (List.range k).map fun (i : Nat) => 10 * r.id + (i : Int)) (by rw [hlen]; exact hown2) (by rw [hlen]; omega) hbw.out.size
        have hsn : (List.range k).map (fun (i : Nat) => 10 * r.id + (i : Int)) ++ [10 * r.id + (k : Int)] = (List.range (k + 1)).map fun (i : Nat) => 10 * r.id + (i : Int) := by simp [List.range_succ]
        rw [hsn] at ho'
        simp only [List.length_map, List.length_range] at ho'
        have HR2 := hid hr2
        have HO := hid ho'
        have HB2 := hid (hbw.out.trans hb')
        clear hr2 ho' hb' hsn hown2 hlen
        go_wp2_with (at_builtin; refine wpList_app rfl rfl rfl rfl rfl HR2.out ?_)
        go_roundg (1 - (k + 1))
        case measure => omega
        case rel => exact ⟨k + 1, by omega, rfl, by go_num, HO, HB2⟩
      · have hkn : k = 1 := by omega
        have HKN := hid hkn
        clear hkn
        go_wp2_with fail
        go_ret
        exact FIN.out k _ _ HKN.out hown.out hbw.out
  · have d1 : (r.kind == 1) = false := beq_eq_false_iff_ne.2 (by omega)
    have d3 : (r.kind == 3) = true := beq_iff_eq.2 hk
    subst hn1
    clear hk HK
    go_enter Tryz.func58, Tryz.ntmps58
    go_wp2_with fail
    clear c0 c3 c5 hW
    go_loopg [4, 16] (1) (fun g v i wr => ∃ k : Nat, k ≤ 1 ∧ g = 1 - k ∧ i = .int .i64 k ∧ Hid (wr.ownsRow W.heap.size 3 1 v k (ints ((List.range k).map fun (i : Nat) => 10 * r.id + (i : Int)))) ∧ Hid (Below W.heap.size W wr))
    case atStart => exact ⟨0, by omega, by omega, rfl, hid (World.ownsRow_nil _ _ _ _), hid (Below.refl _ _)⟩
    case round =>
      obtain ⟨k, hk, hgk, rfl, hown, hbw⟩ := hrel
      have x0 := (Kept.of_below hbw.out) _ _ C0.out
      by_cases hlt : k < 1
      · have hown2 := hown.out
        have hlen : ((List.range k).map fun (i : Nat) => 10 * r.id + (i : Int)).length = k := by simp
        obtain ⟨v', w', hr2, ho', hb'⟩ := app_more (10 * r.id + (k : Int)) (xs := (List.range k).map fun (i : Nat) => 10 * r.id + (i : Int)) (by rw [hlen]; exact hown2) (by rw [hlen]; omega) hbw.out.size
        have hsn : (List.range k).map (fun (i : Nat) => 10 * r.id + (i : Int)) ++ [10 * r.id + (k : Int)] = (List.range (k + 1)).map fun (i : Nat) => 10 * r.id + (i : Int) := by simp [List.range_succ]
        rw [hsn] at ho'
        simp only [List.length_map, List.length_range] at ho'
        have HR2 := hid hr2
        have HO := hid ho'
        have HB2 := hid (hbw.out.trans hb')
        clear hr2 ho' hb' hsn hown2 hlen
        go_wp2_with (at_builtin; refine wpList_app rfl rfl rfl rfl rfl HR2.out ?_)
        go_roundg (1 - (k + 1))
        case measure => omega
        case rel => exact ⟨k + 1, by omega, rfl, by go_num, HO, HB2⟩
      · have hkn : k = 1 := by omega
        have HKN := hid hkn
        clear hkn
        go_wp2_with fail
        go_ret
        exact FIN.out k _ _ HKN.out hown.out hbw.out
  · have d1 : (r.kind == 1) = false := beq_eq_false_iff_ne.2 (by omega)
    have d3 : (r.kind == 3) = false := beq_eq_false_iff_ne.2 (by omega)
    have d2 : (r.kind == 2) = true := beq_iff_eq.2 hk
    rw [hn1] at c5
    clear hk hn1 HK
    go_enter Tryz.func58, Tryz.ntmps58
    go_wp2_with fail
    clear c0 c3 c5 hW
    go_loopg [4, 16] (n) (fun g v i wr => ∃ k : Nat, k ≤ n ∧ g = n - k ∧ i = .int .i64 k ∧ Hid (wr.ownsRow W.heap.size 3 1 v k (ints ((List.range k).map fun (i : Nat) => 10 * r.id + (i : Int)))) ∧ Hid (Below W.heap.size W wr))
    case atStart => exact ⟨0, by omega, by omega, rfl, hid (World.ownsRow_nil _ _ _ _), hid (Below.refl _ _)⟩
    case round =>
      obtain ⟨k, hk, hgk, rfl, hown, hbw⟩ := hrel
      have x0 := (Kept.of_below hbw.out) _ _ C0.out
      by_cases hlt : k < n
      · have hown2 := hown.out
        have hlen : ((List.range k).map fun (i : Nat) => 10 * r.id + (i : Int)).length = k := by simp
        obtain ⟨v', w', hr2, ho', hb'⟩ := app_more (10 * r.id + (k : Int)) (xs := (List.range k).map fun (i : Nat) => 10 * r.id + (i : Int)) (by rw [hlen]; exact hown2) (by rw [hlen]; omega) hbw.out.size
        have hsn : (List.range k).map (fun (i : Nat) => 10 * r.id + (i : Int)) ++ [10 * r.id + (k : Int)] = (List.range (k + 1)).map fun (i : Nat) => 10 * r.id + (i : Int) := by simp [List.range_succ]
        rw [hsn] at ho'
        simp only [List.length_map, List.length_range] at ho'
        have HR2 := hid hr2
        have HO := hid ho'
        have HB2 := hid (hbw.out.trans hb')
        clear hr2 ho' hb' hsn hown2 hlen
        go_wp2_with (at_builtin; refine wpList_app rfl rfl rfl rfl rfl HR2.out ?_)
        go_roundg (n - (k + 1))
        case measure => omega
        case rel => exact ⟨k + 1, by omega, rfl, by go_num, HO, HB2⟩
      · have hkn : k = n := by omega
        have HKN := hid hkn
        clear hkn
        go_wp2_with fail
        go_ret
        exact FIN.out k _ _ HKN.out hown.out hbw.out
  · have d1 : (r.kind == 1) = false := beq_eq_false_iff_ne.2 (by omega)
    have d3 : (r.kind == 3) = false := beq_eq_false_iff_ne.2 (by omega)
    have d2 : (r.kind == 2) = false := beq_eq_false_iff_ne.2 (by omega)
    subst hn1
    clear hk1 hk2 hk3 HK
    go_enter Tryz.func58, Tryz.ntmps58
    go_wp2_with fail
    clear c0 c3 c5 hW
    go_loopg [4, 16] (0) (fun g v i wr => ∃ k : Nat, k ≤ 0 ∧ g = 0 - k ∧ i = .int .i64 k ∧ Hid (wr.ownsRow W.heap.size 3 1 v k (ints ((List.range k).map fun (i : Nat) => 10 * r.id + (i : Int)))) ∧ Hid (Below W.heap.size W wr))
    case atStart => exact ⟨0, by omega, by omega, rfl, hid (World.ownsRow_nil _ _ _ _), hid (Below.refl _ _)⟩
    case round =>
      obtain ⟨k, hk, hgk, rfl, hown, hbw⟩ := hrel
      have x0 := (Kept.of_below hbw.out) _ _ C0.out
      by_cases hlt : k < 0
      · exact absurd hlt (by omega)
      · have hkn : k = 0 := by omega
        have HKN := hid hkn
        clear hkn
        go_wp2_with fail
        go_ret
        exact FIN.out k _ _ HKN.out hown.out hbw.out
set_option maxHeartbeats 4000000 in
theorem names_any (r : Rep) (A : Option Addr) (c : Nat) (p : Int) (w : World) (hr : r.Wf) (hp : r.parts.length ≤ 100) (hA : IntsAt w A r.parts) :
    Calls Tryz.prog 144 #[r.val A c, .int .i64 p] w fun e w' => e = .returned (.bool (decide (r.names p))) ∧ Below w.heap.size w w' := by
  obtain ⟨W, hW, hbx, hbW, hz⟩ := boxC r A c w
  have HBX := hid hbx
  clear hbx
  have HBW := hid hbW
  have HAW := hid (hA.kept (Kept.of_below hbW))
  have HWF := hid hr
  clear hbW hz hA hr
  have HTO := hid (touches_own r A c W hp HAW.out)
  have HMK := fun w => makes_own r A c w HWF.out
  have HMK := hid HMK
  have htl : r.touches.length ≤ 102 := by
    have := List.length_filter_le (fun p => decide (0 < p)) ([r.parcel, r.other] ++ r.parts)
    simp at this
    unfold Rep.touches
    simp
    omega
  rcases ht : decide (p ∈ r.touches) with _ | _
  · rcases hm : decide (p ∈ r.makes) with _ | _
    all_goals
      have hn : decide (r.names p) = decide (p ∈ r.makes) := by
        unfold Rep.names
        simp [of_decide_eq_false ht]
      rw [hn, hm]
      have HT := hid ht
      have HM := hid hm
      clear ht hm hn
      go_enter Tryz.func144, Tryz.ntmps144
      go_wp2_with (refine load_rep rfl _ rfl _ rfl HBX.out ?_)
      refine HTO.out.mono ?_
      rintro e w1 ⟨v, rfl, ho, hb⟩
      obtain ⟨A1, k1, rfl, hx⟩ := ownsRow.form ho
      clear hx
      have HI := hid (ownsRow_ints ho)
      have HB := hid (HBW.out.trans (hb.mono HBW.out.size))
      have HBX1 := hid (HBX.out.below hb)
      clear ho hb hW
      go_wp2_with fail
      refine (contains_t A1 k1 r.touches p w1 (by omega) HI.out HT.out).mono ?_
      rintro e w2 ⟨rfl, rfl⟩
      go_wp2_with (first | refine load_rep rfl _ rfl _ rfl HBX1.out ?_ | refine load_rep_g rfl _ rfl _ rfl HBX1.out ?_)
      refine (HMK.out w1).mono ?_
      rintro e w3 ⟨v3, rfl, ho3, hb3⟩
      obtain ⟨A3, k3, rfl, hx⟩ := ownsRow.form ho3
      clear hx
      have HI3 := hid (ownsRow_ints ho3)
      have HB3 := hid (HB.out.trans (hb3.mono HB.out.size))
      have hml : r.makes.length ≤ 8 := by rw [r.makes_eq]; simpa using HWF.out.many
      clear ho3 hb3
      go_wp2_with fail
      refine (contains_t A3 k3 r.makes p w3 (by omega) HI3.out HM.out).mono ?_
      rintro e w4 ⟨rfl, rfl⟩
      go_wp2_with fail
      go_ret
      exact ⟨rfl, HB3.out⟩
  · have hn : decide (r.names p) = true := by
      unfold Rep.names
      exact decide_eq_true (.inl (of_decide_eq_true ht))
    rw [hn]
    have HT := hid ht
    clear ht hn
    go_enter Tryz.func144, Tryz.ntmps144
    go_wp2_with (refine load_rep rfl _ rfl _ rfl HBX.out ?_)
    refine HTO.out.mono ?_
    rintro e w1 ⟨v, rfl, ho, hb⟩
    obtain ⟨A1, k1, rfl, hx⟩ := ownsRow.form ho
    clear hx
    have HI := hid (ownsRow_ints ho)
    have HB := hid (HBW.out.trans (hb.mono HBW.out.size))
    clear ho hb hW
    go_wp2_with fail
    refine (contains_t A1 k1 r.touches p w1 (by omega) HI.out HT.out).mono ?_
    rintro e w2 ⟨rfl, rfl⟩
    go_wp2_with fail
    go_ret
    exact ⟨rfl, HB.out⟩
set_option maxHeartbeats 2000000 in
theorem eqInts_any (A B : Option Addr) (c d : Nat) (xs ys : List Int) (w : World) (hm : xs.length ≤ 1000000) (hm2 : ys.length ≤ 1000000) (hA : IntsAt w A xs) (hB : IntsAt w B ys) :
    Calls Tryz.prog 179 #[.slice A xs.length c, .slice B ys.length d] w fun e w' => e = .returned (.bool (decide (xs = ys))) ∧ Below w.heap.size w w' := by
  have HA := hid hA
  have HB := hid hB
  clear hA hB
  by_cases hl : xs.length = ys.length
  case neg =>
    have d1 : ((xs.length : Int) != ys.length) = true := bne_iff_ne.2 (by omega)
    have e : decide (xs = ys) = false := decide_eq_false (fun e => hl (by rw [e]))
    rw [e]
    clear hl e
    go_enter Tryz.func179, Tryz.ntmps179
    go_wp2_with fail
    go_ret
    exact ⟨rfl, Below.refl _ _⟩
  have d1 : ((xs.length : Int) != ys.length) = false := by rw [bne_eq_false_iff_eq]; omega
  have HL := hid hl
  clear hl
  go_enter Tryz.func179, Tryz.ntmps179
  go_wp2_with fail
  clear d1
  go_loopg [13] (xs.length) (fun g i wr => ∃ k : Nat, k ≤ xs.length ∧ g = xs.length - k ∧ i = .int .i64 k ∧ Hid (∀ j, j < k → xs[j]? = ys[j]?) ∧ Hid (Below w.heap.size w wr))
  case atStart => exact ⟨0, by omega, by omega, rfl, hid (fun j h => by omega), hid (Below.refl _ _)⟩
  case round =>
    obtain ⟨k, hk, hgk, rfl, hsame, hbw⟩ := hrel
    by_cases hlt : k < xs.length
    · have hlt2 : k < ys.length := by have := HL.out; omega
      obtain ⟨b, off, rfl, hc⟩ := (HA.out.kept (Kept.of_below hbw.out)) (by omega)
      obtain ⟨b2, off2, rfl, hc2⟩ := (HB.out.kept (Kept.of_below hbw.out)) (by omega)
      have hck := hc k hlt
      have hck2 := hc2 k hlt2
      have i0 : (0 : Int) ≤ k := by omega
      have i1 : (k : Int) < xs.length := by omega
      have i2 : (k : Int) < ys.length := by omega
      obtain ⟨x, hx⟩ : ∃ x, xs[k] = x := ⟨_, rfl⟩
      obtain ⟨y, hy⟩ : ∃ y, ys[k] = y := ⟨_, rfl⟩
      rw [hx] at hck
      rw [hy] at hck2
      have HX := hid hx
      have HY := hid hy
      clear hc hc2 hx hy
      rcases he : (x != y) with _ | _
      · have HE : Hid (x = y) := hid (by simpa using he)
        go_wp2_with fail
        go_quiet (fail)
        go_wp2_with fail
        go_roundg (xs.length - (k + 1))
        case measure => omega
        case rel => exact ⟨k + 1, by omega, rfl, by go_num, hid (fun j hj => by
          rcases Nat.lt_or_ge j k with h | h
          · exact hsame.out j h
          · obtain rfl : j = k := by omega
            rw [List.getElem?_eq_getElem hlt, List.getElem?_eq_getElem hlt2, HX.out, HY.out, HE.out]), hid (Below.drewN' hbw.out _)⟩
      · have HE : Hid (x ≠ y) := hid (by simpa using he)
        go_wp2_with fail
        go_quiet (fail)
        go_wp2_with fail
        go_ret
        refine ⟨ret_bool ?_, Below.drewN' hbw.out _⟩
        symm
        refine decide_eq_false fun e => HE.out ?_
        subst e
        rw [← HX.out, ← HY.out]
    · obtain rfl : k = xs.length := by omega
      go_wp2_with fail
      go_ret
      refine ⟨ret_bool ?_, hbw.out⟩
      symm
      refine decide_eq_true (List.ext_getElem? fun j => ?_)
      rcases Nat.lt_or_ge j xs.length with h | h
      · exact hsame.out j h
      · rw [List.getElem?_eq_none h, List.getElem?_eq_none (by have := HL.out; omega)]
theorem eqInts_t (A B : Option Addr) (c d : Nat) (xs ys : List Int) (w : World) (hm : xs.length ≤ 1000000) (hm2 : ys.length ≤ 1000000) (hA : IntsAt w A xs) (hB : IntsAt w B ys) {t : Bool} (ht : decide (xs = ys) = t) :
    Calls Tryz.prog 179 #[.slice A xs.length c, .slice B ys.length d] w fun e w' => e = .returned (.bool t) ∧ Below w.heap.size w w' := by
  subst ht
  exact eqInts_any A B c d xs ys w hm hm2 hA hB
end Go.Proofs.YtfaoillnakhejaaGreat
