/- Rows that a call makes itself: append from any source, and what such a row reads as. -/
import Derived.Test.YtpmdjbjnihhjeaaBoard
import Derived.Laws.AppendOwn
namespace Go.Proofs.Ytpmdjbjnihhjeaa
open Go.RowKit

/-- A slice that starts at A holds the cells us. -/
def CellsAt (w : World) (A : Option Addr) (us : List Value) : Prop :=
  0 < us.length → ∃ b off, A = some ⟨b, off, none⟩ ∧ ∀ j u, us[j]? = some u → w.cell? ⟨b, off + j, none⟩ = some u

theorem CellsAt.kept {w w' : World} {A : Option Addr} {us : List Value} (h : CellsAt w A us) (k : Kept w w') : CellsAt w' A us := fun h0 => by
  obtain ⟨b, off, e, hc⟩ := h h0
  exact ⟨b, off, e, fun j u hj => k _ _ (hc j u hj)⟩

def ints (xs : List Int) : List Value := xs.map (Value.int .i64)
theorem ints_length (xs : List Int) : (ints xs).length = xs.length := by simp [ints]
theorem ints_append (xs ys : List Int) : ints (xs ++ ys) = ints xs ++ ints ys := by simp [ints]

theorem IntsAt.cells {w : World} {A : Option Addr} {xs : List Int} (h : IntsAt w A xs) : CellsAt w A (ints xs) := fun h0 => by
  obtain ⟨b, off, e, hc⟩ := h (by simpa [ints] using h0)
  refine ⟨b, off, e, fun j u hj => ?_⟩
  simp only [ints, List.getElem?_map, Option.map_eq_some_iff] at hj
  obtain ⟨x, hx, rfl⟩ := hj
  obtain ⟨hlt, rfl⟩ := List.getElem?_eq_some_iff.1 hx
  exact hc j hlt
theorem CellsAt.ints {w : World} {A : Option Addr} {xs : List Int} (h : CellsAt w A (ints xs)) : IntsAt w A xs := fun h0 => by
  obtain ⟨b, off, e, hc⟩ := h (by simpa [Ytpmdjbjnihhjeaa.ints] using h0)
  exact ⟨b, off, e, fun j hj => hc j _ (by simp [Ytpmdjbjnihhjeaa.ints, hj])⟩

theorem add_lit (b off j : Nat) : (⟨b, off, none⟩ : Addr).add j = ⟨b, off + j, none⟩ := by
  unfold Addr.add
  split <;> simp_all

section
variable {P : Program} {w w' : World} {base : Nat} {e : TypeId} {size n : Nat} {v : Value} {us : List Value}

theorem run_app {t : TypeId} (ty : TypeId) {i : TypeInfo} {z : Value} {bytes : Nat} (ht : P.underlying t = some (.slice e)) (hi : P.info? e = some i) (hz : i.zero = some z)
    (hsize : i.size = size) (hby : i.bytes = bytes) (hzs : z.cells.size = size) (hsz : 0 < size)
    (hown : w.ownsRow base e size v n us) {A : Option Addr} {m c : Nat} {news : List Value} (hl : news.length = m * size) (hsrc : CellsAt w A news) (h1 : ∀ u ∈ news, u.oneCell' = true)
    (h63 : n + m ≤ maxLen) (hbytes : (n + m) * bytes ≤ 140737488355328) (hbase : base ≤ w.heap.size) :
    ∃ v' w', (Builtin.append_ #[t, t] ty #[v, .slice A m c]).run P w = .ok v' w' ∧ w'.ownsRow base e size v' (n + m) (us ++ news) ∧ w.grownBy w' v.ownBlock := by
  cases A with
  | none =>
    have hm : m = 0 := by
      rcases Nat.eq_zero_or_pos m with h | h
      · exact h
      · obtain ⟨_, _, h2, _⟩ := hsrc (by rw [hl]; exact Nat.mul_pos h hsz)
        cases h2
    subst hm
    have hn : news = [] := List.eq_nil_of_length_eq_zero (by simpa using hl)
    subst hn
    refine ⟨v, w, ?_, by simpa using hown, ⟨rfl, rfl, rfl, Nat.le_refl _, fun _ _ _ => rfl⟩⟩
    rcases hown.2 with ⟨rfl, rfl⟩ | ⟨g, cap, cur, rfl, _, _, hnc, _⟩
    · simp [Builtin.append_, run_underlying ht, sizeOf, typeInfo, hi, Builtin.lenOf, Builtin.firstCells]
    · simp [Builtin.append_, run_underlying ht, sizeOf, typeInfo, hi, Builtin.lenOf, Builtin.firstCells, hnc, storeCells]
  | some a =>
    have hcells : ∀ j u, news[j]? = some u → w.cell? (a.add j) = some u := fun j u hj => by
      obtain ⟨b, off, h2, hc⟩ := hsrc (by have := (List.getElem?_eq_some_iff.1 hj).1; omega)
      cases h2
      rw [add_lit]
      exact hc j u hj
    obtain ⟨v', w', h2, h3, h4, _⟩ := run_append_own (P := P) w base t ty e i z size bytes ht hi hz hsize hby hzs hsz v n us hown a m c news hl hcells h1 h63 hbytes hbase
    exact ⟨v', w', h2, h3, h4⟩

theorem ownsRow.form (h : w.ownsRow base e size v n us) : ∃ A cap, v = .slice A n cap ∧ CellsAt w A us ∧ n ≤ cap ∧ (∀ a, A = some a → base ≤ a.block ∧ a = ⟨a.block, 0, none⟩ ∧ w.frozen? ⟨a.block, 0, none⟩ = false) := by
  rcases h.2 with ⟨rfl, rfl⟩ | ⟨g, cap, cur, rfl, hbg, hg, hnc, _, _, ht⟩
  · have : us = [] := List.eq_nil_of_length_eq_zero (by simpa using h.1)
    subst this
    exact ⟨none, 0, rfl, fun h => absurd h (by simp), Nat.le_refl _, by intro a h; cases h⟩
  · refine ⟨some ⟨g, 0, none⟩, cap, rfl, fun _ => ⟨g, 0, rfl, fun j u hj => ?_⟩, hnc, ?_⟩
    · have := h.cells (g := g) rfl j u hj
      rwa [add_lit] at this
    · rintro a h; cases h
      exact ⟨hbg, rfl, by simp [World.frozen?, hg]⟩

/-- The own row as a list of numbers. -/
theorem ownsRow.ints {xs : List Int} (h : w.ownsRow base e size v n (ints xs)) : ∃ A cap, v = .slice A n cap ∧ IntsAt w A xs := by
  obtain ⟨A, cap, hv, hc, _⟩ := ownsRow.form h
  exact ⟨A, cap, hv, hc.ints⟩

theorem Below.of_grown {B : Nat} {row : Option Nat} (hg : w.grownBy w' row) (hB : B ≤ w.heap.size) (hr : ∀ k, row = some k → B ≤ k) : Below B w w' := (Below.refl B w).grown hg hB hr
end

theorem ints_info : ∃ i, Try.prog.info? 3 = some i ∧ i.zero = some (.int .i64 0) ∧ i.size = 1 ∧ i.bytes = 8 := by
  have h : (Try.prog.info? 3).map (fun i => (i.zero, i.size, i.bytes)) = some (some (.int .i64 0), 1, 8) := by kernel_rfl
  obtain ⟨i, h1, h2, h3, h4⟩ := info_parts h
  exact ⟨i, h1, h2, h3, h4⟩
theorem intsl_u : Try.prog.underlying 22 = some (.slice 3) := by kernel_rfl

/-- append of numbers to a row of the call's own -/
theorem app_ints {w : World} {base : Nat} {v : Value} {xs ys : List Int} {A : Option Addr} {c : Nat} (hown : w.ownsRow base 3 1 v xs.length (ints xs)) (hsrc : IntsAt w A ys) (hsz : xs.length + ys.length ≤ 1000000) (hbase : base ≤ w.heap.size) :
    ∃ v' w', (Builtin.append_ #[22, 22] 22 #[v, .slice A ys.length c]).run Try.prog w = .ok v' w' ∧ w'.ownsRow base 3 1 v' (xs ++ ys).length (ints (xs ++ ys)) ∧ w.grownBy w' v.ownBlock := by
  obtain ⟨i, h1, h2, h3, h4⟩ := ints_info
  obtain ⟨v', w', hr, ho, hg⟩ := run_app (P := Try.prog) 22 (bytes := 8) (c := c) intsl_u h1 h2 h3 h4 (by rfl) (by omega) hown (m := ys.length) (by simp [ints]) hsrc.cells (by simp [ints, Value.oneCell']) (by unfold maxLen; omega) (by omega) hbase
  exact ⟨v', w', hr, by rwa [List.length_append, ints_append], hg⟩

/-- An append whose run is known. -/
theorem wpList_app {P : Program} {ops : Array Oper} {rest : List Oper} {o : Oper} {a : Act} {Q : Exit → Act → World → Prop} {s x : Operand} {t ty : TypeId} {v src v' : Value} {w w' : World} (hgd : o.guard = none)
    (ho : o.op = .call { callee := .builtin .append, args := #[s, x], argTypes := #[t, t] }) (hty : o.type = ty) (hs : a.eval s = v) (hx : a.eval x = src)
    (hr : (Builtin.append_ #[t, t] ty #[v, src]).run P w = .ok v' w') (h : wpList P ops Q rest (a.put o.dst v') w') : wpList P ops Q (o :: rest) a w :=
  wpList_plain hgd fun _ hK => by
    unfold Oper.wp execOp
    subst hty
    simp only [ho, resolve, invoke, builtin, Sem.run_bind, Sem.run_pure, Result.andThen_ok, List.map_toArray, List.map_cons, List.map_nil, hs, hx, hr]
    exact hK _ _ h

theorem emptyRow (w : World) (e : TypeId) (size : Nat) : (w.alloc (.cells #[] e)).ownsRow w.heap.size e size (.slice (some ⟨w.heap.size, 0, none⟩) 0 0) 0 [] :=
  ⟨by simp, .inr ⟨w.heap.size, 0, #[], rfl, Nat.le_refl _, heap_alloc_new w _, Nat.le_refl _, Nat.zero_le _, by simp, by simp⟩⟩

set_option maxHeartbeats 1000000 in
theorem copiedInts_any (A : Option Addr) (cap : Nat) (xs : List Int) (w : World) (hm : xs.length ≤ 1000) (hA : IntsAt w A xs) :
    Calls Try.prog 88 #[.slice A xs.length cap] w fun e w' => ∃ v, e = .returned v ∧ w'.ownsRow w.heap.size 3 1 v xs.length (ints xs) ∧ Below w.heap.size w w' := by
  have hk : Kept w (w.alloc (.cells #[] 3)) := Kept.of_below ((Below.refl _ _).alloc (Nat.le_refl _) _)
  obtain ⟨v', w', hr, ho, hg⟩ := app_ints (w := w.alloc (.cells #[] 3)) (base := w.heap.size) (xs := []) (v := .slice (some ⟨w.heap.size, 0, none⟩) 0 0) (ys := xs) (A := A) (c := cap) (emptyRow w 3 1) (hA.kept hk) (by simp; omega) (by simp)
  have HO := hid ho
  have HG := hid hg
  have HR := hid hr
  clear ho hg hk hA hr
  go_enter Try.func88, Try.ntmps88
  go_wp2_with (at_builtin; refine wpList_app rfl rfl rfl rfl rfl HR.out ?_)
  go_ret
  exact ⟨v', rfl, by simpa using HO.out, ((Below.refl _ _).alloc (Nat.le_refl _) _).trans (Below.of_grown HG.out (by simp) (fun k e => by cases e; exact Nat.le_refl _))⟩

/-- The cells us are slices that hold the lists ff. -/
def FitsIn (w : World) (us : List Value) (ff : List (List Int)) : Prop :=
  us.length = ff.length ∧ ∀ j (h : j < ff.length), ∃ A c, us[j]? = some (.slice A ff[j].length c) ∧ IntsAt w A ff[j]
theorem FitsIn.kept {w w' : World} {us : List Value} {ff : List (List Int)} (h : FitsIn w us ff) (k : Kept w w') : FitsIn w' us ff :=
  ⟨h.1, fun j hj => by
    obtain ⟨A, c, h1, h2⟩ := h.2 j hj
    exact ⟨A, c, h1, h2.kept k⟩⟩
theorem FitsIn.at_ {w : World} {us : List Value} {ff : List (List Int)} {A : Option Addr} (h : FitsIn w us ff) (hc : CellsAt w A us) : FitsAt w A ff := fun h0 => by
  obtain ⟨b, off, e, hcell⟩ := hc (by rw [h.1]; exact h0)
  refine ⟨b, off, e, fun j hj => ?_⟩
  obtain ⟨Aj, cj, h1, h2⟩ := h.2 j hj
  exact ⟨Aj, cj, hcell j _ h1, h2⟩
theorem FitsAt.cells {w : World} {A : Option Addr} {ff : List (List Int)} (h : FitsAt w A ff) : ∃ us, FitsIn w us ff ∧ CellsAt w A us ∧ ∀ u ∈ us, u.oneCell' = true := by
  by_cases h0 : 0 < ff.length
  · obtain ⟨b, off, e, hc⟩ := h h0
    have hall : ∀ j : Fin ff.length, ∃ u, w.cell? ⟨b, off + j, none⟩ = some u ∧ ∃ A c, u = .slice A ff[j].length c ∧ IntsAt w A ff[j] := fun j => by
      obtain ⟨Aj, cj, h1, h2⟩ := hc j j.2
      exact ⟨_, h1, Aj, cj, rfl, h2⟩
    obtain ⟨f, hf⟩ := Classical.axiomOfChoice hall
    refine ⟨List.ofFn f, ⟨by simp, fun j hj => ?_⟩, fun _ => ⟨b, off, e, fun j u hj => ?_⟩, fun u hu => ?_⟩
    · obtain ⟨_, Aj, cj, h2, h3⟩ := hf ⟨j, hj⟩
      exact ⟨Aj, cj, by simp [hj, h2], h3⟩
    · obtain ⟨hlt, hj⟩ := List.getElem?_eq_some_iff.1 hj
      simp only [List.length_ofFn] at hlt
      rw [List.getElem_ofFn] at hj
      rw [← hj]
      exact (hf ⟨j, hlt⟩).1
    · obtain ⟨i, rfl⟩ := List.mem_ofFn.1 hu
      obtain ⟨_, Aj, cj, h2, _⟩ := hf i
      rw [h2]
      rfl
  · have : ff = [] := List.eq_nil_of_length_eq_zero (by omega)
    subst this
    exact ⟨[], ⟨rfl, fun j hj => absurd hj (by simp)⟩, fun h => absurd h (by simp), by simp⟩

theorem fitsl_info : ∃ i, Try.prog.info? 22 = some i ∧ i.zero = some (.slice none 0 0) ∧ i.size = 1 ∧ i.bytes = 24 := by
  have h : (Try.prog.info? 22).map (fun i => (i.zero, i.size, i.bytes)) = some (some (.slice none 0 0), 1, 24) := by kernel_rfl
  obtain ⟨i, h1, h2, h3, h4⟩ := info_parts h
  exact ⟨i, h1, h2, h3, h4⟩
theorem fitsl_u : Try.prog.underlying 24 = some (.slice 22) := by kernel_rfl
theorem slots_info : ∃ i, Try.prog.info? 50 = some i ∧ i.zero = some (.agg #[.int .i64 0, .int .i64 0, .int .i64 0]) ∧ i.size = 3 ∧ i.bytes = 24 := by
  have h : (Try.prog.info? 50).map (fun i => (i.zero, i.size, i.bytes)) = some (some (.agg #[.int .i64 0, .int .i64 0, .int .i64 0]), 3, 24) := by kernel_rfl
  obtain ⟨i, h1, h2, h3, h4⟩ := info_parts h
  exact ⟨i, h1, h2, h3, h4⟩
theorem slotsl_u : Try.prog.underlying 23 = some (.slice 50) := by kernel_rfl

theorem app_fits {w : World} {base n m : Nat} {v : Value} {us vs : List Value} {A : Option Addr} {c : Nat} (hown : w.ownsRow base 22 1 v n us) (hl : vs.length = m) (hsrc : CellsAt w A vs) (h1 : ∀ u ∈ vs, u.oneCell' = true) (hsz : n + m ≤ 1000000) (hbase : base ≤ w.heap.size) :
    ∃ v' w', (Builtin.append_ #[24, 24] 24 #[v, .slice A m c]).run Try.prog w = .ok v' w' ∧ w'.ownsRow base 22 1 v' (n + m) (us ++ vs) ∧ w.grownBy w' v.ownBlock := by
  obtain ⟨i, i1, i2, i3, i4⟩ := fitsl_info
  exact run_app (P := Try.prog) 24 (bytes := 24) (c := c) fitsl_u i1 i2 i3 i4 (by rfl) (by omega) hown (m := m) (by simp [hl]) hsrc h1 (by unfold maxLen; omega) (by omega) hbase

theorem app_slots {w : World} {base n m : Nat} {v : Value} {us vs : List Value} {A : Option Addr} {c : Nat} (hown : w.ownsRow base 50 3 v n us) (hl : vs.length = m * 3) (hsrc : CellsAt w A vs) (h1 : ∀ u ∈ vs, u.oneCell' = true) (hsz : n + m ≤ 1000000) (hbase : base ≤ w.heap.size) :
    ∃ v' w', (Builtin.append_ #[23, 23] 23 #[v, .slice A m c]).run Try.prog w = .ok v' w' ∧ w'.ownsRow base 50 3 v' (n + m) (us ++ vs) ∧ w.grownBy w' v.ownBlock := by
  obtain ⟨i, i1, i2, i3, i4⟩ := slots_info
  exact run_app (P := Try.prog) 23 (bytes := 24) (c := c) slotsl_u i1 i2 i3 i4 (by rfl) (by omega) hown (m := m) hl hsrc h1 (by unfold maxLen; omega) (by omega) hbase

set_option maxHeartbeats 1000000 in
theorem copiedFits_any (A : Option Addr) (cap n : Nat) (us : List Value) (w : World) (hn : us.length = n) (hm : n ≤ 1000) (hA : CellsAt w A us) (h1 : ∀ u ∈ us, u.oneCell' = true) :
    Calls Try.prog 53 #[.slice A n cap] w fun e w' => ∃ v, e = .returned v ∧ w'.ownsRow w.heap.size 22 1 v n us ∧ Below w.heap.size w w' := by
  have hk : Kept w (w.alloc (.cells #[] 22)) := Kept.of_below ((Below.refl _ _).alloc (Nat.le_refl _) _)
  obtain ⟨v', w', hr, ho, hg⟩ := app_fits (w := w.alloc (.cells #[] 22)) (base := w.heap.size) (n := 0) (us := []) (v := .slice (some ⟨w.heap.size, 0, none⟩) 0 0) (vs := us) (A := A) (c := cap) (emptyRow w 22 1) hn (hA.kept hk) h1 (by omega) (by simp)
  have HO := hid ho
  have HG := hid hg
  have HR := hid hr
  clear ho hg hk hA hr h1 hn
  go_enter Try.func53, Try.ntmps53
  go_wp2_with (at_builtin; refine wpList_app rfl rfl rfl rfl rfl HR.out ?_)
  go_ret
  exact ⟨v', rfl, by simpa using HO.out, ((Below.refl _ _).alloc (Nat.le_refl _) _).trans (Below.of_grown HG.out (by simp) (fun k e => by cases e; exact Nat.le_refl _))⟩

def slotCells (ss : List Slot) : List Value := ss.flatMap fun s => [.int .i64 s.loss, .int .i64 s.pack, .int .i64 s.pieces]
theorem slotCells_length (ss : List Slot) : (slotCells ss).length = ss.length * 3 := by
  induction ss with
  | nil => rfl
  | cons s ss ih => simp only [slotCells, List.flatMap_cons, List.length_append, List.length_cons, List.length_nil] at ih ⊢; omega
theorem slotCells_get : ∀ (ss : List Slot) (j : Nat) (h : j < ss.length), (slotCells ss)[j * 3]? = some (.int .i64 ss[j].loss) ∧ (slotCells ss)[j * 3 + 1]? = some (.int .i64 ss[j].pack) ∧ (slotCells ss)[j * 3 + 2]? = some (.int .i64 ss[j].pieces)
  | [], _, h => absurd h (by simp)
  | s :: ss, 0, _ => by simp [slotCells]
  | s :: ss, j + 1, h => by
    have := slotCells_get ss j (by simpa using h)
    simp only [slotCells, List.flatMap_cons] at this ⊢
    rw [show (j + 1) * 3 = j * 3 + 3 from by omega]
    simpa using this
theorem SlotsAt.cells {w : World} {A : Option Addr} {ss : List Slot} (h : SlotsAt w A ss) : CellsAt w A (slotCells ss) := fun h0 => by
  rw [slotCells_length] at h0
  obtain ⟨b, off, e, hc⟩ := h (by omega)
  refine ⟨b, off, e, fun j u hj => ?_⟩
  have hlt := (List.getElem?_eq_some_iff.1 hj).1
  rw [slotCells_length] at hlt
  have hq : j / 3 < ss.length := by omega
  obtain ⟨g0, g1, g2⟩ := slotCells_get ss (j / 3) hq
  obtain ⟨c0, c1, c2⟩ := hc (j / 3) hq
  have hr : j % 3 = 0 ∨ j % 3 = 1 ∨ j % 3 = 2 := by omega
  rcases hr with hr | hr | hr
  · rw [show j = j / 3 * 3 from by omega] at hj ⊢
    rw [g0] at hj; cases hj; exact c0
  · rw [show j = j / 3 * 3 + 1 from by omega] at hj ⊢
    rw [g1] at hj; cases hj; exact c1
  · rw [show j = j / 3 * 3 + 2 from by omega] at hj ⊢
    rw [g2] at hj; cases hj; exact c2
theorem CellsAt.slots {w : World} {A : Option Addr} {ss : List Slot} (h : CellsAt w A (slotCells ss)) : SlotsAt w A ss := fun h0 => by
  obtain ⟨b, off, e, hc⟩ := h (by rw [slotCells_length]; omega)
  refine ⟨b, off, e, fun j hj => ?_⟩
  obtain ⟨g0, g1, g2⟩ := slotCells_get ss j hj
  exact ⟨hc _ _ g0, hc _ _ g1, hc _ _ g2⟩

set_option maxHeartbeats 1000000 in
theorem copiedSlots_any (A : Option Addr) (cap : Nat) (ss : List Slot) (w : World) (hm : ss.length ≤ 1000) (hA : SlotsAt w A ss) :
    Calls Try.prog 92 #[.slice A ss.length cap] w fun e w' => ∃ v, e = .returned v ∧ w'.ownsRow w.heap.size 50 3 v ss.length (slotCells ss) ∧ Below w.heap.size w w' := by
  have hk : Kept w (w.alloc (.cells #[] 50)) := Kept.of_below ((Below.refl _ _).alloc (Nat.le_refl _) _)
  obtain ⟨v', w', hr, ho, hg⟩ := app_slots (w := w.alloc (.cells #[] 50)) (base := w.heap.size) (n := 0) (us := []) (v := .slice (some ⟨w.heap.size, 0, none⟩) 0 0) (m := ss.length) (vs := slotCells ss) (A := A) (c := cap) (emptyRow w 50 3) (slotCells_length ss) (hA.cells.kept hk)
    (by intro u hu; simp only [slotCells, List.mem_flatMap, List.mem_cons, List.not_mem_nil, or_false] at hu; obtain ⟨s, _, rfl | rfl | rfl⟩ := hu <;> rfl) (by omega) (by simp)
  have HO := hid ho
  have HG := hid hg
  have HR := hid hr
  clear ho hg hk hA hr
  go_enter Try.func92, Try.ntmps92
  go_wp2_with (at_builtin; refine wpList_app rfl rfl rfl rfl rfl HR.out ?_)
  go_ret
  exact ⟨v', rfl, by simpa using HO.out, ((Below.refl _ _).alloc (Nat.le_refl _) _).trans (Below.of_grown HG.out (by simp) (fun k e => by cases e; exact Nat.le_refl _))⟩
end Go.Proofs.Ytpmdjbjnihhjeaa
