/- Maps by numbers that a call makes: what a look-up and a store do; what such a map says of each key. -/
import Derived.Test.YtfaoillnakhejaaGreatG3
import Derived.Maps.Keyed
import Derived.Maps.Own
import Derived.Deep.MidRow
import Derived.Maps.RangeRun
namespace Go.Proofs.YtfaoillnakhejaaGreat
set_option maxRecDepth 100000
section
open Go.RowKit
def look {κ β : Type} [DecidableEq κ] (a : κ) : List (κ × β) → Nat → Option (Nat × β)
  | [], _ => none
  | p :: m, i => if a = p.1 then some (i, p.2) else look a m (i + 1)
/-- Values of key type kt that encode κ: checked, found and kept as Go does. -/
structure KeyFits (P : Program) (kt : TypeId) {κ : Type} [DecidableEq κ] (ek : κ → Value) : Prop where
  check : ∀ (w : World) (em : Bool) (a : κ), (Instr.checkKey em 10000 kt (ek a)).run P w = .ok () w
  find : ∀ {β : Type} (ev : β → Value) (w : World) (a : κ) (m : List (κ × β)) (es : List MapEntry), es.map (fun e => (e.key, e.val)) = m.map (fun p => (ek p.1, ev p.2)) →
    (Instr.findKey kt (ek a) es).run P w = .ok ((look a m 0).map fun p => (p.1, ev p.2)) w
  stays : ∀ (w : World) (a : κ), (Instr.keyThatStays (ek a) (ek a)).run P w = .ok (ek a) w
/-- The entries bear stamps of their own, each below the clock. -/
def Borns (es : Array MapEntry) (clock : Nat) : Prop := (∀ b ∈ es.toList.map (·.born), b < clock) ∧ (es.toList.map (·.born)).Nodup
/-- Block r is a map that holds m, its keys all different, under the encodings. -/
def MapAt {κ β : Type} (w : World) (r : Nat) (ek : κ → Value) (ev : β → Value) (m : List (κ × β)) : Prop :=
  ∃ es clock, w.heap[r]? = some (.map es clock) ∧ es.toList.map (fun e => (e.key, e.val)) = m.map (fun p => (ek p.1, ev p.2)) ∧ Borns es clock
section
set_option linter.unusedSectionVars false
variable {P : Program} {κ β : Type} [DecidableEq κ] {kt et t : TypeId} {ek : κ → Value} {ev : β → Value} {w w' : World} {r : Nat} {m : List (κ × β)}
theorem MapAt.new (w : World) : MapAt (w.alloc (.map #[] 0)) w.heap.size ek ev ([] : List (κ × β)) := ⟨#[], 0, heap_alloc_new w _, rfl, by simp [Borns]⟩
theorem MapAt.lt (h : MapAt w r ek ev m) : r < w.heap.size := by
  obtain ⟨es, c, h1, _⟩ := h
  exact (Array.getElem?_eq_some_iff.1 h1).1
theorem MapAt.same (h : MapAt w r ek ev m) (hh : w'.heap[r]? = w.heap[r]?) : MapAt w' r ek ev m := by
  obtain ⟨es, c, h1, h2⟩ := h
  exact ⟨es, c, hh.trans h1, h2⟩
theorem MapAt.below (h : MapAt w r ek ev m) (hb : Below w.heap.size w w') : MapAt w' r ek ev m := h.same (hb.block r h.lt)
def found (z : Value) (ev : β → Value) : Option (Nat × β) → Value
  | some p => ev p.2
  | none => z
theorem run_look (K : KeyFits P kt ek) (ht : P.underlying t = some (.map kt et)) (z : Value) (hz : (zeroValue et).run P w = .ok z w) (h : MapAt w r ek ev m) (a : κ) :
    (Instr.lookup t (.map (some r)) (ek a) false).run P w = .ok (found z ev (look a m 0)) w := by
  obtain ⟨es, c, h1, h2, _⟩ := h
  have hf := K.find ev w a m es.toList h2
  unfold Instr.lookup
  simp only [Sem.run_bind, run_underlying ht, Result.andThen_ok]
  cases hl : look a m 0 with
  | none => simp [found, getObj, Sem.run, h1, K.check, hf, hl, hz, Sem.run_bind]
  | some p => simp [found, getObj, Sem.run, h1, K.check, hf, hl, Sem.run_bind]
theorem look_lt (a : κ) : ∀ (m : List (κ × β)) (i j : Nat) (v : β), look a m i = some (j, v) → i ≤ j ∧ j < i + m.length ∧ m[j - i]? = some (a, v)
  | [], _, _, _, h => by simp [look] at h
  | p :: m, i, j, v, h => by
    unfold look at h
    split at h
    · rename_i e
      simp only [Option.some.injEq, Prod.mk.injEq] at h
      obtain ⟨rfl, rfl⟩ := h
      exact ⟨Nat.le_refl _, by simp, by simp [e]⟩
    · obtain ⟨h1, h2, h3⟩ := look_lt a m (i + 1) j v h
      refine ⟨by omega, by simp; omega, ?_⟩
      rw [show j - i = (j - (i + 1)) + 1 from by omega]
      simpa using h3
/-- What a store makes of what the map holds. -/
def store (m : List (κ × β)) (a : κ) (v : β) : List (κ × β) :=
  match look a m 0 with
  | some (i, _) => m.set i (a, v)
  | none => m ++ [(a, v)]
theorem run_store (K : KeyFits P kt ek) (ht : P.underlying t = some (.map kt et)) (h : MapAt w r ek ev m) (a : κ) (v : β) :
    ∃ w', (Instr.mapUpdate t (.map (some r)) (ek a) (ev v)).run P w = .ok () w' ∧ MapAt w' r ek ev (store m a v) ∧ w.grownBy w' (some r) := by
  obtain ⟨es, c, h1, h2, h7, h8⟩ := h
  have hr : r < w.heap.size := (Array.getElem?_eq_some_iff.1 h1).1
  have hf := K.find ev w a m es.toList h2
  have hput : ∀ o : Obj, w.grownBy { w with heap := w.heap.setIfInBounds r o } (some r) := fun o =>
    ⟨rfl, rfl, rfl, by simp, fun k _ hk => by
      show (w.heap.setIfInBounds r o)[k]? = _
      rw [Array.getElem?_setIfInBounds]
      split
      · rename_i e; exact absurd (by rw [e]) hk
      · rfl⟩
  have hnew : ∀ o : Obj, ({ w with heap := w.heap.setIfInBounds r o } : World).heap[r]? = some o := fun o => by simp [hr]
  cases hl : look a m 0 with
  | none =>
    refine ⟨{ w with heap := w.heap.setIfInBounds r (.map (es.push { key := ek a, val := ev v, born := c }) (c + 1)) }, ?_, ⟨_, _, hnew _, ?_, ?_⟩, hput _⟩
    · unfold Instr.mapUpdate
      simp only [Sem.run_bind, run_underlying ht, Result.andThen_ok]
      simp [getObj, setObj, Sem.run, h1, K.check, hf, hl, Sem.run_bind]
    · simp [store, hl, h2]
    · unfold Borns
      simp only [Array.toList_push, List.map_append, List.map_cons, List.map_nil]
      refine ⟨fun b hb => ?_, ?_⟩
      · rcases List.mem_append.1 hb with hb | hb
        · exact Nat.lt_succ_of_lt (h7 b hb)
        · rw [List.mem_singleton] at hb
          subst hb
          exact Nat.lt_succ_self _
      · rw [List.nodup_append]
        refine ⟨h8, by simp, fun a ha b hb e => ?_⟩
        rw [List.mem_singleton] at hb
        have := h7 a ha
        omega
  | some p =>
    obtain ⟨i, v0⟩ := p
    obtain ⟨_, h4, h5⟩ := look_lt a m 0 i v0 hl
    have hil : i < es.size := by have := congrArg List.length h2; simp at this; omega
    have hk : es[i].key = ek a := by
      have h6 := congrArg (fun l => l[i]?) h2
      simp only [List.getElem?_map] at h6
      rw [show m[i]? = some (a, v0) from by simpa using h5] at h6
      simp [hil] at h6
      exact h6.1
    refine ⟨{ w with heap := w.heap.setIfInBounds r (.map (es.modify i fun e => { e with key := ek a, val := ev v }) c) }, ?_, ⟨_, _, hnew _, ?_, ?_⟩, hput _⟩
    · unfold Instr.mapUpdate
      simp only [Sem.run_bind, run_underlying ht, Result.andThen_ok]
      simp [getObj, setObj, Sem.run, h1, K.check, hf, hl, Sem.run_bind, hil, hk, K.stays]
    · simp only [store, hl]
      apply List.ext_getElem?
      intro k
      have h6 := congrArg (fun l => l[k]?) h2
      simp only [List.getElem?_map, Array.getElem?_toList] at h6 ⊢
      rw [Array.getElem?_modify, List.getElem?_set]
      by_cases hki : i = k
      · subst hki
        have him : i < m.length := by omega
        simp [hil, him]
      · simp only [hki, if_false]
        exact h6
    · have hb : (es.modify i fun e => { e with key := ek a, val := ev v }).toList.map (·.born) = es.toList.map (·.born) := by
        apply List.ext_getElem?
        intro k
        simp only [List.getElem?_map, Array.getElem?_toList, Array.getElem?_modify]
        by_cases hki : i = k
        · subst hki
          simp [hil]
        · simp [hki]
      unfold Borns
      rw [hb]
      exact ⟨h7, h8⟩
end
abbrev eI : Int → Value := Value.int .i64
theorem int_und : Tryz.prog.underlying 3 = some (.int .i64) := by kernel_rfl
theorem int_checks (w : World) (em : Bool) (a : Int) : (Instr.checkKey em 10000 3 (eI a)).run Tryz.prog w = .ok () w := by
  unfold Instr.checkKey
  simp only [Sem.run_bind, run_underlying int_und, Result.andThen_ok]
  rfl
theorem int_now {β : Type} (ev : β → Value) (a : Int) : ∀ (m : List (Int × β)) (es : List MapEntry) (i : Nat), es.map (fun e => (e.key, e.val)) = m.map (fun p => (eI p.1, ev p.2)) →
    Instr.findNow (.int .i64) (eI a) es i = some ((look a m i).map fun p => (p.1, ev p.2))
  | [], [], i, _ => by simp [Instr.findNow, look]
  | [], _ :: _, _, h => by simp at h
  | _ :: _, [], _, h => by simp at h
  | p :: m, e :: es, i, h => by
    simp only [List.map_cons, List.cons.injEq, Prod.mk.injEq] at h
    obtain ⟨⟨h1, h2⟩, h3⟩ := h
    unfold Instr.findNow
    rw [h1]
    by_cases hab : a = p.1
    · simp [Instr.sameNow, hab, look, h2]
    · have : (a == p.1) = false := by simpa using hab
      simp only [Instr.sameNow, if_true, this]
      rw [int_now ev a m es (i + 1) h3]
      simp [look, hab]
theorem int_fits : KeyFits Tryz.prog 3 eI where
  check := int_checks
  find := fun {β} ev w a m es h => by
    unfold Instr.findKey
    simp only [Sem.run_bind, run_underlying int_und, Result.andThen_ok, int_now ev a m es 0 h]
    rfl
  stays := fun w a => by
    unfold Instr.keyThatStays
    rw [show Instr.sameBits 10000 (eI a) (eI a) = true from by simp [Instr.sameBits]]
    rfl
/-- What a map says of a key. -/
def get {β : Type} (m : List (Int × β)) (p : Int) : Option β := (look p m 0).map (·.2)
theorem look_shift {β : Type} (a : Int) : ∀ (m : List (Int × β)) (i : Nat), (look a m i).map (·.2) = get m a
  | [], i => rfl
  | p :: m, i => by
    unfold get look
    by_cases h : a = p.1
    · simp [h]
    · simp only [if_neg h]
      rw [look_shift a m (i + 1), look_shift a m 1]
theorem get_nil {β : Type} (p : Int) : get ([] : List (Int × β)) p = none := rfl
theorem get_cons {β : Type} (q : Int × β) (m : List (Int × β)) (p : Int) : get (q :: m) p = if p = q.1 then some q.2 else get m p := by
  conv => lhs; unfold get look
  by_cases h : p = q.1
  · simp [h]
  · simp only [if_neg h]
    exact look_shift p m 1
theorem get_append {β : Type} (m : List (Int × β)) (p a : Int) (v : β) : get (m ++ [(a, v)]) p = (get m p).or (if p = a then some v else none) := by
  induction m with
  | nil => rw [List.nil_append, get_cons, get_nil]; simp
  | cons q m ih =>
    rw [List.cons_append, get_cons, get_cons, ih]
    by_cases h : p = q.1
    · simp [h]
    · simp [h]
theorem get_mem {β : Type} {m : List (Int × β)} {p : Int} {v : β} (h : get m p = some v) : (p, v) ∈ m := by
  induction m with
  | nil => cases h
  | cons q m ih =>
    rw [get_cons] at h
    by_cases e : p = q.1
    · rw [if_pos e] at h
      cases h
      subst e
      simp
    · rw [if_neg e] at h
      exact List.mem_cons_of_mem _ (ih h)
theorem get_none {β : Type} {m : List (Int × β)} {p : Int} : get m p = none ↔ p ∉ m.map (·.1) := by
  induction m with
  | nil => simp [get_nil]
  | cons q m ih =>
    rw [get_cons]
    by_cases e : p = q.1
    · simp [e]
    · simp [e, ih]
theorem get_of_mem {β : Type} {m : List (Int × β)} {p : Int} {v : β} (hn : (m.map (·.1)).Nodup) (h : (p, v) ∈ m) : get m p = some v := by
  induction m with
  | nil => simp at h
  | cons q m ih =>
    rw [List.map_cons, List.nodup_cons] at hn
    rw [get_cons]
    rcases List.mem_cons.1 h with e | e
    · subst e
      simp
    · rw [if_neg (fun e2 => hn.1 (by rw [← e2]; exact List.mem_map_of_mem (f := Prod.fst) e)), ih hn.2 e]
theorem store_new {β : Type} {m : List (Int × β)} {a : Int} (v : β) (h : get m a = none) : store m a v = m ++ [(a, v)] := by
  unfold store
  unfold get at h
  rcases hl : look a m 0 with _ | ⟨i, x⟩
  · rfl
  · rw [hl] at h
    cases h
theorem store_old {β : Type} {m : List (Int × β)} {a : Int} (v : β) (h : get m a ≠ none) : ∃ i, ∃ x, m[i]? = some (a, x) ∧ store m a v = m.set i (a, v) := by
  unfold store
  unfold get at h
  rcases hl : look a m 0 with _ | ⟨i, x⟩
  · rw [hl] at h
    exact absurd rfl h
  · obtain ⟨_, _, h3⟩ := look_lt a m 0 i x hl
    exact ⟨i, x, h3, rfl⟩
theorem store_keys {β : Type} (m : List (Int × β)) (a : Int) (v : β) : (store m a v).map (·.1) = if a ∈ m.map (·.1) then m.map (·.1) else m.map (·.1) ++ [a] := by
  rcases h : get m a with _ | x
  · rw [store_new v h, if_neg (get_none.1 h)]
    simp
  · obtain ⟨i, y, h1, h2⟩ := store_old v (m := m) (a := a) (by rw [h]; simp)
    have hm : a ∈ m.map (·.1) := List.mem_map_of_mem (f := Prod.fst) (get_mem h)
    rw [h2, if_pos hm]
    apply List.ext_getElem?
    intro k
    rw [List.getElem?_map, List.getElem?_map, List.getElem?_set]
    obtain ⟨hlt, hi⟩ := List.getElem?_eq_some_iff.1 h1
    by_cases hk : i = k
    · subst hk
      simp [hlt, hi]
    · simp [hk]
theorem get_store {β : Type} (m : List (Int × β)) (hn : (m.map (·.1)).Nodup) (a p : Int) (v : β) : get (store m a v) p = if p = a then some v else get m p := by
  rcases h : get m a with _ | x
  · rw [store_new v h, get_append]
    by_cases e : p = a
    · subst e
      simp [h]
    · simp [e]
  · obtain ⟨i, y, h1, h2⟩ := store_old v (m := m) (a := a) (by rw [h]; simp)
    have hk := store_keys m a v
    rw [if_pos (List.mem_map_of_mem (f := Prod.fst) (get_mem h))] at hk
    have hn2 : ((store m a v).map (·.1)).Nodup := by rw [hk]; exact hn
    obtain ⟨hlt, h3⟩ := List.getElem?_eq_some_iff.1 h1
    by_cases e : p = a
    · subst e
      rw [if_pos rfl]
      refine get_of_mem hn2 ?_
      rw [h2]
      exact List.mem_iff_getElem.2 ⟨i, by simpa using hlt, by simp⟩
    · rw [if_neg e]
      rcases hg : get m p with _ | z
      · rw [get_none, hk]
        exact get_none.1 hg
      · refine get_of_mem hn2 ?_
        obtain ⟨j, hj, hje⟩ := List.getElem_of_mem (get_mem hg)
        rw [h2]
        refine List.mem_iff_getElem.2 ⟨j, by simpa using hj, ?_⟩
        have hij : i ≠ j := fun e2 => by
          subst e2
          rw [hje] at h3
          cases h3
          exact e rfl
        rw [List.getElem_set_ne hij]
        exact hje
/-- Block r is a map that says f of each key. -/
def MapOf {β : Type} (w : World) (r : Nat) (ev : β → Value) (f : Int → Option β) : Prop :=
  ∃ m : List (Int × β), MapAt w r eI ev m ∧ (m.map (·.1)).Nodup ∧ ∀ p, get m p = f p
section
variable {β : Type} {ev : β → Value} {w w' : World} {r : Nat} {f : Int → Option β} {et t : TypeId}
theorem MapOf.new (w : World) : MapOf (w.alloc (.map #[] 0)) w.heap.size ev (fun _ => (none : Option β)) := ⟨[], MapAt.new w, List.nodup_nil, fun _ => rfl⟩
theorem MapOf.lt (h : MapOf w r ev f) : r < w.heap.size := by
  obtain ⟨m, h1, _⟩ := h
  exact h1.lt
theorem MapOf.same (h : MapOf w r ev f) (hh : w'.heap[r]? = w.heap[r]?) : MapOf w' r ev f := by
  obtain ⟨m, h1, h2⟩ := h
  exact ⟨m, h1.same hh, h2⟩
theorem MapOf.below (h : MapOf w r ev f) (hb : Below w.heap.size w w') : MapOf w' r ev f := h.same (hb.block r h.lt)
/-- The element, or nought. -/
def orZ (z : Value) (ev : β → Value) : Option β → Value
  | some x => ev x
  | none => z
theorem found_get (z : Value) (m : List (Int × β)) (a : Int) : found z ev (look a m 0) = orZ z ev (get m a) := by
  unfold get
  rcases look a m 0 with _ | ⟨i, x⟩ <;> rfl
theorem MapOf.look (ht : Tryz.prog.underlying t = some (.map 3 et)) (z : Value) (hz : (zeroValue et).run Tryz.prog w = .ok z w) (h : MapOf w r ev f) (a : Int) :
    (Instr.lookup t (.map (some r)) (.int .i64 a) false).run Tryz.prog w = .ok (orZ z ev (f a)) w := by
  obtain ⟨m, h1, _, h3⟩ := h
  rw [← h3 a, ← found_get]
  exact run_look int_fits ht z hz h1 a
theorem MapOf.look2 (ht : Tryz.prog.underlying t = some (.map 3 et)) (z : Value) (hz : (zeroValue et).run Tryz.prog w = .ok z w) (h : MapOf w r ev f) (a : Int) :
    (Instr.lookup t (.map (some r)) (.int .i64 a) true).run Tryz.prog w = .ok (.tuple #[orZ z ev (f a), .bool (f a).isSome]) w := by
  obtain ⟨m, h1, _, h3⟩ := h
  rw [← h3 a]
  obtain ⟨es, c, h4, h5, _⟩ := h1
  have hf := int_fits.find ev w a m es.toList h5
  unfold get
  unfold Instr.lookup
  simp only [Sem.run_bind, run_underlying ht, Result.andThen_ok]
  cases hl : YtfaoillnakhejaaGreat.look a m 0 with
  | none => simp [orZ, getObj, Sem.run, h4, int_fits.check, hf, hl, hz, Sem.run_bind]
  | some p => simp [orZ, getObj, Sem.run, h4, int_fits.check, hf, hl, Sem.run_bind]
theorem MapOf.put (ht : Tryz.prog.underlying t = some (.map 3 et)) (h : MapOf w r ev f) (a : Int) (v : β) :
    ∃ w', (Instr.mapUpdate t (.map (some r)) (.int .i64 a) (ev v)).run Tryz.prog w = .ok () w' ∧ MapOf w' r ev (fun p => if p = a then some v else f p) ∧ w.grownBy w' (some r) := by
  obtain ⟨m, h1, h2, h3⟩ := h
  obtain ⟨w', h4, h5, h6⟩ := run_store int_fits ht h1 a v
  refine ⟨w', h4, ⟨_, h5, ?_, fun p => ?_⟩, h6⟩
  · rw [store_keys]
    split
    · exact h2
    · rename_i hn
      rw [List.nodup_append]
      exact ⟨h2, by simp, fun x hx y hy e => hn (by rw [List.mem_singleton] at hy; rw [← hy, ← e]; exact hx)⟩
  · rw [get_store m h2, h3]
end
/-! ### The operations, as a walk meets them -/
section
variable {ops : Array Oper} {rest : List Oper} {o : Oper} {a : Act} {w : World} {Q : Exit → Act → World → Prop}
theorem wpList_of_wp (hw : Region.wanted o (yielded ops a.tmps) = true) {a' : Act} {w' : World} (hr : ∀ K : Act → World → Prop, K a' w' → o.wp Tryz.prog a w K Q)
    (h : wpList Tryz.prog ops Q rest a' w') : wpList Tryz.prog ops Q (o :: rest) a w := by
  unfold wpList
  rw [if_pos hw]
  exact .inl (hr _ h)
theorem want_plain {ops : Array Oper} {o : Oper} {a : Act} (h : o.guard = none) : Region.wanted o (yielded ops a.tmps) = true := by
  unfold Region.wanted
  rw [h]
theorem look_op (hw : Region.wanted o (yielded ops a.tmps) = true) {t : TypeId} (x k : Operand) {b : Bool} (ho : o.op = .lookup t x k b) {r : Nat} (hx : a.eval x = .map (some r)) {p : Int} (hk : a.eval k = .int .i64 p) {v : Value}
    (hr : (Instr.lookup t (.map (some r)) (.int .i64 p) b).run Tryz.prog w = .ok v w) (h : wpList Tryz.prog ops Q rest (a.put o.dst v) w) : wpList Tryz.prog ops Q (o :: rest) a w :=
  wpList_of_wp hw (fun K hK => by
    unfold Oper.wp execOp
    simp only [ho, hx, hk, Sem.run_bind, hr, Result.andThen_ok, Sem.run_pure]
    exact hK) h
theorem put_op (hw : Region.wanted o (yielded ops a.tmps) = true) {t : TypeId} (x k y : Operand) (ho : o.op = .mapUpdate t x k y) {r : Nat} (hx : a.eval x = .map (some r)) {p : Int} (hk : a.eval k = .int .i64 p) {v : Value} (hy : a.eval y = v) {w' : World}
    (hr : (Instr.mapUpdate t (.map (some r)) (.int .i64 p) v).run Tryz.prog w = .ok () w') (h : wpList Tryz.prog ops Q rest (a.put o.dst undef) w') : wpList Tryz.prog ops Q (o :: rest) a w :=
  wpList_of_wp hw (fun K hK => by
    unfold Oper.wp execOp
    simp only [ho, hx, hk, hy, hr, Sem.run_bind, Result.andThen_ok, Sem.run_pure]
    exact hK) h
end
/-! ### Ranging over a map -/
def enc2 {β : Type} (ev : β → Value) (p : Int × β) : Value × Value := (eI p.1, ev p.2)
def ent2 (e : MapEntry) : Value × Value := (e.key, e.val)
/-- Block q goes through the map in block r: the entries L are still to come. -/
def Ranging {β : Type} (w : World) (r q : Nat) (ev : β → Value) (L : List (Int × β)) : Prop :=
  ∃ es clock since seen c0, w.heap[r]? = some (.map es clock) ∧ Borns es clock ∧ w.heap[q]? = some (.mapIter (some r) since seen c0) ∧ (∀ x ∈ es.toList, x.born < since) ∧ since ≤ c0 ∧ since ≤ clock ∧
    (leftOf es seen).toList.map ent2 = L.map (enc2 ev)
section
variable {β : Type} {ev : β → Value} {w w' : World} {r q : Nat}
theorem Ranging.same {L : List (Int × β)} (h : Ranging w r q ev L) (h1 : w'.heap[r]? = w.heap[r]?) (h2 : w'.heap[q]? = w.heap[q]?) : Ranging w' r q ev L := by
  obtain ⟨es, clock, since, seen, c0, a, b, c, d⟩ := h
  exact ⟨es, clock, since, seen, c0, h1.trans a, b, h2.trans c, d⟩
theorem Ranging.lt {L : List (Int × β)} (h : Ranging w r q ev L) : r < w.heap.size ∧ q < w.heap.size := by
  obtain ⟨es, clock, since, seen, c0, a, b, c, d⟩ := h
  exact ⟨(Array.getElem?_eq_some_iff.1 a).1, (Array.getElem?_eq_some_iff.1 c).1⟩
theorem Ranging.below {L : List (Int × β)} (h : Ranging w r q ev L) (hb : Below w.heap.size w w') : Ranging w' r q ev L := h.same (hb.block r h.lt.1) (hb.block q h.lt.2)
theorem run_range {P : Program} {t kt et : TypeId} (ht : P.underlying t = some (.map kt et)) {m : List (Int × β)} (h : MapAt w r eI ev m) :
    ∃ w', (Instr.range t (.map (some r))).run P w = .ok (.pointer (some ⟨w.heap.size, 0, none⟩)) w' ∧ Ranging w' r w.heap.size ev m ∧ Below w.heap.size w w' ∧ w.heap.size < w'.heap.size := by
  have hlt := h.lt
  obtain ⟨es, clock, hb, hm, hn⟩ := h
  refine ⟨_, run_range_map w t kt et r es clock ht hb, ⟨es, clock, clock, #[], clock, (heap_alloc_old _ _ hlt).trans hb, hn, heap_alloc_new w _, fun x hx => hn.1 _ (List.mem_map_of_mem (f := MapEntry.born) hx), Nat.le_refl _, Nat.le_refl _, ?_⟩, (Below.refl _ _).alloc (Nat.le_refl _) _, by simp⟩
  have : (leftOf es #[]).toList = es.toList := by simp [leftOf]
  rw [this]
  exact hm
theorem setB_same {w : World} {q : Nat} {o : Obj} (h : w.heap[q]? = some o) (o' : Obj) : (ChangeMaps.setBlock w q o').heap[q]? = some o' := by
  have := (Array.getElem?_eq_some_iff.1 h).1
  simp [ChangeMaps.setBlock, this]
theorem setB_other {w : World} {q k : Nat} (o' : Obj) (hne : k ≠ q) : (ChangeMaps.setBlock w q o').heap[k]? = w.heap[k]? := by
  simp only [ChangeMaps.setBlock]
  rw [Array.getElem?_setIfInBounds]
  rw [if_neg (fun e => hne e.symm)]
theorem filter_born (l1 l2 : List MapEntry) (e : MapEntry) (hn : ((l1 ++ e :: l2).map (·.born)).Nodup) : (l1 ++ e :: l2).filter (fun x => !decide (x.born = e.born)) = l1 ++ l2 := by
  rw [List.map_append, List.map_cons, List.nodup_append, List.nodup_cons] at hn
  obtain ⟨_, ⟨h2, _⟩, h3⟩ := hn
  rw [List.filter_append, List.filter_cons]
  have e1 : l1.filter (fun x => !decide (x.born = e.born)) = l1 := List.filter_eq_self.2 fun x hx => by
    have := h3 _ (List.mem_map_of_mem (f := MapEntry.born) hx) e.born (by simp)
    simpa using this
  have e2 : l2.filter (fun x => !decide (x.born = e.born)) = l2 := List.filter_eq_self.2 fun x hx => by
    have : x.born ≠ e.born := fun h => h2 (h ▸ List.mem_map_of_mem (f := MapEntry.born) hx)
    simpa using this
  rw [e1, e2]
  simp
theorem Ranging.next {P : Program} {L : List (Int × β)} (h : Ranging w r q ev L) (ty : TypeId) (hrq : r ≠ q) :
    (L = [] ∧ (Instr.next (.pointer (some ⟨q, 0, none⟩)) false ty).run P w = .ok (.tuple #[.bool false]) w) ∨
    ∃ L1 a L2 w', L = L1 ++ a :: L2 ∧ (Instr.next (.pointer (some ⟨q, 0, none⟩)) false ty).run P w = .ok (.tuple #[.bool true, .int .i64 a.1, ev a.2]) w' ∧ Ranging w' r q ev (L1 ++ L2) ∧ w.grownBy w' (some q) ∧ w'.heap.size = w.heap.size ∧
      (Instr.entry (.pointer (some ⟨q, 0, none⟩))).run P w' = .ok (.tuple #[.int .i64 a.1, ev a.2]) w' := by
  obtain ⟨es, clock, since, seen, c0, hr, hn, hq, hold, hsc, hsk, hl⟩ := h
  rcases run_next_at (P := P) w ty q r since c0 seen es clock hq hr hold hsc with ⟨h0, hrun⟩ | ⟨e, he, w1, hw1, hrun⟩
  · refine .inl ⟨?_, hrun⟩
    have : (leftOf es seen).toList = [] := List.eq_nil_of_length_eq_zero (by simpa using h0)
    rw [this] at hl
    exact (List.map_eq_nil_iff.1 hl.symm)
  · right
    obtain ⟨l1, l2, hl12⟩ := List.append_of_mem he
    rw [hl12, List.map_append, List.map_cons] at hl
    obtain ⟨L1, L', hL, h1, h2⟩ := List.map_eq_append_iff.1 hl.symm
    obtain ⟨a, L2, rfl, h3, h4⟩ := List.map_eq_cons_iff.1 h2
    have hkey : e.key = .int .i64 a.1 ∧ e.val = ev a.2 := by
      have := h3
      unfold enc2 ent2 at this
      simp only [Prod.mk.injEq] at this
      exact ⟨this.1.symm, this.2.symm⟩
    have hw1r : w1.heap[r]? = some (.map es clock) := by rcases hw1 with rfl | rfl <;> exact hr
    have hw1q : w1.heap[q]? = some (.mapIter (some r) since seen c0) := by rcases hw1 with rfl | rfl <;> exact hq
    have hemem : e ∈ es.toList := by
      have := he
      unfold leftOf at this
      simp only [Array.toList_filter, List.mem_filter] at this
      exact this.1
    have hrr : (ChangeMaps.setBlock w1 q (.mapIter (some r) since (seen.push e.born) clock)).heap[r]? = some (.map es clock) := (setB_other _ hrq).trans hw1r
    have hqq : (ChangeMaps.setBlock w1 q (.mapIter (some r) since (seen.push e.born) clock)).heap[q]? = some (.mapIter (some r) since (seen.push e.born) clock) := setB_same hw1q _
    refine ⟨L1, a, L2, _, hL, by rw [hkey.1, hkey.2] at hrun; exact hrun, ⟨es, clock, since, seen.push e.born, clock, hrr, hn, hqq, hold, hsk, hsk, ?_⟩, ?_, ?_, ?_⟩
    · have hf : (leftOf es (seen.push e.born)).toList = (leftOf es seen).toList.filter fun x => !decide (x.born = e.born) := by
        unfold leftOf
        simp only [Array.toList_filter, List.filter_filter]
        refine List.filter_congr fun x _ => ?_
        rw [Array.contains_push]
        by_cases hx : x.born = e.born
        · simp [hx]
        · have : (x.born == e.born) = false := beq_eq_false_iff_ne.2 hx
          simp [hx]
      have hnl : (((leftOf es seen).toList).map (·.born)).Nodup := by
        unfold leftOf
        rw [Array.toList_filter]
        exact (List.filter_sublist.map _).nodup hn.2
      rw [hf, hl12, filter_born l1 l2 e (by rw [← hl12]; exact hnl), List.map_append, List.map_append, ← h1, ← h4]
    · refine ⟨?_, ?_, ?_, ?_, fun k _ hk => ?_⟩
      · rcases hw1 with rfl | rfl <;> rfl
      · rcases hw1 with rfl | rfl <;> rfl
      · rcases hw1 with rfl | rfl <;> rfl
      · rcases hw1 with rfl | rfl <;> simp [ChangeMaps.setBlock]
      · rw [setB_other _ (fun e => hk (by rw [e]))]
        rcases hw1 with rfl | rfl <;> rfl
    · rcases hw1 with rfl | rfl <;> simp [ChangeMaps.setBlock]
    · have := run_entry_at (P := P) _ q r since seen es clock e hqq hrr hemem hn.2
      rw [hkey.1, hkey.2] at this
      exact this
end
end
end Go.Proofs.YtfaoillnakhejaaGreat
