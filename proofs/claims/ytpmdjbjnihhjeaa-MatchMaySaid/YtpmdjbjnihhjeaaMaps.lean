/- Maps that a call makes: what a look-up and a store do, over any key type whose equality is known. -/
import Derived.Test.YtpmdjbjnihhjeaaBoard
import Derived.Maps.Keyed
import Derived.Maps.Own
import Derived.Laws.StructEq
namespace Go.Proofs.Ytpmdjbjnihhjeaa
open Go.RowKit

def look {κ β : Type} [DecidableEq κ] (a : κ) : List (κ × β) → Nat → Option (Nat × β)
  | [], _ => none
  | p :: m, i => if a = p.1 then some (i, p.2) else look a m (i + 1)

/-- Values of key type kt that encode κ: checked, found and kept as Go does. -/
structure KeyFits (P : Program) (kt : TypeId) {κ : Type} [DecidableEq κ] (ek : κ → Value) : Prop where
  check : ∀ (w : World) (em : Bool) (a : κ), (Instr.checkKey em 10000 kt (ek a)).run P w = .ok () w
  find : ∀ {β : Type} (ev : β → Value) (w : World) (a : κ) (m : List (κ × β)) (es : List MapEntry), es.map (fun e => (e.key, e.val)) = m.map (fun p => (ek p.1, ev p.2)) →
    (Instr.findKey kt (ek a) es).run P w = .ok ((look a m 0).map fun p => (p.1, ev p.2)) w
  stays : ∀ (w : World) (a : κ), (Instr.keyThatStays (ek a) (ek a)).run P w = .ok (ek a) w

theorem findAsking_run {P : Program} {kt : TypeId} {κ β : Type} [DecidableEq κ] {ek : κ → Value} (heq : ∀ (w : World) (a b : κ), (Op.equal kt (ek a) (ek b)).run P w = .ok (decide (a = b)) w) (ev : β → Value) (w : World) (a : κ) :
    ∀ (m : List (κ × β)) (es : List MapEntry) (i : Nat), es.map (fun e => (e.key, e.val)) = m.map (fun p => (ek p.1, ev p.2)) →
      (Instr.findAsking kt (ek a) es i).run P w = .ok ((look a m i).map fun p => (p.1, ev p.2)) w
  | [], [], i, _ => by simp [Instr.findAsking, look]
  | [], _ :: _, _, h => by simp at h
  | _ :: _, [], _, h => by simp at h
  | p :: m, e :: es, i, h => by
    simp only [List.map_cons, List.cons.injEq, Prod.mk.injEq] at h
    obtain ⟨⟨h1, h2⟩, h3⟩ := h
    by_cases hab : a = p.1
    · simp [Instr.findAsking, Sem.run_bind, h1, heq, hab, look, h2]
    · simp [Instr.findAsking, Sem.run_bind, h1, heq, hab, look, findAsking_run heq ev w a m es (i + 1) h3]

def eSlot (s : Slot) : Value := .agg #[.int .i64 s.loss, .int .i64 s.pack, .int .i64 s.pieces]

theorem len3 {α : Type} {l : List α} (h : l.length = 3) : ∃ a b c, l = [a, b, c] := by
  match l, h with
  | [a, b, c], _ => exact ⟨a, b, c, rfl⟩

theorem slot_fields : ∃ f0 f1 f2 : Field, (Try.prog.fieldsOf 50).toList = [f0, f1, f2] ∧ (f0.name = "Loss" ∧ f0.type = 3 ∧ f0.offset = 0) ∧ (f1.name = "Pack" ∧ f1.type = 3 ∧ f1.offset = 1) ∧ (f2.name = "Pieces" ∧ f2.type = 3 ∧ f2.offset = 2) := by
  have hf : (Try.prog.fieldsOf 50).toList.map (fun f => (f.name, f.type, f.offset)) = [("Loss", 3, 0), ("Pack", 3, 1), ("Pieces", 3, 2)] := by kernel_rfl
  have hl : (Try.prog.fieldsOf 50).toList.length = 3 := by simpa using congrArg List.length hf
  obtain ⟨f0, f1, f2, h⟩ := len3 hl
  rw [h] at hf ⊢
  simp only [List.map_cons, List.map_nil, List.cons.injEq, Prod.mk.injEq, and_true] at hf
  exact ⟨f0, f1, f2, rfl, hf⟩

theorem slot_u : Try.prog.underlying 50 = some (.struct (Try.prog.fieldsOf 50)) := by kernel_rfl
theorem int_u : Try.prog.underlying 3 = some (.int .i64) := by kernel_rfl

theorem slot_eq (w : World) (a b : Slot) : (Op.equal 50 (eSlot a) (eSlot b)).run Try.prog w = .ok (decide (a = b)) w := by
  have hst : Try.prog.stoodInHeld 50 = false := by kernel_rfl
  have h3 := int_u
  unfold Op.equal eSlot Op.maxDepth
  rw [run_equalIn_struct w 9999 50 _ _ slot_u hst]
  obtain ⟨f0, f1, f2, hl, ⟨n0, t0, o0⟩, ⟨n1, t1, o1⟩, n2, t2, o2⟩ := slot_fields
  rw [hl]
  simp only [Op.eqFields, n0, t0, o0, n1, t1, o1, n2, t2, o2]
  go_simp
  rcases a with ⟨a1, a2, a3⟩
  rcases b with ⟨b1, b2, b3⟩
  by_cases e1 : a1 = b1 <;> by_cases e2 : a2 = b2 <;> by_cases e3 : a3 = b3 <;> simp [e1, e2, e3]

theorem slot_check (w : World) (em : Bool) (a : Slot) : (Instr.checkKey em 10000 50 (eSlot a)).run Try.prog w = .ok () w := by
  have h3 := int_u
  have hc : ∀ (n : Int) (w : World), (Instr.checkKey em 9999 3 (.int .i64 n)).run Try.prog w = .ok () w := fun n w => by
    unfold Instr.checkKey
    simp only [Sem.run_bind, run_underlying h3, Result.andThen_ok]
    rfl
  unfold eSlot Instr.checkKey
  simp only [Sem.run_bind, run_underlying slot_u, Result.andThen_ok]
  rw [← Array.forIn_toList]
  obtain ⟨f0, f1, f2, hl, ⟨n0, t0, o0⟩, ⟨n1, t1, o1⟩, n2, t2, o2⟩ := slot_fields
  rw [hl]
  simp only [List.forIn_cons, List.forIn_nil, n0, t0, o0, n1, t1, o1, n2, t2, o2]
  go_simp

theorem slot_same (n : Nat) (a : Slot) : Instr.sameBits (n + 1) (eSlot a) (eSlot a) = true := by
  unfold eSlot
  simp [Instr.sameBits]

theorem slot_fits : KeyFits Try.prog 50 eSlot where
  check := slot_check
  find := fun {β} ev w a m es h => by
    unfold Instr.findKey
    simp only [Sem.run_bind, run_underlying slot_u, Result.andThen_ok]
    have := findAsking_run (ev := ev) slot_eq w a m es 0 h
    cases es with
    | nil =>
      cases m with
      | nil => simp [Instr.findNow, look]
      | cons p m => simp at h
    | cons e es =>
      have hn : Instr.findNow (.struct (Try.prog.fieldsOf 50)) (eSlot a) (e :: es) 0 = none := by
        simp only [Instr.findNow, Instr.sameNow]
      rw [hn]
      exact this
  stays := fun w a => by
    unfold Instr.keyThatStays
    rw [show Instr.sameBits 10000 (eSlot a) (eSlot a) = true from slot_same 9999 a]
    rfl

/-- Block r is a map that holds m, its keys all different, under the encodings. -/
def MapAt {κ β : Type} (w : World) (r : Nat) (ek : κ → Value) (ev : β → Value) (m : List (κ × β)) : Prop :=
  ∃ es clock, w.heap[r]? = some (.map es clock) ∧ es.toList.map (fun e => (e.key, e.val)) = m.map (fun p => (ek p.1, ev p.2))

section
set_option linter.unusedSectionVars false
variable {P : Program} {κ β : Type} [DecidableEq κ] {kt et t : TypeId} {ek : κ → Value} {ev : β → Value} {w w' : World} {r : Nat} {m : List (κ × β)}

theorem MapAt.new (w : World) : MapAt (w.alloc (.map #[] 0)) w.heap.size ek ev ([] : List (κ × β)) := ⟨#[], 0, heap_alloc_new w _, rfl⟩
theorem MapAt.lt (h : MapAt w r ek ev m) : r < w.heap.size := by
  obtain ⟨es, c, h1, _⟩ := h
  exact (Array.getElem?_eq_some_iff.1 h1).1
theorem MapAt.same (h : MapAt w r ek ev m) (hh : w'.heap[r]? = w.heap[r]?) : MapAt w' r ek ev m := by
  obtain ⟨es, c, h1, h2⟩ := h
  exact ⟨es, c, hh.trans h1, h2⟩
theorem MapAt.below (h : MapAt w r ek ev m) (hb : Below w.heap.size w w') : MapAt w' r ek ev m := h.same (hb.block r h.lt)

def found (z : Value) (ev : β → Value) : Option (Nat × β) → Value
  | some p => ev p.2
  | none => z

theorem run_look (K : KeyFits P kt ek) (ht : P.underlying t = some (.map kt et)) (z : Value) (hz : (zeroValue et).run P w = .ok z w) (h : MapAt w r ek ev m) (a : κ) :
    (Instr.lookup t (.map (some r)) (ek a) false).run P w = .ok (found z ev (look a m 0)) w := by
  obtain ⟨es, c, h1, h2⟩ := h
  have hf := K.find ev w a m es.toList h2
  unfold Instr.lookup
  simp only [Sem.run_bind, run_underlying ht, Result.andThen_ok]
  cases hl : look a m 0 with
  | none => simp [found, getObj, Sem.run, h1, K.check, hf, hl, hz, Sem.run_bind]
  | some p => simp [found, getObj, Sem.run, h1, K.check, hf, hl, Sem.run_bind]

theorem look_lt (a : κ) : ∀ (m : List (κ × β)) (i j : Nat) (v : β), look a m i = some (j, v) → i ≤ j ∧ j < i + m.length ∧ m[j - i]? = some (a, v)
  | [], _, _, _, h => by simp [look] at h
  | p :: m, i, j, v, h => by
    unfold look at h
    split at h
    · rename_i e
      simp only [Option.some.injEq, Prod.mk.injEq] at h
      obtain ⟨rfl, rfl⟩ := h
      exact ⟨Nat.le_refl _, by simp, by simp [e]⟩
    · obtain ⟨h1, h2, h3⟩ := look_lt a m (i + 1) j v h
      refine ⟨by omega, by simp; omega, ?_⟩
      rw [show j - i = (j - (i + 1)) + 1 from by omega]
      simpa using h3

/-- What a store makes of what the map holds. -/
def store (m : List (κ × β)) (a : κ) (v : β) : List (κ × β) :=
  match look a m 0 with
  | some (i, _) => m.set i (a, v)
  | none => m ++ [(a, v)]

theorem run_store (K : KeyFits P kt ek) (ht : P.underlying t = some (.map kt et)) (h : MapAt w r ek ev m) (a : κ) (v : β) :
    ∃ w', (Instr.mapUpdate t (.map (some r)) (ek a) (ev v)).run P w = .ok () w' ∧ MapAt w' r ek ev (store m a v) ∧ w.grownBy w' (some r) := by
  obtain ⟨es, c, h1, h2⟩ := h
  have hr : r < w.heap.size := (Array.getElem?_eq_some_iff.1 h1).1
  have hf := K.find ev w a m es.toList h2
  have hput : ∀ o : Obj, w.grownBy { w with heap := w.heap.setIfInBounds r o } (some r) := fun o =>
    ⟨rfl, rfl, rfl, by simp, fun k _ hk => by
      show (w.heap.setIfInBounds r o)[k]? = _
      rw [Array.getElem?_setIfInBounds]
      split
      · rename_i e; exact absurd (by rw [e]) hk
      · rfl⟩
  have hnew : ∀ o : Obj, ({ w with heap := w.heap.setIfInBounds r o } : World).heap[r]? = some o := fun o => by simp [hr]
  cases hl : look a m 0 with
  | none =>
    refine ⟨{ w with heap := w.heap.setIfInBounds r (.map (es.push { key := ek a, val := ev v, born := c }) (c + 1)) }, ?_, ⟨_, _, hnew _, ?_⟩, hput _⟩
    · unfold Instr.mapUpdate
      simp only [Sem.run_bind, run_underlying ht, Result.andThen_ok]
      simp [getObj, setObj, Sem.run, h1, K.check, hf, hl, Sem.run_bind]
    · simp [store, hl, h2]
  | some p =>
    obtain ⟨i, v0⟩ := p
    obtain ⟨_, h4, h5⟩ := look_lt a m 0 i v0 hl
    have hil : i < es.size := by have := congrArg List.length h2; simp at this; omega
    have hk : es[i].key = ek a := by
      have h6 := congrArg (fun l => l[i]?) h2
      simp only [List.getElem?_map] at h6
      rw [show m[i]? = some (a, v0) from by simpa using h5] at h6
      simp [hil] at h6
      exact h6.1
    refine ⟨{ w with heap := w.heap.setIfInBounds r (.map (es.modify i fun e => { e with key := ek a, val := ev v }) c) }, ?_, ⟨_, _, hnew _, ?_⟩, hput _⟩
    · unfold Instr.mapUpdate
      simp only [Sem.run_bind, run_underlying ht, Result.andThen_ok]
      simp [getObj, setObj, Sem.run, h1, K.check, hf, hl, Sem.run_bind, hil, hk, K.stays]
    · simp only [store, hl]
      apply List.ext_getElem?
      intro k
      have h6 := congrArg (fun l => l[k]?) h2
      simp only [List.getElem?_map, Array.getElem?_toList] at h6 ⊢
      rw [Array.getElem?_modify, List.getElem?_set]
      by_cases hki : i = k
      · subst hki
        have him : i < m.length := by omega
        simp [hil, him]
      · simp only [hki, if_false]
        exact h6
end
end Go.Proofs.Ytpmdjbjnihhjeaa
