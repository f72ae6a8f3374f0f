/- The arguments of this seat's statements, opened: lists of reports. -/
import Derived.Test.YtfaoillnakhejaaGreatG12
import Derived.ProofKit
import Derived.Deep.Slices
import Derived.Deep.Fields
namespace Go.Proofs.YtfaoillnakhejaaGreat
set_option maxRecDepth 100000
section
open Go.ChangeShapes Go.WideShapes Go.ChangeAt Go.RowKit Go.Deep
section
variable {H : Type} {enc : TypeId × Value → H} {w : World} {base : Nat} {held : Bool}
theorem spot_none {a : Addr} {v : Value} (h : w.cell? a = some v) : a = ⟨a.block, a.off, none⟩ := by
 have := World.cell?_spot h
 obtain ⟨b, o, s⟩ := a
 simp at this
 subst this
 rfl
theorem cells_int : Tryz.prog.cellsOf 3 = 1 := by kernel_rfl
theorem cells_byte : Tryz.prog.cellsOf 5 = 1 := by kernel_rfl
theorem cells_str : Tryz.prog.cellsOf 9 = 1 := by kernel_rfl
theorem cells_intsl : Tryz.prog.cellsOf 25 = 1 := by kernel_rfl
theorem cells_span : Tryz.prog.cellsOf 36 = 2 := by kernel_rfl
theorem cells_rep : Tryz.prog.cellsOf 46 = 15 := by kernel_rfl
theorem open_intsl {fuel : Nat} {v : Value} {x : DataW H × List MemPlace} (h : DataW.trod enc Tryz.prog w base (fun _ => true) held fuel 25 [v] = some x) :
  ∃ A c xs, v = .slice A xs.length c ∧ IntsAt w A xs ∧ xs.length ≤ c ∧ c ≤ maxLen := by
 rcases open_ints Tryz.underlying25 Tryz.underlying3 cells_int h with ⟨hcs, _⟩ | ⟨a, len, cap, zs, hcs, _, hl, hm, hz, _, hcell, _⟩
 ·simp at hcs
  exact ⟨none, 0, [], hcs, fun h => by simp at h, by simp, by simp⟩
 ·simp at hcs hz
  refine ⟨some a, cap, zs.take len, ?_, fun h0 => ?_, by rw [List.length_take]; omega, hm⟩
  ·rw [hcs, List.length_take, Nat.min_eq_left (by omega)]
  ·rw [List.length_take] at h0
   have c0 := hcell 0 (by omega)
   have ha : a = ⟨a.block, a.off, none⟩ := spot_none (by simpa [Addr.add] using c0)
   refine ⟨a.block, a.off, by rw [← ha], fun j hj => ?_⟩
   rw [List.length_take] at hj
   have := hcell j (by omega)
   rw [ha, add_lit] at this
   rw [this, List.getElem_take]
   simp [show j < zs.length by omega]
theorem len_cons {n : Nat} {cs : List Value} (h : cs.length = n + 1) : ∃ a t, cs = a :: t ∧ t.length = n := by
 rcases cs with _ | ⟨a, t⟩
 ·simp at h
 ·exact ⟨a, t, rfl, by simpa using h⟩
/-- A field of a struct that came in, by its type, place and cells. -/
theorem field_of {P : Program} {fs : Array Field} {n : Nat} {cs : List Value} {xs : List (DataW H × List MemPlace)} (hf : ∀ (i : Nat) (f : Field), fs[i]? = some f → DataW.trod enc P w base (fun _ => true) held n f.type ((cs.drop f.offset).take (P.cellsOf f.type)) = xs[i]?)
  (i : Nat) (f : Field) (hi : fs[i]? = some f) {t : TypeId} {off k : Nat} (ht : f.type = t) (ho : f.offset = off) (hk : P.cellsOf t = k) : DataW.trod enc P w base (fun _ => true) held n t ((cs.drop off).take k) = xs[i]? := by
 subst ht ho hk
 exact hf i f hi
/-- A report that came in. -/
theorem open_rep {fuel : Nat} {cs : List Value} {x : DataW H × List MemPlace} (h : DataW.trod enc Tryz.prog w base (fun _ => true) held fuel 46 cs = some x) :
  ∃ (r : Rep) (A : Option Addr) (c : Nat), cs = (r.cells A c).toList ∧ IntsAt w A r.parts ∧ r.parts.length ≤ c := by
 obtain ⟨xs, n, _, _, hl, hxl, hf⟩ := DataW.trod_struct Tryz.underlying46 h
 rw [cells_rep] at hl
 obtain ⟨c0, t0, rfl, hl0⟩ := len_cons hl
 obtain ⟨c1, t1, rfl, hl1⟩ := len_cons hl0
 obtain ⟨c2, t2, rfl, hl2⟩ := len_cons hl1
 obtain ⟨c3, t3, rfl, hl3⟩ := len_cons hl2
 obtain ⟨c4, t4, rfl, hl4⟩ := len_cons hl3
 obtain ⟨c5, t5, rfl, hl5⟩ := len_cons hl4
 obtain ⟨c6, t6, rfl, hl6⟩ := len_cons hl5
 obtain ⟨c7, t7, rfl, hl7⟩ := len_cons hl6
 obtain ⟨c8, t8, rfl, hl8⟩ := len_cons hl7
 obtain ⟨c9, t9, rfl, hl9⟩ := len_cons hl8
 obtain ⟨c10, t10, rfl, hl10⟩ := len_cons hl9
 obtain ⟨c11, t11, rfl, hl11⟩ := len_cons hl10
 obtain ⟨c12, t12, rfl, hl12⟩ := len_cons hl11
 obtain ⟨c13, t13, rfl, hl13⟩ := len_cons hl12
 obtain ⟨c14, t14, rfl, hl14⟩ := len_cons hl13
 have hnil : t14 = [] := List.length_eq_zero_iff.1 hl14
 subst hnil
 have hsome : ∀ j, j < 14 → ∃ y, xs[j]? = some y := fun j hj => ⟨xs[j]'(by rw [hxl]; exact hj), List.getElem?_eq_getElem _⟩
 have hint : ∀ j v, j < 14 → DataW.trod enc Tryz.prog w base (fun _ => true) held n 3 [v] = xs[j]? → ∃ m, v = .int .i64 m := fun j v hj e => by
  obtain ⟨y, hy⟩ := hsome j hj
  rw [hy] at e
  obtain ⟨m, hm, _⟩ := DataW.trod_int Tryz.underlying3 e
  exact ⟨m, by simpa using hm⟩
 have hstr : ∀ j v, j < 14 → DataW.trod enc Tryz.prog w base (fun _ => true) held n 9 [v] = xs[j]? → ∃ m, v = .string m := fun j v hj e => by
  obtain ⟨y, hy⟩ := hsome j hj
  rw [hy] at e
  obtain ⟨m, hm, _⟩ := DataW.trod_string Tryz.underlying9 e
  exact ⟨m, by simpa using hm⟩
 obtain ⟨n0, rfl⟩ := hint 0 c0 (by omega) (field_of hf 0 _ rfl rfl rfl cells_int)
 obtain ⟨n1, rfl⟩ := hint 1 c1 (by omega) (field_of hf 1 _ rfl rfl rfl cells_int)
 obtain ⟨n2, rfl⟩ := hint 2 c2 (by omega) (field_of hf 2 _ rfl rfl rfl cells_int)
 obtain ⟨n4, rfl⟩ := hint 4 c4 (by omega) (field_of hf 4 _ rfl rfl rfl cells_int)
 obtain ⟨n5, rfl⟩ := hint 5 c5 (by omega) (field_of hf 5 _ rfl rfl rfl cells_int)
 obtain ⟨n7, rfl⟩ := hint 7 c7 (by omega) (field_of hf 7 _ rfl rfl rfl cells_int)
 obtain ⟨n12, rfl⟩ := hint 11 c12 (by omega) (field_of hf 11 _ rfl rfl rfl cells_int)
 obtain ⟨n13, rfl⟩ := hint 12 c13 (by omega) (field_of hf 12 _ rfl rfl rfl cells_int)
 obtain ⟨n14, rfl⟩ := hint 13 c14 (by omega) (field_of hf 13 _ rfl rfl rfl cells_int)
 obtain ⟨s8, rfl⟩ := hstr 8 c8 (by omega) (field_of hf 8 _ rfl rfl rfl cells_str)
 obtain ⟨s9, rfl⟩ := hstr 9 c9 (by omega) (field_of hf 9 _ rfl rfl rfl cells_str)
 obtain ⟨k, rfl⟩ : ∃ k, c3 = .int .u8 k := by
  obtain ⟨y, hy⟩ := hsome 3 (by omega)
  have e := field_of hf 3 _ rfl rfl rfl cells_byte
  rw [hy] at e
  have e : DataW.trod enc Tryz.prog w base (fun _ => true) held n 5 [c3] = some y := e
  obtain ⟨m, hm, _⟩ := DataW.trod_int Tryz.underlying5 e
  exact ⟨m, by simpa using hm⟩
 obtain ⟨A, c, ps, rfl, hp, hc, _⟩ : ∃ A c ps, c6 = .slice A ps.length c ∧ IntsAt w A ps ∧ ps.length ≤ c ∧ c ≤ maxLen := by
  obtain ⟨y, hy⟩ := hsome 6 (by omega)
  have e := field_of hf 6 _ rfl rfl rfl cells_intsl
  rw [hy] at e
  have e : DataW.trod enc Tryz.prog w base (fun _ => true) held n 25 [c6] = some y := e
  exact open_intsl e
 obtain ⟨lo, hi, rfl, rfl⟩ : ∃ lo hi, c10 = .int .i64 lo ∧ c11 = .int .i64 hi := by
  obtain ⟨y, hy⟩ := hsome 10 (by omega)
  have e := field_of hf 10 _ rfl rfl rfl cells_span
  rw [hy] at e
  have e : DataW.trod enc Tryz.prog w base (fun _ => true) held n 36 [c10, c11] = some y := e
  obtain ⟨ys, m, _, _, _, hyl, hg⟩ := DataW.trod_struct Tryz.underlying36 e
  have hs2 : ∀ j, j < 2 → ∃ y, ys[j]? = some y := fun j hj => ⟨ys[j]'(by rw [hyl]; exact hj), List.getElem?_eq_getElem _⟩
  obtain ⟨y0, hy0⟩ := hs2 0 (by omega)
  obtain ⟨y1, hy1⟩ := hs2 1 (by omega)
  have e0 := field_of hg 0 _ rfl rfl rfl cells_int
  have e1 := field_of hg 1 _ rfl rfl rfl cells_int
  rw [hy0] at e0
  rw [hy1] at e1
  have e0 : DataW.trod enc Tryz.prog w base (fun _ => true) held m 3 [c10] = some y0 := e0
  have e1 : DataW.trod enc Tryz.prog w base (fun _ => true) held m 3 [c11] = some y1 := e1
  obtain ⟨a, ha, _⟩ := DataW.trod_int Tryz.underlying3 e0
  obtain ⟨b, hb, _⟩ := DataW.trod_int Tryz.underlying3 e1
  exact ⟨a, b, by simpa using ha, by simpa using hb⟩
 exact ⟨⟨n0, n1, n2, k, n4, n5, ps, n7, s8, s9, lo, hi, n12, n13, n14⟩, A, c, rfl, hp, hc⟩
/-- A list of reports in memory, as it comes in: the lengths of the parts are not known to be small. -/
structure RepsAt (w : World) (A : Option Addr) (L : List Ent) : Prop where
 rows : RowsAt w A L
 parts : ∀ e ∈ L, IntsAt w e.2.1 e.1.parts ∧ e.1.parts.length ≤ e.2.2
theorem RepsAt.ents {A : Option Addr} {L : List Ent} (h : RepsAt w A L) (hs : ∀ e ∈ L, e.1.parts.length ≤ 100) : EntsAt w A L := ⟨h.rows, fun e he => ⟨(h.parts e he).1, (h.parts e he).2, hs e he⟩⟩
theorem open_reports {fuel : Nat} {v : Value} {x : DataW H × List MemPlace} (h : DataW.trod enc Tryz.prog w base (fun _ => true) held fuel 22 [v] = some x) :
  ∃ A c L, v = .slice A L.length c ∧ RepsAt w A L ∧ L.length ≤ c ∧ c ≤ maxLen := by
 rcases open_slice Tryz.underlying22 h with ⟨hcs, _⟩ | ⟨a, len, cap, m, n, D, Pl, hcs, hb, hl, hm, hmm, hx, hi⟩
 ·simp at hcs
  exact ⟨none, 0, [], hcs, ⟨fun h => by simp at h, by simp⟩, by simp, by simp⟩
 ·simp only [if_true] at hmm
  have hall : ∀ i : Fin len, ∃ e : Ent, (∀ (j : Nat) (u : Value), (e.1.cells e.2.1 e.2.2).toList[j]? = some u → w.cell? (a.add (i * 15 + j)) = some u) ∧ IntsAt w e.2.1 e.1.parts ∧ e.1.parts.length ≤ e.2.2 := fun i => by
   obtain ⟨cs', hc, ht'⟩ := hi i (by rw [hmm]; have := i.2; omega)
   rw [cells_rep] at hc
   obtain ⟨_, hcl, hat⟩ := World.cells?_some hc
   obtain ⟨r, A, c, rfl, hp, hc2⟩ := open_rep ht'
   refine ⟨(r, A, c), fun j u hu => ?_, hp, hc2⟩
   have hj : j < 15 := by have := (List.getElem?_eq_some_iff.1 hu).1; rwa [hcl] at this
   rw [← Go.Deep.add_add, hat j hj]
   exact hu
  obtain ⟨f, hf⟩ := Classical.axiomOfChoice hall
  simp at hcs
  refine ⟨some a, cap, List.ofFn f, by rw [hcs, List.length_ofFn], ⟨fun h0 => ?_, fun e he => ?_⟩, by rw [List.length_ofFn]; exact hl, hm⟩
  ·rw [List.length_ofFn] at h0
   have ha : a = ⟨a.block, a.off, none⟩ := spot_none (by simpa [Addr.add] using (hf ⟨0, h0⟩).1 0 _ rfl)
   refine ⟨a.block, a.off, by rw [← ha], fun j hj => ?_⟩
   rw [List.length_ofFn] at hj
   rw [List.getElem_ofFn]
   intro k u hu
   have := (hf ⟨j, hj⟩).1 k u hu
   rw [ha, add_lit] at this
   rw [Nat.add_assoc]
   exact this
  ·obtain ⟨i, hi2, rfl⟩ := List.getElem_of_mem he
   rw [List.getElem_ofFn]
   exact (hf ⟨i, by simpa using hi2⟩).2
/-- A list of reports that came in. -/
theorem open_reps {v : Value} {d : DataW H} {p : List MemPlace} (h : DataW.Trod enc Tryz.prog w base (fun _ => true) held 22 v d p) (hv : ∃ a n c, v = .slice a n c) :
  ∃ A c L, v = .slice A L.length c ∧ RepsAt w A L ∧ L.length ≤ c ∧ c ≤ maxLen := by
 obtain ⟨fuel, hf⟩ := h
 obtain ⟨a, n, c, rfl⟩ := hv
 exact open_reports (by simpa [Value.cells] using hf)
/-- A list of numbers that came in. -/
theorem open_list {v : Value} {d : DataW H} {p : List MemPlace} (h : DataW.Trod enc Tryz.prog w base (fun _ => true) held 25 v d p) (hv : ∃ a n c, v = .slice a n c) :
  ∃ A c xs, v = .slice A xs.length c ∧ IntsAt w A xs ∧ xs.length ≤ c ∧ c ≤ maxLen := by
 obtain ⟨fuel, hf⟩ := h
 obtain ⟨a, n, c, rfl⟩ := hv
 exact open_intsl (by simpa [Value.cells] using hf)
end
end
end Go.Proofs.YtfaoillnakhejaaGreat
