/- Lists of reports in memory: their cells, their parts; rows of reports of a call's own; counting; What a store says: makers, users, what is hidden (plain, and in memory); stored. -/
import Derived.Test.YtfaoillnakhejaaGreatG10
import Derived.Test.YtfaoillnakhejaaGreatG11
import Derived.Great.BuildSlice
import Derived.BigRegion
namespace Go.Proofs.YtfaoillnakhejaaGreat
set_option maxRecDepth 100000
open Go.RowKit
/-- A report as it lies in memory: with where its parts lie, and their room. -/
abbrev Ent := Rep × Option Addr × Nat
abbrev Ent.cells (e : Ent) : Array Value := e.1.cells e.2.1 e.2.2
abbrev Ent.val (e : Ent) : Value := e.1.val e.2.1 e.2.2
abbrev evR : Ent → Value := fun e => .agg (e.1.cells e.2.1 e.2.2)
/-- The parts of a report lie where it says. -/
structure PartsAt (w : World) (e : Ent) : Prop where
  ints : IntsAt w e.2.1 e.1.parts
  cap : e.1.parts.length ≤ e.2.2
  len : e.1.parts.length ≤ 100
theorem PartsAt.kept {w w' : World} {e : Ent} (h : PartsAt w e) (k : Kept w w') : PartsAt w' e := ⟨h.ints.kept k, h.cap, h.len⟩
abbrev reps (L : List Ent) : List Rep := L.map (·.1)
/-- A slice that starts at A holds the reports L. -/
def RowsAt (w : World) (A : Option Addr) (L : List Ent) : Prop :=
  0 < L.length → ∃ b off, A = some ⟨b, off, none⟩ ∧ ∀ i (h : i < L.length), w.rangeAt b (off + i * 15) (L[i].1.cells L[i].2.1 L[i].2.2).toList
structure EntsAt (w : World) (A : Option Addr) (L : List Ent) : Prop where
  rows : RowsAt w A L
  parts : ∀ e ∈ L, PartsAt w e
theorem rangeAt_kept {w w' : World} {b o : Nat} {cs : List Value} (h : w.rangeAt b o cs) (k : Kept w w') : w'.rangeAt b o cs := fun j v hv => k _ _ (h j v hv)
theorem RowsAt.kept {w w' : World} {A : Option Addr} {L : List Ent} (h : RowsAt w A L) (k : Kept w w') : RowsAt w' A L := fun h0 => by
  obtain ⟨b, off, e, hc⟩ := h h0
  exact ⟨b, off, e, fun i hi => rangeAt_kept (hc i hi) k⟩
theorem EntsAt.kept {w w' : World} {A : Option Addr} {L : List Ent} (h : EntsAt w A L) (k : Kept w w') : EntsAt w' A L := ⟨h.rows.kept k, fun e he => (h.parts e he).kept k⟩
theorem EntsAt.below {w w' : World} {A : Option Addr} {L : List Ent} (h : EntsAt w A L) (k : Below w.heap.size w w') : EntsAt w' A L := h.kept (Kept.of_below k)
theorem EntsAt.nil (w : World) (A : Option Addr) : EntsAt w A [] := ⟨fun h => absurd h (by simp), by simp⟩
theorem EntsAt.take {w : World} {A : Option Addr} {L : List Ent} (h : EntsAt w A L) (k : Nat) : EntsAt w A (L.take k) := ⟨fun h0 => by
  obtain ⟨b, off, e, hc⟩ := h.rows (by simp at h0; omega)
  refine ⟨b, off, e, fun i hi => ?_⟩
  have h3 : i < L.length := by simp at hi; omega
  have := hc i h3
  simpa using this, fun e he => h.parts e (List.mem_of_mem_take he)⟩
/-- A whole report read out of the middle of a block. -/
theorem load_rep_mid {ops : Array Oper} {rest : List Oper} {o : Oper} {a : Act} {w : World} {Q : Exit → Act → World → Prop} (hgd : o.guard = none) (x : Operand) (ho : o.op = .load 46 x)
    (b f : Nat) (hx : a.eval x = .pointer (some ⟨b, f, none⟩)) {r : Rep} {A : Option Addr} {c : Nat} (hg : w.rangeAt b f (r.cells A c).toList)
    (h : wpList Tryz.prog ops Q rest (a.put o.dst (r.val A c)) w) : wpList Tryz.prog ops Q (o :: rest) a w := by
  refine wpList_load_mid hgd _ x ho b f hx (r.cells A c).toList _ hg Tryz.underlying46 rfl rep_info ?_
  simpa using h
def flat (L : List Ent) : List Value := L.flatMap fun e => (e.1.cells e.2.1 e.2.2).toList
theorem flat_snoc (L : List Ent) (e : Ent) : flat (L ++ [e]) = flat L ++ (e.1.cells e.2.1 e.2.2).toList := by simp [flat]
theorem cells_length (e : Ent) : (e.1.cells e.2.1 e.2.2).toList.length = 15 := rfl
theorem flat_length (L : List Ent) : (flat L).length = L.length * 15 := by
  induction L with
  | nil => rfl
  | cons e L ih =>
    show ((e.1.cells e.2.1 e.2.2).toList ++ flat L).length = _
    rw [List.length_append, ih, cells_length, List.length_cons]
    omega
theorem flat_at : ∀ (L : List Ent) (i : Nat) (h : i < L.length) (j : Nat) (v : Value), (L[i].1.cells L[i].2.1 L[i].2.2).toList[j]? = some v → (flat L)[i * 15 + j]? = some v
  | [], i, h, _, _, _ => by simp at h
  | e :: L, 0, h, j, v, hv => by
    show ((e.1.cells e.2.1 e.2.2).toList ++ flat L)[0 * 15 + j]? = _
    have hj : j < 15 := by
      have := (List.getElem?_eq_some_iff.1 hv).1
      rwa [cells_length] at this
    rw [Nat.zero_mul, Nat.zero_add, List.getElem?_append_left (by rw [cells_length]; exact hj)]
    exact hv
  | e :: L, i + 1, h, j, v, hv => by
    show ((e.1.cells e.2.1 e.2.2).toList ++ flat L)[(i + 1) * 15 + j]? = _
    rw [List.getElem?_append_right (by rw [cells_length]; omega), cells_length, show (i + 1) * 15 + j - 15 = i * 15 + j by omega]
    exact flat_at L i (by simpa using h) j v (by simpa using hv)
theorem rows_of_cells {w : World} {A : Option Addr} {L : List Ent} (h : CellsAt w A (flat L)) : RowsAt w A L := fun h0 => by
  obtain ⟨b, off, e, hc⟩ := h (by rw [flat_length]; omega)
  refine ⟨b, off, e, fun i hi j v hv => ?_⟩
  have := hc _ _ (flat_at L i hi j v hv)
  rwa [← Nat.add_assoc] at this
theorem reps_info : ∃ i z, Tryz.prog.info? 46 = some i ∧ i.zero = some z ∧ i.size = 15 ∧ i.bytes ≤ 1000 ∧ z.cells.size = 15 := by
  have h : (Tryz.prog.info? 46).map (fun i => (i.zero.map (·.cells.size), i.size, decide (i.bytes ≤ 1000))) = some (some 15, 15, true) := by kernel_rfl
  rcases hi : Tryz.prog.info? 46 with _ | i
  · rw [hi] at h; cases h
  · rw [hi] at h
    simp only [Option.map_some, Option.some.injEq, Prod.mk.injEq, decide_eq_true_eq] at h
    obtain ⟨h1, h2, h3⟩ := h
    rcases hz : i.zero with _ | z
    · rw [hz] at h1; cases h1
    · rw [hz] at h1
      simp only [Option.map_some, Option.some.injEq] at h1
      exact ⟨i, z, rfl, hz, h2, h3, h1⟩
theorem repsl_u : Tryz.prog.underlying 22 = some (.slice 46) := by kernel_rfl
/-- One report more behind a row of the call's own. -/
theorem app_rep {w : World} {base : Nat} {v : Value} {L : List Ent} (e : Ent) (hown : w.ownsRow base 46 15 v L.length (flat L)) (hl : L.length ≤ 1000) (hbase : base ≤ w.heap.size) :
    ∃ v' w', (Builtin.append_ #[22, 22] 22 #[v, .slice (some ⟨w.heap.size, 0, none⟩) 1 1]).run Tryz.prog (w.alloc (.cells (e.1.cells e.2.1 e.2.2) 46)) = .ok v' w' ∧
      w'.ownsRow base 46 15 v' (L ++ [e]).length (flat (L ++ [e])) ∧ Below base w w' := by
  obtain ⟨i, z, h1, h2, h3, h4, h5⟩ := reps_info
  obtain ⟨v', w', hr, ho, hg⟩ := run_app (P := Tryz.prog) (w := w.alloc (.cells (e.1.cells e.2.1 e.2.2) 46)) 22 (c := 1) (A := some ⟨w.heap.size, 0, none⟩) (news := (e.1.cells e.2.1 e.2.2).toList) (size := 15) repsl_u h1 h2 h3 rfl h5 (by omega) (hown.alloc _) (m := 1) (by rw [cells_length])
    (fun _ => ⟨w.heap.size, 0, rfl, fun j u hj => by rw [Nat.zero_add, cell_new]; simpa using hj⟩) (fun u hu => Array.all_eq_true_iff_forall_mem.1 (rep_one e.1 e.2.1 e.2.2) u (by simpa using hu)) (by unfold maxLen; omega)
    (by
      have : (L.length + 1) * i.bytes ≤ 1001 * 1000 := Nat.mul_le_mul (by omega) h4
      omega) (by simp; omega)
  refine ⟨v', w', hr, ?_, ((Below.refl _ _).alloc hbase _).grown hg (by simp; omega) (fun g e => (hown.lt g e).1)⟩
  rw [flat_snoc, List.length_append]
  exact ho
/-- A slice literal of one report. -/
theorem build_rep {ops : Array Oper} {rest : List Oper} {o : Oper} {a : Act} {w : World} {Q : Exit → Act → World → Prop} (hgd : o.guard = none) (x : Operand) (ho : o.op = .buildSlice 22 1 #[(0, x)])
    {r : Rep} {A : Option Addr} {c : Nat} (hx : a.eval x = r.val A c) (h : wpList Tryz.prog ops Q rest (a.put o.dst (.slice (some ⟨w.heap.size, 0, none⟩) 1 1)) (w.alloc (.cells (r.cells A c) 46))) : wpList Tryz.prog ops Q (o :: rest) a w := by
  obtain ⟨i, z, h1, h2, h3, h4, h5⟩ := reps_info
  refine wpList_buildSlice hgd _ _ 1 #[(0, x)] ho (r.cells A c) i z repsl_u h1 h2 (by omega) (by omega) ?_ h
  rw [h3]
  have h6 := Great.fill_whole (s := 15) (by omega) [r.val A c] ((Array.range (1 * 15)).map (z.cells[· % z.cells.size]!)) (by intro v hv; rw [List.mem_singleton] at hv; subst hv; rfl) (by simp)
  have h7 : (#[(0, x)].map fun (i, x) => (i, a.eval x)).toList = (([r.val A c].zipIdx 0).map fun x => (x.2, x.1)) := by
    simp [hx]
  rw [h7, h6]
  simp [Value.cells]
theorem voided_step (l : List Rep) (K p : Int) (k : Nat) (h : k < l.length) : voided (l.take (k + 1)) K p = (voided (l.take k) K p || (decide (l[k].kind = 8) && decide (l[k].known ≤ K) && decide (l[k].of = p))) := by
  unfold voided
  rw [List.take_succ_eq_append_getElem h, List.any_append]
  simp
/-- What the first loop of counting has written. -/
def voidMap (l : List Rep) (K : Int) (k : Nat) (p : Int) : Option Bool := if voided (l.take k) K p then some true else none
theorem voidMap_zero (l : List Rep) (K : Int) : voidMap l K 0 = fun _ => none := by
  funext p
  simp [voidMap, voided]
theorem voidMap_put (l : List Rep) (K : Int) (k : Nat) (h : k < l.length) (h8 : l[k].kind = 8) (hk : l[k].known ≤ K) : voidMap l K (k + 1) = fun p => if p = l[k].of then some true else voidMap l K k p := by
  funext p
  unfold voidMap
  rw [voided_step l K p k h]
  by_cases e : p = l[k].of
  · simp [h8, hk, e]
  · have e2 : ¬ l[k].of = p := fun e3 => e e3.symm
    simp [h8, hk, e, e2]
theorem voidMap_same (l : List Rep) (K : Int) (k : Nat) (h : k < l.length) (hn : ¬ (l[k].kind = 8 ∧ l[k].known ≤ K)) : voidMap l K (k + 1) = voidMap l K k := by
  funext p
  unfold voidMap
  rw [voided_step l K p k h]
  by_cases h8 : l[k].kind = 8
  · have : ¬ l[k].known ≤ K := fun e => hn ⟨h8, e⟩
    simp [this]
  · simp [h8]
theorem voidMap_orZ (l : List Rep) (K p : Int) {n : Nat} (hn : n = l.length) : orZ (.bool false) Value.bool (voidMap l K n p) = .bool (voided l K p) := by
  subst hn
  unfold voidMap
  rw [List.take_length]
  rcases voided l K p <;> rfl
/-- A report counts, by these voids. -/
def countsB (l : List Rep) (K : Int) (x : Rep) : Bool := decide (x.kind ≠ 8) && decide (x.known ≤ K) && !voided l K x.id
def countE (L : List Ent) (K : Int) : List Ent := L.filter fun e => countsB (reps L) K e.1
theorem countE_reps (L : List Ent) (K : Int) : reps (countE L K) = counting (reps L) K := by
  unfold countE counting countsB
  rw [List.filter_map]
  rfl
theorem bool_zeroV (w : World) : (zeroValue 4).run Tryz.prog w = .ok (.bool false) w := by kernel_rfl
theorem mapB_u : Tryz.prog.underlying 69 = some (.map 3 4) := by kernel_rfl
set_option maxHeartbeats 8000000 in
theorem counting_any (A : Option Addr) (cap : Nat) (L : List Ent) (K : Int) (w : World) (hA : EntsAt w A L) (hl : L.length ≤ 210) :
    Calls Tryz.prog 80 #[.slice A L.length cap, .int .i64 K] w fun e w' => ∃ v, e = .returned v ∧ w'.ownsRow w.heap.size 46 15 v (countE L K).length (flat (countE L K)) ∧ Below w.heap.size w w' := by
  have HA := hid hA
  clear hA
  have hmm := @run_makeMap Tryz.prog
  obtain ⟨W, hW⟩ : ∃ W, w.alloc (.map #[] 0) = W := ⟨_, rfl⟩
  have hm0 : MapOf W w.heap.size Value.bool (voidMap (reps L) K 0) := by
    rw [voidMap_zero, ← hW]
    exact MapOf.new w
  have hbW : Below w.heap.size w W := by
    rw [← hW]
    exact (Below.refl _ _).alloc (Nat.le_refl _) _
  have HM0 := hid hm0
  have HBW := hid hbW
  clear hm0 hbW
  go_enter Tryz.func80, Tryz.ntmps80
  go_wp2_with fail
  go_loopg [14] (L.length) (fun g i wr => ∃ k : Nat, k ≤ L.length ∧ g = L.length - k ∧ i = .int .i64 k ∧ Hid (MapOf wr w.heap.size Value.bool (voidMap (reps L) K k)) ∧ Hid (Below w.heap.size w wr))
  case atStart => exact ⟨0, by omega, by omega, rfl, HM0, HBW⟩
  case round =>
    obtain ⟨k, hk, hgk, rfl, hmp, hbw⟩ := hrel
    by_cases hlt : k < L.length
    · obtain ⟨b, off, hAe, hc⟩ := (HA.out.rows.kept (Kept.of_below hbw.out)) (by omega)
      subst hAe
      have hrange := hc k hlt
      have i0 : (0 : Int) ≤ k := by omega
      have i1 : (k : Int) < L.length := by omega
      obtain ⟨⟨r, P, c⟩, hx⟩ : ∃ x, L[k] = x := ⟨_, rfl⟩
      rw [hx] at hrange
      have HR := hid hrange
      have hrx : (reps L)[k]'(by simpa using hlt) = r := by simp [hx]
      have hput := voidMap_put (reps L) K k (by simpa using hlt)
      have hsame := voidMap_same (reps L) K k (by simpa using hlt)
      rw [hrx] at hput hsame
      have HPUT := hid hput
      have HSAME := hid hsame
      clear hc hrange hx hrx hput hsame
      have go2 : ∀ W2, Below wr.heap.size wr W2 → Below w.heap.size w W2 := fun W2 h => hbw.out.trans (h.mono hbw.out.size)
      have GO2 := hid go2
      clear go2
      rcases h8 : (r.kind == 8) with _ | _
      · have HS := hid (HSAME.out (fun h => by have := h.1; simp [this] at h8))
        go_wp2_with (first | refine load_rep_mid rfl _ rfl _ _ rfl HR.out ?_ | (refine store_rep_new rfl _ _ rfl rfl rfl rfl rfl ?_; intro W2 hbx2 hb2 hlt2; obtain ⟨c0, c1, c2, c3, c4, c5, c6, c7, c8, c9, c10, c11, c12, c13, c14⟩ := hbx2.at_; have HB2 := hid (GO2.out _ hb2); have HM2 := hid (hmp.out.below hb2); clear hbx2 hb2 c4 c5 c6 c7 c8 c9 c10 c11 c12))
        go_roundg (L.length - (k + 1))
        case measure => omega
        case rel => exact ⟨k + 1, by omega, rfl, by go_num, by rw [HS.out]; exact HM2, HB2⟩
      · by_cases hkn : r.known ≤ K
        · have HS := hid (HPUT.out (by simpa using h8) hkn)
          go_wp2_with (first | refine load_rep_mid rfl _ rfl _ _ rfl HR.out ?_ | (refine store_rep_new rfl _ _ rfl rfl rfl rfl rfl ?_; intro W2 hbx2 hb2 hlt2; obtain ⟨c0, c1, c2, c3, c4, c5, c6, c7, c8, c9, c10, c11, c12, c13, c14⟩ := hbx2.at_; have HB2 := hid (GO2.out _ hb2); obtain ⟨w4, hrn, hm4, hg4⟩ := (hmp.out.below hb2).put mapB_u r.of true; have HM4 := hid hm4; have HB4 := hid (HB2.out.grown hg4 HB2.out.size (fun j e => by cases e; exact Nat.le_refl _)); clear hbx2 hb2 c4 c5 c6 c7 c8 c9 c10 c11 c12 hm4 hg4))
          go_roundg (L.length - (k + 1))
          case measure => omega
          case rel => exact ⟨k + 1, by omega, rfl, by go_num, by rw [HS.out]; exact HM4, HB4⟩
        · have HS := hid (HSAME.out (fun h => hkn h.2))
          go_wp2_with (first | refine load_rep_mid rfl _ rfl _ _ rfl HR.out ?_ | (refine store_rep_new rfl _ _ rfl rfl rfl rfl rfl ?_; intro W2 hbx2 hb2 hlt2; obtain ⟨c0, c1, c2, c3, c4, c5, c6, c7, c8, c9, c10, c11, c12, c13, c14⟩ := hbx2.at_; have HB2 := hid (GO2.out _ hb2); have HM2 := hid (hmp.out.below hb2); clear hbx2 hb2 c4 c5 c6 c7 c8 c9 c10 c11 c12))
          go_roundg (L.length - (k + 1))
          case measure => omega
          case rel => exact ⟨k + 1, by omega, rfl, by go_num, by rw [HS.out]; exact HM2, HB2⟩
    · obtain rfl : k = L.length := by omega
      clear HM0 HBW hW
      have HM1 := hmp
      have HB1 := hbw
      clear hmp hbw hlt hk hgk
      obtain ⟨W1, hW1⟩ : ∃ W1, W1 = wr := ⟨_, rfl⟩
      subst hW1
      go_wp2_with fail
      go_loopg [8, 33] (L.length) (fun g v i wr => ∃ k : Nat, k ≤ L.length ∧ g = L.length - k ∧ i = .int .i64 k ∧ Hid (wr.ownsRow W1.heap.size 46 15 v ((L.take k).filter fun e => countsB (reps L) K e.1).length (flat ((L.take k).filter fun e => countsB (reps L) K e.1))) ∧ Hid (Below W1.heap.size W1 wr))
      case atStart => exact ⟨0, by omega, by omega, rfl, hid (World.ownsRow_nil _ _ _ _), hid (Below.refl _ _)⟩
      case round =>
        obtain ⟨k, hk, hgk, rfl, hown, hbw⟩ := hrel
        have hbw2 := hid (HB1.out.trans (hbw.out.mono HB1.out.size))
        by_cases hlt : k < L.length
        · obtain ⟨b, off, hAe, hc⟩ := (HA.out.rows.kept (Kept.of_below hbw2.out)) (by omega)
          subst hAe
          have hrange := hc k hlt
          have i0 : (0 : Int) ≤ k := by omega
          have i1 : (k : Int) < L.length := by omega
          have hfs := filter_snoc (fun e : Ent => countsB (reps L) K e.1) L k hlt
          have hfl := filter_take_le (fun e : Ent => countsB (reps L) K e.1) L k
          obtain ⟨⟨r, P, c⟩, hx⟩ : ∃ x, L[k] = x := ⟨_, rfl⟩
          rw [hx] at hrange hfs
          obtain ⟨F, hF⟩ : ∃ F, (L.take k).filter (fun e : Ent => countsB (reps L) K e.1) = F := ⟨_, rfl⟩
          rw [hF] at hfs hown hfl
          have HR := hid hrange
          have HFS := hid hfs
          have HFL := hid hfl
          clear hc hrange hx hfs hF hfl
          have go2 : ∀ W2, Below wr.heap.size wr W2 → Below W1.heap.size W1 W2 := fun W2 h => hbw.out.trans (h.mono hbw.out.size)
          have GO2 := hid go2
          clear go2
          rcases h8 : (r.kind != 8) with _ | _
          · rw [show countsB (reps L) K r = false from by unfold countsB; rw [show decide (r.kind ≠ 8) = false from by simpa using h8]; rfl] at HFS
            simp only [Bool.false_eq_true, if_false, List.append_nil] at HFS
            go_wp2_with (first | refine load_rep_mid rfl _ rfl _ _ rfl HR.out ?_ | (refine store_rep_new rfl _ _ rfl rfl rfl rfl rfl ?_; intro W2 hbx2 hb2 hlt2; obtain ⟨c0, c1, c2, c3, c4, c5, c6, c7, c8, c9, c10, c11, c12, c13, c14⟩ := hbx2.at_; have HB2 := hid (GO2.out _ hb2); have HO2 := hid (own_below hown.out hb2); clear hbx2 hb2 c2 c4 c5 c6 c7 c8 c9 c10 c11 c12 c13 c14))
            go_roundg (L.length - (k + 1))
            case measure => omega
            case rel => exact ⟨k + 1, by omega, rfl, by go_num, by rw [HFS.out]; exact HO2, HB2⟩
          by_cases hkn : r.known ≤ K
          · rcases hv : voided (reps L) K r.id with _ | _
            · have HV := hid hv
              rw [show countsB (reps L) K r = true from by unfold countsB; rw [hv, decide_eq_true hkn, show decide (r.kind ≠ 8) = true from by simpa using h8]; rfl] at HFS
              simp only [if_true] at HFS
              clear hv
              go_wp2_with (first | refine load_rep_mid rfl _ rfl _ _ rfl HR.out ?_ | (refine store_rep_new rfl _ _ rfl rfl rfl rfl rfl ?_; intro W2 hbx2 hb2 hlt2; obtain ⟨c0, c1, c2, c3, c4, c5, c6, c7, c8, c9, c10, c11, c12, c13, c14⟩ := hbx2.at_; have HB2 := hid (GO2.out _ hb2); have hlk := (HM1.out.below (hbw.out.trans (hb2.mono hbw.out.size))).look mapB_u (.bool false) (bool_zeroV _) r.id; rw [voidMap_orZ _ _ _ (by simp), HV.out] at hlk; have HBX2 := hid hbx2; obtain ⟨v', w4, hrn, hown4, hb4⟩ := app_rep (w := W2) (base := W1.heap.size) (r, P, c) (own_below hown.out hb2) (by have := HFL.out; omega) HB2.out.size; have HO4 := hid hown4; have HR2 := hid hrn; have HB4 := hid (HB2.out.trans hb4); clear hbx2 hb2 hown4 hb4 hrn c2 c4 c5 c6 c7 c8 c9 c10 c11 c12 c13 c14) | refine load_rep rfl _ rfl _ rfl HBX2.out ?_ | refine build_rep rfl _ rfl rfl ?_ | (at_builtin; refine wpList_app rfl rfl rfl rfl rfl HR2.out ?_))
              go_roundg (L.length - (k + 1))
              case measure => omega
              case rel => exact ⟨k + 1, by omega, rfl, by go_num, by rw [HFS.out]; exact HO4, HB4⟩
            · have HV := hid hv
              rw [show countsB (reps L) K r = false from by unfold countsB; rw [hv, Bool.not_true, Bool.and_false]] at HFS
              simp only [Bool.false_eq_true, if_false, List.append_nil] at HFS
              clear hv
              go_wp2_with (first | refine load_rep_mid rfl _ rfl _ _ rfl HR.out ?_ | (refine store_rep_new rfl _ _ rfl rfl rfl rfl rfl ?_; intro W2 hbx2 hb2 hlt2; obtain ⟨c0, c1, c2, c3, c4, c5, c6, c7, c8, c9, c10, c11, c12, c13, c14⟩ := hbx2.at_; have HB2 := hid (GO2.out _ hb2); have HO2 := hid (own_below hown.out hb2); have hlk := (HM1.out.below (hbw.out.trans (hb2.mono hbw.out.size))).look mapB_u (.bool false) (bool_zeroV _) r.id; rw [voidMap_orZ _ _ _ (by simp), HV.out] at hlk; clear hbx2 hb2 c2 c4 c5 c6 c7 c8 c9 c10 c11 c12 c13 c14))
              go_roundg (L.length - (k + 1))
              case measure => omega
              case rel => exact ⟨k + 1, by omega, rfl, by go_num, by rw [HFS.out]; exact HO2, HB2⟩
          · rw [show countsB (reps L) K r = false from by unfold countsB; rw [decide_eq_false hkn, Bool.and_false, Bool.false_and]] at HFS
            simp only [Bool.false_eq_true, if_false, List.append_nil] at HFS
            go_wp2_with (first | refine load_rep_mid rfl _ rfl _ _ rfl HR.out ?_ | (refine store_rep_new rfl _ _ rfl rfl rfl rfl rfl ?_; intro W2 hbx2 hb2 hlt2; obtain ⟨c0, c1, c2, c3, c4, c5, c6, c7, c8, c9, c10, c11, c12, c13, c14⟩ := hbx2.at_; have HB2 := hid (GO2.out _ hb2); have HO2 := hid (own_below hown.out hb2); clear hbx2 hb2 c2 c4 c5 c6 c7 c8 c9 c10 c11 c12 c13 c14))
            go_roundg (L.length - (k + 1))
            case measure => omega
            case rel => exact ⟨k + 1, by omega, rfl, by go_num, by rw [HFS.out]; exact HO2, HB2⟩
        · obtain rfl : k = L.length := by omega
          go_wp2_with fail
          go_ret
          have := hown.out
          rw [List.take_length] at this
          exact ⟨_, rfl, own_lo this HB1.out.size, hbw2.out⟩
section
open Go.RowKit
/-- The rows of w stand in w'. -/
def Calm (w w' : World) : Prop := ∀ (b : Nat) (cs : Array Value) (t : TypeId) (fr : Nat × Nat), w.heap[b]? = some (Obj.cells cs t fr) → w'.heap[b]? = some (Obj.cells cs t fr)
theorem Calm.refl (w : World) : Calm w w := fun _ _ _ _ h => h
theorem Calm.trans {a b c : World} (h : Calm a b) (k : Calm b c) : Calm a c := fun _ _ _ _ e => k _ _ _ _ (h _ _ _ _ e)
theorem Calm.of_below {w w' : World} (h : Below w.heap.size w w') : Calm w w' := fun b _ _ _ e => (h.block b (Array.getElem?_eq_some_iff.1 e).1).trans e
theorem Calm.drew (w : World) : Calm w w.drew := fun _ _ _ _ h => h
theorem Calm.kept {w w' : World} (h : Calm w w') : Kept w w' := fun a v hv => by
  rcases he : w.heap[a.block]? with _ | o
  · simp [World.cell?, he] at hv
  · rcases o with ⟨cs, t, fr⟩ | _
    case cells =>
      have := h _ _ _ _ he
      exact (World.cell?_of_block (this.trans he.symm)).trans hv
    all_goals simp [World.cell?, he] at hv
theorem Calm.of_put {β : Type} {w w' : World} {r : Nat} {ev : β → Value} {f : Int → Option β} (h : MapOf w r ev f) (hg : w.grownBy w' (some r)) : Calm w w' := fun b cs t fr e => by
  obtain ⟨m, ⟨es, c, h1, _⟩, _⟩ := h
  have hne : b ≠ r := fun e2 => by rw [e2, h1] at e; cases e
  exact (hg.block b (Array.getElem?_eq_some_iff.1 e).1 (fun e2 => hne (by cases e2; rfl))).trans e
theorem BoxIs.calm {w w' : World} {b : Nat} {r : Rep} {A : Option Addr} {c : Nat} (h : BoxIs w b r A c) (k : Calm w w') : BoxIs w' b r A c := k _ _ _ _ h
/-- What is written at each of some keys. -/
def upd {β : Type} (f : Int → Option β) (xs : List Int) (v : β) (p : Int) : Option β := if p ∈ xs then some v else f p
theorem upd_nil {β : Type} (f : Int → Option β) (v : β) : upd f [] v = f := by
  funext p
  simp [upd]
theorem upd_step {β : Type} (f : Int → Option β) (xs : List Int) (v : β) (k : Nat) (h : k < xs.length) : upd f (xs.take (k + 1)) v = fun p => if p = xs[k] then some v else upd f (xs.take k) v p := by
  funext p
  unfold upd
  rw [List.take_succ_eq_append_getElem h]
  have hm : p ∈ xs.take k ++ [xs[k]] ↔ p ∈ xs.take k ∨ p = xs[k] := by rw [List.mem_append, List.mem_singleton]
  by_cases e : p = xs[k]
  · rw [if_pos (hm.2 (.inr e)), if_pos e]
  · rw [if_neg e]
    by_cases m : p ∈ xs.take k
    · rw [if_pos (hm.2 (.inl m)), if_pos m]
    · rw [if_neg m, if_neg (fun h => (hm.1 h).elim m e)]
/-- The last report of a list that makes a parcel, that uses it up. -/
def makerE (L : List Ent) (p : Int) : Option Ent := L.foldl (fun o e => if p ∈ e.1.makes then some e else o) none
def userE (L : List Ent) (p : Int) : Option Ent := L.foldl (fun o e => if p ∈ e.1.uses then some e else o) none
def hidStepO (p : Int) (h : Option Bool) (r : Rep) : Option Bool := if r.parcel = p then (if r.kind = 5 then some true else if r.kind = 6 then some false else h) else h
def hidE (L : List Ent) (p : Int) : Option Bool := L.foldl (fun o e => hidStepO p o e.1) none
theorem makerE_nil : makerE [] = fun _ => none := rfl
theorem userE_nil : userE [] = fun _ => none := rfl
theorem hidE_nil : hidE [] = fun _ => none := rfl
theorem makerE_step (L : List Ent) (k : Nat) (h : k < L.length) : makerE (L.take (k + 1)) = upd (makerE (L.take k)) L[k].1.makes L[k] := by
  funext p
  unfold makerE upd
  rw [List.take_succ_eq_append_getElem h, List.foldl_append]
  rfl
theorem userE_step (L : List Ent) (k : Nat) (h : k < L.length) : userE (L.take (k + 1)) = upd (userE (L.take k)) L[k].1.uses L[k] := by
  funext p
  unfold userE upd
  rw [List.take_succ_eq_append_getElem h, List.foldl_append]
  rfl
theorem hidE_step (L : List Ent) (k : Nat) (h : k < L.length) : hidE (L.take (k + 1)) = fun p => hidStepO p (hidE (L.take k) p) L[k].1 := by
  funext p
  unfold hidE
  rw [List.take_succ_eq_append_getElem h, List.foldl_append]
  rfl
theorem hid_hides {f : Int → Option Bool} {r : Rep} (h : r.kind = 5) : (fun p => hidStepO p (f p) r) = fun p => if p = r.parcel then some true else f p := by
  funext p
  unfold hidStepO
  by_cases e : r.parcel = p
  · rw [if_pos e, if_pos h, if_pos e.symm]
  · rw [if_neg e, if_neg (fun e2 => e e2.symm)]
theorem hid_shows {f : Int → Option Bool} {r : Rep} (h : r.kind = 6) : (fun p => hidStepO p (f p) r) = fun p => if p = r.parcel then some false else f p := by
  funext p
  unfold hidStepO
  by_cases e : r.parcel = p
  · rw [if_pos e, if_neg (by omega), if_pos h, if_pos e.symm]
  · rw [if_neg e, if_neg (fun e2 => e e2.symm)]
theorem hid_else {f : Int → Option Bool} {r : Rep} (h5 : r.kind ≠ 5) (h6 : r.kind ≠ 6) : (fun p => hidStepO p (f p) r) = f := by
  funext p
  unfold hidStepO
  rw [if_neg h5, if_neg h6, ite_self]
theorem hidE_orZ (L : List Ent) (p : Int) : orZ (.bool false) Value.bool (hidE L p) = .bool (hiddenB (reps L) p) := by
  have h : ∀ (L : List Ent) (o : Option Bool) (b : Bool), orZ (.bool false) Value.bool o = .bool b → orZ (.bool false) Value.bool (L.foldl (fun o e => hidStepO p o e.1) o) = .bool ((reps L).foldl (hidStep p) b) := by
    intro L
    induction L with
    | nil => intro o b h; exact h
    | cons e L ih =>
      intro o b h
      refine ih _ _ ?_
      show orZ (.bool false) Value.bool (hidStepO p o e.1) = .bool (hidStep p b e.1)
      unfold hidStepO hidStep
      by_cases e1 : e.1.parcel = p
      · rw [if_pos e1, if_pos e1]
        by_cases e5 : e.1.kind = 5
        · rw [if_pos e5, if_pos e5]
          rfl
        · rw [if_neg e5, if_neg e5]
          by_cases e6 : e.1.kind = 6
          · rw [if_pos e6, if_pos e6]
            rfl
          · rw [if_neg e6, if_neg e6]
            exact h
      · rw [if_neg e1, if_neg e1]
        exact h
  exact h L none false rfl
/-- What holds of a fold that keeps the last. -/
theorem last_mem {q : Ent → Prop} [DecidablePred q] : ∀ (L : List Ent) (o : Option Ent) (e : Ent), L.foldl (fun o e => if q e then some e else o) o = some e → (e ∈ L ∧ q e) ∨ o = some e
  | [], o, e, h => .inr h
  | x :: L, o, e, h => by
    rw [List.foldl_cons] at h
    rcases last_mem L _ e h with ⟨h1, h2⟩ | h1
    · exact .inl ⟨List.mem_cons_of_mem _ h1, h2⟩
    · split at h1
      · rename_i hq
        cases h1
        exact .inl ⟨by simp, hq⟩
      · exact .inr h1
theorem last_none {q : Ent → Prop} [DecidablePred q] : ∀ (L : List Ent) (o : Option Ent), L.foldl (fun o e => if q e then some e else o) o = none → (∀ e ∈ L, ¬ q e) ∧ o = none
  | [], o, h => ⟨by simp, h⟩
  | x :: L, o, h => by
    rw [List.foldl_cons] at h
    obtain ⟨h1, h2⟩ := last_none L _ h
    split at h2
    · cases h2
    · rename_i hq
      exact ⟨fun e he => by
        rcases List.mem_cons.1 he with rfl | he
        · exact hq
        · exact h1 e he, h2⟩
theorem makerE_some {L : List Ent} {p : Int} {e : Ent} (h : makerE L p = some e) : e ∈ L ∧ p ∈ e.1.makes := by
  rcases last_mem (q := fun e => p ∈ e.1.makes) L none e h with h | h
  · exact h
  · cases h
theorem makerE_none {L : List Ent} {p : Int} (h : makerE L p = none) : ∀ e ∈ L, p ∉ e.1.makes := (last_none (q := fun e => p ∈ e.1.makes) L none h).1
theorem userE_some {L : List Ent} {p : Int} {e : Ent} (h : userE L p = some e) : e ∈ L ∧ p ∈ e.1.uses := by
  rcases last_mem (q := fun e => p ∈ e.1.uses) L none e h with h | h
  · exact h
  · cases h
theorem userE_none {L : List Ent} {p : Int} (h : userE L p = none) : ∀ e ∈ L, p ∉ e.1.uses := (last_none (q := fun e => p ∈ e.1.uses) L none h).1
/-- A store in memory: block s, with its three maps. -/
structure StoreIs (w : World) (s r1 r2 r3 : Nat) (A : Option Addr) (n cap : Nat) (fm fu : Int → Option Ent) (fh : Int → Option Bool) : Prop where
  row : w.heap[s]? = some (.cells #[.slice A n cap, .map (some r1), .map (some r2), .map (some r3)] 84 (0, 0))
  maker : MapOf w r1 evR fm
  user : MapOf w r2 evR fu
  hidden : MapOf w r3 Value.bool fh
  d12 : r1 ≠ r2
  d13 : r1 ≠ r3
  d23 : r2 ≠ r3
section
variable {w w' : World} {s r1 r2 r3 : Nat} {A : Option Addr} {n cap : Nat} {fm fu : Int → Option Ent} {fh : Int → Option Bool}
theorem StoreIs.lt (h : StoreIs w s r1 r2 r3 A n cap fm fu fh) : s < w.heap.size := (Array.getElem?_eq_some_iff.1 h.row).1
theorem StoreIs.below (h : StoreIs w s r1 r2 r3 A n cap fm fu fh) (hb : Below w.heap.size w w') : StoreIs w' s r1 r2 r3 A n cap fm fu fh :=
  ⟨(hb.block s h.lt).trans h.row, h.maker.below hb, h.user.below hb, h.hidden.below hb, h.d12, h.d13, h.d23⟩
theorem StoreIs.cell (h : StoreIs w s r1 r2 r3 A n cap fm fu fh) : w.cell? ⟨s, 0, none⟩ = some (.slice A n cap) ∧ w.cell? ⟨s, 1, none⟩ = some (.map (some r1)) ∧ w.cell? ⟨s, 2, none⟩ = some (.map (some r2)) ∧ w.cell? ⟨s, 3, none⟩ = some (.map (some r3)) := by
  have := h.row
  simp [World.cell?, this]
theorem mapR_u : Tryz.prog.underlying 82 = some (.map 3 46) := by kernel_rfl
theorem StoreIs.putM (h : StoreIs w s r1 r2 r3 A n cap fm fu fh) (p : Int) (r : Rep) (P : Option Addr) (c : Nat) : ∃ w', (Instr.mapUpdate 82 (.map (some r1)) (.int .i64 p) (r.val P c)).run Tryz.prog w = .ok () w' ∧
    StoreIs w' s r1 r2 r3 A n cap (fun q => if q = p then some (r, P, c) else fm q) fu fh ∧ w.grownBy w' (some r1) ∧ Calm w w' := by
  obtain ⟨w', h1, h2, h3⟩ := h.maker.put mapR_u p (r, P, c)
  have hc := Calm.of_put h.maker h3
  refine ⟨w', h1, ⟨hc _ _ _ _ h.row, h2, h.user.same (h3.block _ h.user.lt (fun e => h.d12 (by cases e; rfl))), h.hidden.same (h3.block _ h.hidden.lt (fun e => h.d13 (by cases e; rfl))), h.d12, h.d13, h.d23⟩, h3, hc⟩
theorem StoreIs.putU (h : StoreIs w s r1 r2 r3 A n cap fm fu fh) (p : Int) (r : Rep) (P : Option Addr) (c : Nat) : ∃ w', (Instr.mapUpdate 82 (.map (some r2)) (.int .i64 p) (r.val P c)).run Tryz.prog w = .ok () w' ∧
    StoreIs w' s r1 r2 r3 A n cap fm (fun q => if q = p then some (r, P, c) else fu q) fh ∧ w.grownBy w' (some r2) ∧ Calm w w' := by
  obtain ⟨w', h1, h2, h3⟩ := h.user.put mapR_u p (r, P, c)
  have hc := Calm.of_put h.user h3
  refine ⟨w', h1, ⟨hc _ _ _ _ h.row, h.maker.same (h3.block _ h.maker.lt (fun e => h.d12 (by cases e; rfl))), h2, h.hidden.same (h3.block _ h.hidden.lt (fun e => h.d23 (by cases e; rfl))), h.d12, h.d13, h.d23⟩, h3, hc⟩
theorem StoreIs.putH (h : StoreIs w s r1 r2 r3 A n cap fm fu fh) (p : Int) (b : Bool) : ∃ w', (Instr.mapUpdate 69 (.map (some r3)) (.int .i64 p) (.bool b)).run Tryz.prog w = .ok () w' ∧
    StoreIs w' s r1 r2 r3 A n cap fm fu (fun q => if q = p then some b else fh q) ∧ w.grownBy w' (some r3) ∧ Calm w w' := by
  obtain ⟨w', h1, h2, h3⟩ := h.hidden.put mapB_u p b
  have hc := Calm.of_put h.hidden h3
  refine ⟨w', h1, ⟨hc _ _ _ _ h.row, h.maker.same (h3.block _ h.maker.lt (fun e => h.d13 (by cases e; rfl))), h.user.same (h3.block _ h.user.lt (fun e => h.d23 (by cases e; rfl))), h2, h.d12, h.d13, h.d23⟩, h3, hc⟩
theorem StoreIs.drew (h : StoreIs w s r1 r2 r3 A n cap fm fu fh) : StoreIs w.drew s r1 r2 r3 A n cap fm fu fh :=
  ⟨h.row, h.maker.same rfl, h.user.same rfl, h.hidden.same rfl, h.d12, h.d13, h.d23⟩
end
/-- A new store as a world with a name. -/
theorem store_gen {w : World} {A : Option Addr} {n cap a1 a2 a3 : Nat} {F : World → Prop} (h1 : a1 = w.heap.size) (h2 : a2 = w.heap.size + 1) (h3 : a3 = w.heap.size + 2)
    (h : ∀ W1, StoreIs W1 (w.heap.size + 3) w.heap.size (w.heap.size + 1) (w.heap.size + 2) A n cap (fun _ => none) (fun _ => none) (fun _ => none) → Below w.heap.size w W1 → F W1) :
    F ((((w.alloc (.map #[] 0)).alloc (.map #[] 0)).alloc (.map #[] 0)).alloc (.cells #[.slice A n cap, .map (some a1), .map (some a2), .map (some a3)] 84)) := by
  subst h1 h2 h3
  refine h _ ⟨?_, ⟨[], ⟨#[], 0, ?_, rfl, by simp [Borns]⟩, List.nodup_nil, fun _ => rfl⟩, ⟨[], ⟨#[], 0, ?_, rfl, by simp [Borns]⟩, List.nodup_nil, fun _ => rfl⟩, ⟨[], ⟨#[], 0, ?_, rfl, by simp [Borns]⟩, List.nodup_nil, fun _ => rfl⟩, by omega, by omega, by omega⟩ ?_
  · have : w.heap.size + 3 = (((w.alloc (.map #[] 0)).alloc (.map #[] 0)).alloc (.map #[] 0)).heap.size := by simp
    rw [this, heap_alloc_new]
  · rw [heap_alloc_old _ _ (by simp only [World.size_alloc]; omega), heap_alloc_old _ _ (by simp only [World.size_alloc]; omega), heap_alloc_old _ _ (by simp only [World.size_alloc]; omega), heap_alloc_new]
  · rw [heap_alloc_old _ _ (by simp only [World.size_alloc]; omega), heap_alloc_old _ _ (by simp only [World.size_alloc]; omega)]
    have : w.heap.size + 1 = (w.alloc (.map #[] 0)).heap.size := by simp
    rw [this, heap_alloc_new]
  · rw [heap_alloc_old _ _ (by simp only [World.size_alloc]; omega)]
    have : w.heap.size + 2 = ((w.alloc (.map #[] 0)).alloc (.map #[] 0)).heap.size := by simp
    rw [this, heap_alloc_new]
  · exact ((((Below.refl _ _).alloc (Nat.le_refl _) _).alloc (by simp only [World.size_alloc]; omega) _).alloc (by simp only [World.size_alloc]; omega) _).alloc (by simp only [World.size_alloc]; omega) _
end
/-- A load of a report, as a region that draws its order meets it. -/
theorem run_loadRep {w : World} {g : Nat} {r : Rep} {A : Option Addr} {c : Nat} (hg : BoxIs w g r A c) : (Instr.loadAt 46 (.pointer (some ⟨g, 0, none⟩))).run Tryz.prog w = .ok (r.val A c) w := by
  have := run_loadVar_row (P := Tryz.prog) w g _ _ (r.cells A c) (0, 0) _ hg Tryz.underlying46 rfl rep_info
  simp only [Instr.loadAt, Instr.sureAddr, Sem.run_bind, Sem.run_pure, Result.andThen_ok, this]
theorem uses_len (r : Rep) (h : r.Wf) : r.uses.length ≤ 8 := by
  unfold Rep.uses
  split
  · simp
  · split
    · exact (h.parts (by assumption)).2.1
    · split <;> simp
theorem makes_len (r : Rep) (h : r.Wf) : r.makes.length ≤ 8 := by
  rw [r.makes_eq]; simpa using h.many
set_option maxHeartbeats 8000000 in
theorem stored_any (A : Option Addr) (cap : Nat) (L : List Ent) (w : World) (hA : EntsAt w A L) (hwf : ∀ e ∈ L, e.1.Wf) (hl : L.length ≤ 210) :
    Calls Tryz.prog 88 #[.slice A L.length cap] w fun e w' => ∃ s r1 r2 r3, e = .returned (.pointer (some ⟨s, 0, none⟩)) ∧ StoreIs w' s r1 r2 r3 A L.length cap (makerE L) (userE L) (hidE L) ∧ Below w.heap.size w w' := by
  have HA := hid hA
  have HWF := hid hwf
  clear hA hwf
  have hmm := @run_makeMap Tryz.prog
  go_enter Tryz.func88, Tryz.ntmps88
  go_upto_region 2 with (fail)
  clear hmm
  refine store_gen ?_ ?_ ?_ ?_
  · rfl
  · simp
  · simp
  intro W1 hst hbw
  rw [show w.heap.size + 3 = w.heap.size + 1 + 1 + 1 from rfl, show w.heap.size + 2 = w.heap.size + 1 + 1 from rfl] at hst
  generalize hs : w.heap.size + 1 + 1 + 1 = s at hst ⊢
  generalize hr3 : w.heap.size + 1 + 1 = r3 at hst ⊢
  generalize hr2 : w.heap.size + 1 = r2 at hst ⊢
  obtain ⟨r1, hr1⟩ : ∃ x, x = w.heap.size := ⟨_, rfl⟩
  rw [← hr1] at hst ⊢
  have q1 : Hid (w.heap.size ≤ r1) := hid (by omega)
  have q2 : Hid (w.heap.size ≤ r2) := hid (by omega)
  have q3 : Hid (w.heap.size ≤ r3) := hid (by omega)
  have q4 : Hid (w.heap.size ≤ s) := hid (by omega)
  clear hs hr3 hr2 hr1
  have HST := hid hst
  have HBW := hid hbw
  have HAW := hid (HA.out.below hbw)
  have hsz := hbw.size
  clear hst hbw HA hsz
  go_wp2_with fail
  go_loopg [18] (L.length) (fun g i wr => ∃ k : Nat, k ≤ L.length ∧ g = L.length - k ∧ i = .int .i64 k ∧ Hid (StoreIs wr s r1 r2 r3 A L.length cap (makerE (L.take k)) (userE (L.take k)) (hidE (L.take k))) ∧ Hid (Below w.heap.size w wr) ∧ Hid (EntsAt wr A L))
  case atStart => exact ⟨0, by omega, by omega, rfl, HST, HBW, HAW⟩
  case round =>
    obtain ⟨k, hk, hgk, rfl, hst, hbw, hen⟩ := hrel
    by_cases hlt : k < L.length
    · obtain ⟨b, off, hAe, hc⟩ := hen.out.rows (by omega)
      subst hAe
      have hrange := hc k hlt
      have i0 : (0 : Int) ≤ k := by omega
      have i1 : (k : Int) < L.length := by omega
      have hms := makerE_step L k hlt
      have hus := userE_step L k hlt
      have hhs := hidE_step L k hlt
      have hwf := HWF.out L[k] (List.getElem_mem hlt)
      have hpt := hen.out.parts L[k] (List.getElem_mem hlt)
      obtain ⟨⟨r, P, c⟩, hx⟩ : ∃ x, L[k] = x := ⟨_, rfl⟩
      rw [hx] at hrange hms hus hhs hwf hpt
      obtain ⟨ms, hmsd⟩ : ∃ ms, r.makes = ms := ⟨_, rfl⟩
      obtain ⟨us, husd⟩ : ∃ us, r.uses = us := ⟨_, rfl⟩
      have hml := makes_len r hwf
      have hul := uses_len r hwf
      simp only [hmsd] at hms hml
      simp only [husd] at hus hul
      have HMSD := hid hmsd
      have HUSD := hid husd
      have HR := hid hrange
      have HMS := hid hms
      have HUS := hid hus
      have HHS := hid hhs
      have HW := hid hwf
      have HPT := hid hpt
      clear hc hrange hx hms hus hhs hmsd husd hwf hpt
      go_wp2_with (first | refine load_rep_mid rfl _ rfl _ _ rfl HR.out ?_ | (refine store_rep_new rfl _ _ rfl rfl rfl rfl rfl ?_; intro W2 hbx2 hb2 hlt2; have HB2 := hid (hbw.out.trans (hb2.mono hbw.out.size)); have HS2 := hid (hst.out.below hb2); have HE2 := hid (hen.out.below hb2); have HX2 := hid hbx2; have HPT2 := hid (HPT.out.kept (Kept.of_below hb2)); clear hbx2 hb2) | refine load_rep rfl _ rfl _ rfl HX2.out ?_)
      refine (makes_own r P c W2 HW.out).mono ?_
      rintro e w3 ⟨v3, rfl, ho3, hb3⟩
      rw [HMSD.out] at ho3
      obtain ⟨A3, k3, rfl, hx9⟩ := ownsRow.form ho3
      have HI3 := hid (ownsRow_ints ho3)
      have HB3 := hid (HB2.out.trans (hb3.mono HB2.out.size))
      have HS3 := hid (HS2.out.below hb3)
      have HE3 := hid (HE2.out.below hb3)
      have HX3 := hid (HX2.out.below hb3)
      have HP3 := hid (HPT2.out.kept (Kept.of_below hb3))
      clear ho3 hb3 hx9 HB2 HS2 HE2 HX2
      go_wp2_with fail
      go_loopg [25] (ms.length) (fun g i wq => ∃ j : Nat, j ≤ ms.length ∧ g = ms.length - j ∧ i = .int .i64 j ∧ Hid (StoreIs wq s r1 r2 r3 (some ⟨b, off, none⟩) L.length cap (upd (makerE (L.take k)) (ms.take j) (r, P, c)) (userE (L.take k)) (hidE (L.take k))) ∧ Hid (Below w.heap.size w wq) ∧ Hid (Calm w3 wq))
      case atStart => exact ⟨0, by omega, by omega, rfl, by rw [List.take_zero, upd_nil]; exact HS3, HB3, hid (Calm.refl _)⟩
      case round =>
        obtain ⟨j, hj, hgj, rfl, hst4, hbw4, hcm⟩ := hrel
        by_cases hjlt : j < ms.length
        · obtain ⟨b3, off3, hAe3, hc3⟩ := (HI3.out.kept hcm.out.kept) (by omega)
          subst hAe3
          have hcj := hc3 j hjlt
          have j0 : (0 : Int) ≤ j := by omega
          have j1 : (j : Int) < ms.length := by omega
          have hup := upd_step (makerE (L.take k)) ms (r, P, c) j hjlt
          obtain ⟨p, hp⟩ : ∃ p, ms[j] = p := ⟨_, rfl⟩
          rw [hp] at hcj hup
          have HUP := hid hup
          obtain ⟨s0, s1, s2, s3⟩ := hst4.out.cell
          obtain ⟨w5, hrn, hst5, hg5, hc5⟩ := hst4.out.drew.putM p r P c
          obtain ⟨c0, c1, c2, c3, c4, c5, c6, c7, c8, c9, c10, c11, c12, c13, c14⟩ := (HX3.out.calm hcm.out).at_
          simp only [Rep.val, Rep.cells] at hrn
          have HS5 := hid hst5
          have HB5 := hid ((hbw4.out.drew).grown hg5 hbw4.out.size (fun j e => by cases e; exact q1.out))
          have HC5 := hid (hcm.out.trans ((Calm.drew _).trans hc5))
          clear hc3 hup hp hst5 hg5 hc5
          go_wp2_with fail
          go_region
          go_wp2_with fail
          go_roundg (ms.length - (j + 1))
          case measure => omega
          case rel => exact ⟨j + 1, by omega, rfl, by go_num, by rw [HUP.out]; exact HS5, HB5, HC5⟩
        · obtain rfl : j = ms.length := by omega
          rw [List.take_length, ← HMS.out] at hst4
          obtain ⟨w6, hw6⟩ : ∃ x, x = wr := ⟨_, rfl⟩
          subst hw6
          have HS6 := hst4
          have HB6 := hbw4
          have HE6 := hid (HE3.out.kept hcm.out.kept)
          have HX6 := hid (HX3.out.calm hcm.out)
          have HP6 := hid (HP3.out.kept hcm.out.kept)
          clear hst4 hbw4 hcm HS3 HB3 HE3 HX3 HI3 HP3 hj hgj hjlt
          go_wp2_with (refine load_rep rfl _ rfl _ rfl HX6.out ?_)
          refine (uses_any r P c w6 HP6.out.ints).mono ?_
          rintro e w7 ⟨hb7, A7, k7, rfl, hI7⟩
          rw [HUSD.out] at hI7 ⊢
          have HI7 := hid hI7
          have HB7 := hid (HB6.out.trans (hb7.mono HB6.out.size))
          have HS7 := hid (HS6.out.below hb7)
          have HE7 := hid (HE6.out.below hb7)
          have HX7 := hid (HX6.out.below hb7)
          clear hI7 hb7 HS6 HB6 HE6 HX6 HP6
          go_wp2_with fail
          go_loopg [39] (us.length) (fun g i wq => ∃ j : Nat, j ≤ us.length ∧ g = us.length - j ∧ i = .int .i64 j ∧ Hid (StoreIs wq s r1 r2 r3 (some ⟨b, off, none⟩) L.length cap (makerE (L.take (k + 1))) (upd (userE (L.take k)) (us.take j) (r, P, c)) (hidE (L.take k))) ∧ Hid (Below w.heap.size w wq) ∧ Hid (Calm w7 wq))
          case atStart => exact ⟨0, by omega, by omega, rfl, by rw [List.take_zero, upd_nil]; exact HS7, HB7, hid (Calm.refl _)⟩
          case round =>
            obtain ⟨j, hj, hgj, rfl, hst8, hbw8, hcm8⟩ := hrel
            by_cases hjlt : j < us.length
            · obtain ⟨b8, off8, hAe8, hc8⟩ := (HI7.out.kept hcm8.out.kept) (by omega)
              subst hAe8
              have hcj := hc8 j hjlt
              have j0 : (0 : Int) ≤ j := by omega
              have j1 : (j : Int) < us.length := by omega
              have hup := upd_step (userE (L.take k)) us (r, P, c) j hjlt
              obtain ⟨p, hp⟩ : ∃ p, us[j] = p := ⟨_, rfl⟩
              rw [hp] at hcj hup
              have HUP := hid hup
              obtain ⟨s0, s1, s2, s3⟩ := hst8.out.cell
              obtain ⟨w9, hrn, hst9, hg9, hc9⟩ := hst8.out.drew.putU p r P c
              obtain ⟨c0, c1, c2, c3, c4, c5, c6, c7, c8, c9, c10, c11, c12, c13, c14⟩ := (HX7.out.calm hcm8.out).at_
              simp only [Rep.val, Rep.cells] at hrn
              have HS9 := hid hst9
              have HB9 := hid ((hbw8.out.drew).grown hg9 hbw8.out.size (fun j e => by cases e; exact q2.out))
              have HC9 := hid (hcm8.out.trans ((Calm.drew _).trans hc9))
              clear hc8 hup hp hst9 hg9 hc9
              go_wp2_with fail
              go_region
              go_wp2_with fail
              go_roundg (us.length - (j + 1))
              case measure => omega
              case rel => exact ⟨j + 1, by omega, rfl, by go_num, by rw [HUP.out]; exact HS9, HB9, HC9⟩
            · obtain rfl : j = us.length := by omega
              rw [List.take_length, ← HUS.out] at hst8
              obtain ⟨w10, hw10⟩ : ∃ x, x = wr := ⟨_, rfl⟩
              subst hw10
              obtain ⟨c0, c1, c2, c3, c4, c5, c6, c7, c8, c9, c10, c11, c12, c13, c14⟩ := (HX7.out.calm hcm8.out).at_
              have HE10 := hid (HE7.out.kept hcm8.out.kept)
              obtain ⟨s0, s1, s2, s3⟩ := hst8.out.cell
              clear c0 c1 c2 c5 c6 c7 c8 c9 c10 c11 c12 c13 c14 HI7 HS7 HB7 HE7 HX7 hj hgj hjlt
              rcases h5 : (r.kind == 5) with _ | _
              · rcases h6 : (r.kind == 6) with _ | _
                · have HH := HHS.out
                  rw [hid_else (by simpa using h5) (by simpa using h6)] at HH
                  have HH2 := hid HH
                  clear HH
                  go_wp2_with fail
                  go_roundg (L.length - (k + 1))
                  case measure => omega
                  case rel => exact ⟨k + 1, by omega, rfl, by go_num, by rw [HH2.out]; exact hst8, hbw8, HE10⟩
                · have HH := HHS.out
                  rw [hid_shows (by simpa using h6)] at HH
                  have HH2 := hid HH
                  clear HH
                  obtain ⟨w9, hrn, hst9, hg9, hc9⟩ := hst8.out.drew.putH r.parcel false
                  have HS9 := hid hst9
                  have HB9 := hid ((hbw8.out.drew).grown hg9 hbw8.out.size (fun j e => by cases e; exact q3.out))
                  have HE9 := hid (HE10.out.kept ((Calm.drew _).trans hc9).kept)
                  clear hst9 hg9 hc9
                  go_wp2_with fail
                  go_region
                  go_wp2_with fail
                  go_roundg (L.length - (k + 1))
                  case measure => omega
                  case rel => exact ⟨k + 1, by omega, rfl, by go_num, by rw [HH2.out]; exact HS9, HB9, HE9⟩
              · have HH := HHS.out
                rw [hid_hides (by simpa using h5)] at HH
                have HH2 := hid HH
                clear HH
                obtain ⟨w9, hrn, hst9, hg9, hc9⟩ := hst8.out.drew.putH r.parcel true
                have HS9 := hid hst9
                have HB9 := hid ((hbw8.out.drew).grown hg9 hbw8.out.size (fun j e => by cases e; exact q3.out))
                have HE9 := hid (HE10.out.kept ((Calm.drew _).trans hc9).kept)
                clear hst9 hg9 hc9
                go_wp2_with fail
                go_region
                go_wp2_with fail
                go_roundg (L.length - (k + 1))
                case measure => omega
                case rel => exact ⟨k + 1, by omega, rfl, by go_num, by rw [HH2.out]; exact HS9, HB9, HE9⟩
    · obtain rfl : k = L.length := by omega
      rw [List.take_length] at hst
      go_wp2_with fail
      go_ret
      exact ⟨_, _, _, _, rfl, hst.out, hbw.out⟩
end Go.Proofs.YtfaoillnakhejaaGreat
