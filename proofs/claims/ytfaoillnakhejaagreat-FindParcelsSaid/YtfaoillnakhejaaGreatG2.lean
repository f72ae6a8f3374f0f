/- How a report lies in memory, and as a value; what it makes, uses up and names; Small helpers of the program: in, isParcel, isSpan; slices.Index and Contains of numbers; appends to rows of a call's own; touches and makes. -/
import Derived.Test.YtfaoillnakhejaaGreatG0
import Derived.Test.YtfaoillnakhejaaGreatG1
import Derived.Below
import Derived.Laws.AppendOwn
import Derived.Laws.Rows
import Derived.OwnWalk
namespace Go.Proofs.YtfaoillnakhejaaGreat
set_option maxRecDepth 100000
open Go.RowKit
def Rep.cells (r : Rep) (A : Option Addr) (c : Nat) : Array Value :=
  #[.int .i64 r.id, .int .i64 r.known, .int .i64 r.hour, .int .u8 r.kind, .int .i64 r.parcel, .int .i64 r.count, .slice A r.parts.length c, .int .i64 r.cell, .string r.mark, .string r.goods, .int .i64 r.lo, .int .i64 r.hi, .int .i64 r.party, .int .i64 r.other, .int .i64 r.of]
/-- The value of a report whose parts lie at A. -/
abbrev Rep.val (r : Rep) (A : Option Addr) (c : Nat) : Value := .agg (r.cells A c)
theorem one_int (w : World) (x : Int) {g : Nat} (hg : g = w.heap.size) : IntsAt (w.alloc (.cells #[.int .i64 x] 3)) (some ⟨g, 0, none⟩) [x] := fun _ => ⟨g, 0, rfl, fun j hj => by
  obtain rfl : j = 0 := by simpa using hj
  subst hg
  simp⟩
theorem cell_new (w : World) (cs : Array Value) (T : TypeId) (j : Nat) : (w.alloc (.cells cs T)).cell? ⟨w.heap.size, j, none⟩ = cs[j]? := by
  have : (w.alloc (.cells cs T)).heap[w.heap.size]? = some (.cells cs T (0, 0)) := heap_alloc_new w _
  simp only [World.cell?, this]
  simp
/-- The box of a report: a block of its own. -/
theorem boxR (r : Rep) (A : Option Addr) (c : Nat) (w : World) : ∃ W, w.alloc (.cells (r.cells A c) 46) = W ∧
    (∀ j v, (r.cells A c)[j]? = some v → W.cell? ⟨w.heap.size, j, none⟩ = some v) ∧ Below w.heap.size w W ∧ W.heap.size = w.heap.size + 1 :=
  ⟨_, rfl, fun j v h => by rw [← h]; exact cell_new w _ _ j, (Below.refl _ _).alloc (Nat.le_refl _) _, by simp⟩
/-- A list of numbers that a call hands back. -/
def IntsPost (xs : List Int) (w : World) (e : Ending) (w' : World) : Prop :=
  Below w.heap.size w w' ∧ ∃ A c, e = .returned (.slice A xs.length c) ∧ IntsAt w' A xs
/-- Block b is the box of a report. -/
def BoxAt (w : World) (b : Nat) (r : Rep) (A : Option Addr) (c : Nat) : Prop := w.cell? ⟨b, 0, none⟩ = some (.int .i64 r.id) ∧ w.cell? ⟨b, 1, none⟩ = some (.int .i64 r.known) ∧ w.cell? ⟨b, 2, none⟩ = some (.int .i64 r.hour) ∧ w.cell? ⟨b, 3, none⟩ = some (.int .u8 r.kind) ∧ w.cell? ⟨b, 4, none⟩ = some (.int .i64 r.parcel) ∧ w.cell? ⟨b, 5, none⟩ = some (.int .i64 r.count) ∧ w.cell? ⟨b, 6, none⟩ = some (.slice A r.parts.length c) ∧ w.cell? ⟨b, 7, none⟩ = some (.int .i64 r.cell) ∧ w.cell? ⟨b, 8, none⟩ = some (.string r.mark) ∧ w.cell? ⟨b, 9, none⟩ = some (.string r.goods) ∧ w.cell? ⟨b, 10, none⟩ = some (.int .i64 r.lo) ∧ w.cell? ⟨b, 11, none⟩ = some (.int .i64 r.hi) ∧ w.cell? ⟨b, 12, none⟩ = some (.int .i64 r.party) ∧ w.cell? ⟨b, 13, none⟩ = some (.int .i64 r.other) ∧ w.cell? ⟨b, 14, none⟩ = some (.int .i64 r.of)
/-- A report lies in block b, from o on. -/
def RepAt (w : World) (b o : Nat) (r : Rep) (A : Option Addr) (c : Nat) : Prop := w.cell? ⟨b, o, none⟩ = some (.int .i64 r.id) ∧ w.cell? ⟨b, o + 1, none⟩ = some (.int .i64 r.known) ∧ w.cell? ⟨b, o + 2, none⟩ = some (.int .i64 r.hour) ∧ w.cell? ⟨b, o + 3, none⟩ = some (.int .u8 r.kind) ∧ w.cell? ⟨b, o + 4, none⟩ = some (.int .i64 r.parcel) ∧ w.cell? ⟨b, o + 5, none⟩ = some (.int .i64 r.count) ∧ w.cell? ⟨b, o + 6, none⟩ = some (.slice A r.parts.length c) ∧ w.cell? ⟨b, o + 7, none⟩ = some (.int .i64 r.cell) ∧ w.cell? ⟨b, o + 8, none⟩ = some (.string r.mark) ∧ w.cell? ⟨b, o + 9, none⟩ = some (.string r.goods) ∧ w.cell? ⟨b, o + 10, none⟩ = some (.int .i64 r.lo) ∧ w.cell? ⟨b, o + 11, none⟩ = some (.int .i64 r.hi) ∧ w.cell? ⟨b, o + 12, none⟩ = some (.int .i64 r.party) ∧ w.cell? ⟨b, o + 13, none⟩ = some (.int .i64 r.other) ∧ w.cell? ⟨b, o + 14, none⟩ = some (.int .i64 r.of)
theorem BoxAt.kept {w w' : World} {b : Nat} {r : Rep} {A : Option Addr} {c : Nat} (h : BoxAt w b r A c) (k : Kept w w') : BoxAt w' b r A c := by
  obtain ⟨h0, h1, h2, h3, h4, h5, h6, h7, h8, h9, h10, h11, h12, h13, h14⟩ := h
  exact ⟨k _ _ h0, k _ _ h1, k _ _ h2, k _ _ h3, k _ _ h4, k _ _ h5, k _ _ h6, k _ _ h7, k _ _ h8, k _ _ h9, k _ _ h10, k _ _ h11, k _ _ h12, k _ _ h13, k _ _ h14⟩
theorem RepAt.kept {w w' : World} {b o : Nat} {r : Rep} {A : Option Addr} {c : Nat} (h : RepAt w b o r A c) (k : Kept w w') : RepAt w' b o r A c := by
  obtain ⟨h0, h1, h2, h3, h4, h5, h6, h7, h8, h9, h10, h11, h12, h13, h14⟩ := h
  exact ⟨k _ _ h0, k _ _ h1, k _ _ h2, k _ _ h3, k _ _ h4, k _ _ h5, k _ _ h6, k _ _ h7, k _ _ h8, k _ _ h9, k _ _ h10, k _ _ h11, k _ _ h12, k _ _ h13, k _ _ h14⟩
theorem RepAt.box {w : World} {b : Nat} {r : Rep} {A : Option Addr} {c : Nat} (h : RepAt w b 0 r A c) : BoxAt w b r A c := by
  obtain ⟨h0, h1, h2, h3, h4, h5, h6, h7, h8, h9, h10, h11, h12, h13, h14⟩ := h
  simp only [Nat.zero_add] at *
  exact ⟨h0, h1, h2, h3, h4, h5, h6, h7, h8, h9, h10, h11, h12, h13, h14⟩
/-- The box of a report, in one word. -/
theorem boxB (r : Rep) (A : Option Addr) (c : Nat) (w : World) : ∃ W, w.alloc (.cells (r.cells A c) 46) = W ∧ BoxAt W w.heap.size r A c ∧ Below w.heap.size w W ∧ W.heap.size = w.heap.size + 1 := by
  obtain ⟨W, hW, hc, hb, hz⟩ := boxR r A c w
  exact ⟨W, hW, ⟨hc 0 _ rfl, hc 1 _ rfl, hc 2 _ rfl, hc 3 _ rfl, hc 4 _ rfl, hc 5 _ rfl, hc 6 _ rfl, hc 7 _ rfl, hc 8 _ rfl, hc 9 _ rfl, hc 10 _ rfl, hc 11 _ rfl, hc 12 _ rfl, hc 13 _ rfl, hc 14 _ rfl⟩, hb, hz⟩
/-- Block b is the box of a report, and nothing else. -/
def BoxIs (w : World) (b : Nat) (r : Rep) (A : Option Addr) (c : Nat) : Prop := w.heap[b]? = some (.cells (r.cells A c) 46 (0, 0))
theorem BoxIs.below {w w' : World} {b : Nat} {r : Rep} {A : Option Addr} {c : Nat} (h : BoxIs w b r A c) (hb : Below w.heap.size w w') : BoxIs w' b r A c := by
  have hlt : b < w.heap.size := by
    rcases Nat.lt_or_ge b w.heap.size with h1 | h1
    · exact h1
    · unfold BoxIs at h
      rw [Array.getElem?_eq_none h1] at h
      cases h
  exact (hb.block b hlt).trans h
theorem BoxIs.at_ {w : World} {b : Nat} {r : Rep} {A : Option Addr} {c : Nat} (h : BoxIs w b r A c) : BoxAt w b r A c := by
  have h2 : ∀ j v, (r.cells A c)[j]? = some v → w.cell? ⟨b, j, none⟩ = some v := fun j v hv => by
    unfold BoxIs at h
    simp only [World.cell?, h]
    rw [← hv]
    simp
  exact ⟨h2 0 _ rfl, h2 1 _ rfl, h2 2 _ rfl, h2 3 _ rfl, h2 4 _ rfl, h2 5 _ rfl, h2 6 _ rfl, h2 7 _ rfl, h2 8 _ rfl, h2 9 _ rfl, h2 10 _ rfl, h2 11 _ rfl, h2 12 _ rfl, h2 13 _ rfl, h2 14 _ rfl⟩
theorem boxC (r : Rep) (A : Option Addr) (c : Nat) (w : World) : ∃ W, w.alloc (.cells (r.cells A c) 46) = W ∧ BoxIs W w.heap.size r A c ∧ Below w.heap.size w W ∧ w.heap.size < W.heap.size := by
  refine ⟨_, rfl, heap_alloc_new w _, (Below.refl _ _).alloc (Nat.le_refl _) _, by simp⟩
theorem rep_info : (Tryz.prog.info? 46).map (·.size) = some 15 := by kernel_rfl
/-- A whole report read out of its box. -/
theorem load_rep {ops : Array Oper} {rest : List Oper} {o : Oper} {a : Act} {w : World} {Q : Exit → Act → World → Prop} (hgd : o.guard = none) (x : Operand) (ho : o.op = .load 46 x)
    (g : Nat) (hx : a.eval x = .pointer (some ⟨g, 0, none⟩)) {r : Rep} {A : Option Addr} {c : Nat} (hg : BoxIs w g r A c)
    (h : wpList Tryz.prog ops Q rest (a.put o.dst (r.val A c)) w) : wpList Tryz.prog ops Q (o :: rest) a w := by
  exact wpList_load_row hgd _ x ho g hx _ (r.cells A c) (0, 0) _ hg Tryz.underlying46 rfl rep_info h
theorem load_rep_wp {o : Oper} {a : Act} {w : World} {K : Act → World → Prop} {Q : Exit → Act → World → Prop} (x : Operand) (ho : o.op = .load 46 x)
    (g : Nat) (hx : a.eval x = .pointer (some ⟨g, 0, none⟩)) {r : Rep} {A : Option Addr} {c : Nat} (hg : BoxIs w g r A c)
    (h : K (a.put o.dst (r.val A c)) w) : o.wp Tryz.prog a w K Q := by
  exact wp_load_row _ x ho g hx _ (r.cells A c) (0, 0) _ hg Tryz.underlying46 rfl rep_info h
theorem load_rep_g {ops : Array Oper} {rest : List Oper} {o : Oper} {a : Act} {w : World} {Q : Exit → Act → World → Prop} (hw : Region.wanted o (yielded ops a.tmps) = true) (x : Operand) (ho : o.op = .load 46 x)
    (g : Nat) (hx : a.eval x = .pointer (some ⟨g, 0, none⟩)) {r : Rep} {A : Option Addr} {c : Nat} (hg : BoxIs w g r A c)
    (h : wpList Tryz.prog ops Q rest (a.put o.dst (r.val A c)) w) : wpList Tryz.prog ops Q (o :: rest) a w := by
  unfold wpList
  rw [if_pos hw]
  exact .inl (load_rep_wp x ho g hx hg h)
set_option maxHeartbeats 4000000 in
theorem uses_any (r : Rep) (A : Option Addr) (c : Nat) (w : World) (hA : IntsAt w A r.parts) :
    Calls Tryz.prog 92 #[r.val A c] w (IntsPost r.uses w) := by
  have HA := hid hA
  have HU : Hid (r.uses = if r.kind = 2 then [r.parcel] else if r.kind = 3 then r.parts else if r.kind = 7 then [r.other] else []) := hid rfl
  clear hA
  obtain ⟨W, hW, hbx, hbW, hz⟩ := boxB r A c w
  obtain ⟨c0, c1, c2, c3, c4, c5, c6, c7, c8, c9, c10, c11, c12, c13, c14⟩ := hbx
  have hlt : w.heap.size < W.heap.size := by omega
  have HBW := hid hbW
  clear hbW hz
  by_cases k2 : r.kind = 2
  · have d2 : (r.kind == 2) = true := beq_iff_eq.2 k2
    have e : r.uses = [r.parcel] := by rw [HU.out, if_pos k2]
    clear HU k2
    rw [e]
    clear e
    go_enter Tryz.func92, Tryz.ntmps92
    go_wp2_with fail
    go_ret
    exact ⟨HBW.out.alloc HBW.out.size _, _, _, rfl, one_int _ _ rfl⟩
  have d2 : (r.kind == 2) = false := beq_eq_false_iff_ne.2 k2
  by_cases k3 : r.kind = 3
  · have d3 : (r.kind == 3) = true := beq_iff_eq.2 k3
    have e : r.uses = r.parts := by rw [HU.out, if_neg k2, if_pos k3]
    clear HU k2 k3
    rw [e]
    clear e
    go_enter Tryz.func92, Tryz.ntmps92
    go_wp2_with fail
    go_ret
    exact ⟨HBW.out, _, _, rfl, HA.out.kept (Kept.of_below HBW.out)⟩
  have d3 : (r.kind == 3) = false := beq_eq_false_iff_ne.2 k3
  by_cases k7 : r.kind = 7
  · have d7 : (r.kind == 7) = true := beq_iff_eq.2 k7
    have e : r.uses = [r.other] := by rw [HU.out, if_neg k2, if_neg k3, if_pos k7]
    clear HU k2 k3 k7
    rw [e]
    clear e
    go_enter Tryz.func92, Tryz.ntmps92
    go_wp2_with fail
    go_ret
    exact ⟨HBW.out.alloc HBW.out.size _, _, _, rfl, one_int _ _ rfl⟩
  have d7 : (r.kind == 7) = false := beq_eq_false_iff_ne.2 k7
  have e : r.uses = [] := by rw [HU.out, if_neg k2, if_neg k3, if_neg k7]
  clear HU k2 k3 k7
  rw [e]
  clear e
  go_enter Tryz.func92, Tryz.ntmps92
  go_wp2_with fail
  go_ret
  exact ⟨HBW.out, _, _, rfl, IntsAt.nil _ _⟩
def inB (n a b : Int) : Bool := decide (a ≤ n) && decide (n ≤ b)
set_option maxHeartbeats 400000 in
theorem in_any (n a b : Int) (w : World) : Calls Tryz.prog 65 #[.int .i64 n, .int .i64 a, .int .i64 b] w fun e w' => e = .returned (.bool (inB n a b)) ∧ w = w' := by
  by_cases h1 : a ≤ n
  · by_cases h2 : n ≤ b
    all_goals
      go_enter Tryz.func65, Tryz.ntmps65
      go_wp2
      go_ret
      exact ⟨ret_bool (by simp [inB]; omega), rfl⟩
  · go_enter Tryz.func65, Tryz.ntmps65
    go_wp2
    go_ret
    exact ⟨ret_bool (by simp [inB]; omega), rfl⟩
theorem in_t (n a b : Int) (w : World) {t : Bool} (ht : inB n a b = t) : Calls Tryz.prog 65 #[.int .i64 n, .int .i64 a, .int .i64 b] w fun e w' => e = .returned (.bool t) ∧ w = w' := by
  subst ht
  exact in_any n a b w
set_option maxHeartbeats 400000 in
theorem isParcel_any (n : Int) (w : World) : Calls Tryz.prog 178 #[.int .i64 n] w fun e w' => e = .returned (.bool (parcelB n)) ∧ w = w' := by
  go_enter Tryz.func178, Tryz.ntmps178
  go_wp2_with (go_at_call 65; refine (in_any _ _ _ _).mono ?_; rintro e w' ⟨rfl, rfl⟩)
  go_ret
  exact ⟨ret_bool (by simp [inB, parcelB]), rfl⟩
theorem isParcel_t (n : Int) (w : World) {t : Bool} (ht : parcelB n = t) : Calls Tryz.prog 178 #[.int .i64 n] w fun e w' => e = .returned (.bool t) ∧ w = w' := by
  subst ht
  exact isParcel_any n w
set_option maxHeartbeats 400000 in
theorem isSpan_any (lo hi : Int) (w : World) : Calls Tryz.prog 177 #[.agg #[.int .i64 lo, .int .i64 hi]] w fun e w' => e = .returned (.bool (spanB lo hi)) ∧ Below w.heap.size w w' := by
  rcases h1 : inB lo 1 hi with _ | _
  · go_enter Tryz.func177, Tryz.ntmps177
    go_wp2_with (go_at_call 65; refine (in_t _ _ _ _ h1).mono ?_; rintro e w' ⟨rfl, rfl⟩)
    go_ret
    exact ⟨ret_bool (by simp [inB] at h1; simp [spanB]; omega), (Below.refl _ _).alloc (Nat.le_refl _) _⟩
  · by_cases h2 : hi ≤ 100000
    all_goals
      go_enter Tryz.func177, Tryz.ntmps177
      go_wp2_with (go_at_call 65; refine (in_t _ _ _ _ h1).mono ?_; rintro e w' ⟨rfl, rfl⟩)
      go_ret
      exact ⟨ret_bool (by simp [inB] at h1; rw [Bool.eq_iff_iff]; simp [spanB, h2]; try omega), (Below.refl _ _).alloc (Nat.le_refl _) _⟩
def IndexPost (xs : List Int) (n : Int) (w : World) (e : Ending) (w' : World) : Prop := (∃ k : Int, e = .returned (.int .i64 k) ∧ (0 ≤ k ↔ n ∈ xs)) ∧ w = w'
set_option maxHeartbeats 1000000 in
theorem index_any (A : Option Addr) (cap : Nat) (xs : List Int) (n : Int) (w : World) (hm : xs.length ≤ 1000000) (hA : IntsAt w A xs) :
    Calls Tryz.prog 149 #[.slice A xs.length cap, .int .i64 n] w (IndexPost xs n w) := by
  have HA := hid hA
  clear hA
  go_enter Tryz.func149, Tryz.ntmps149
  go_wp2_with fail
  go_loopg [8] (xs.length) (fun g i wr => wr = w ∧ ∃ k : Nat, k ≤ xs.length ∧ g = xs.length - k ∧ i = .int .i64 k ∧ Hid (∀ j (h : j < xs.length), j < k → xs[j] ≠ n))
  case atStart => exact ⟨rfl, 0, by omega, by omega, rfl, hid (fun j _ h => by omega)⟩
  case round =>
    obtain ⟨rfl, k, hk, hgk, rfl, hno⟩ := hrel
    by_cases hlt : k < xs.length
    · obtain ⟨b, off, rfl, hc⟩ := HA.out (by omega)
      have hck := hc k hlt
      have i0 : (0 : Int) ≤ k := by omega
      have i1 : (k : Int) < xs.length := by omega
      clear hc
      by_cases he : n = xs[k]
      · have d1 : (n == xs[k]) = true := beq_iff_eq.2 he
        have HE := hid he
        clear he
        go_wp2_with fail
        go_ret
        exact ⟨⟨_, rfl, by
          have := List.getElem_mem hlt
          rw [← HE.out] at this
          simp [this]⟩, rfl⟩
      · have d1 : (n == xs[k]) = false := beq_eq_false_iff_ne.2 he
        have HE := hid he
        clear he
        go_wp2_with fail
        go_roundg (xs.length - (k + 1))
        case measure => omega
        case rel => exact ⟨rfl, k + 1, by omega, rfl, by go_num, hid (fun j hj hjk => by
          rcases Nat.lt_or_ge j k with h | h
          · exact hno.out j hj h
          · obtain rfl : j = k := by omega
            exact fun e => HE.out e.symm)⟩
    · obtain rfl : k = xs.length := by omega
      go_wp2_with fail
      go_ret
      refine ⟨⟨_, rfl, ?_⟩, rfl⟩
      constructor
      · intro h; omega
      · intro h
        obtain ⟨j, hj, e⟩ := List.getElem_of_mem h
        exact absurd e (hno.out j hj hj)
set_option maxHeartbeats 400000 in
theorem contains_any (A : Option Addr) (cap : Nat) (xs : List Int) (n : Int) (w : World) (hm : xs.length ≤ 1000000) (hA : IntsAt w A xs) :
    Calls Tryz.prog 113 #[.slice A xs.length cap, .int .i64 n] w fun e w' => e = .returned (.bool (decide (n ∈ xs))) ∧ w = w' := by
  have HA := hid hA
  clear hA
  go_enter Tryz.func113, Tryz.ntmps113
  go_wp2_with fail
  refine (index_any A cap xs n w hm HA.out).mono ?_
  rintro e w' ⟨⟨k, rfl, hk⟩, rfl⟩
  have HK := hid hk
  clear hk
  go_wp2_with fail
  go_ret
  exact ⟨ret_bool (by rw [Bool.eq_iff_iff, decide_eq_true_eq]; simpa using HK.out), rfl⟩
theorem contains_t (A : Option Addr) (cap : Nat) (xs : List Int) (n : Int) (w : World) (hm : xs.length ≤ 1000000) (hA : IntsAt w A xs) {t : Bool} (ht : decide (n ∈ xs) = t) :
    Calls Tryz.prog 113 #[.slice A xs.length cap, .int .i64 n] w fun e w' => e = .returned (.bool t) ∧ w = w' := by
  subst ht
  exact contains_any A cap xs n w hm hA
end Go.Proofs.YtfaoillnakhejaaGreat
