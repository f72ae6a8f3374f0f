/- slices.DeleteFunc of the numbers that are a slot: Barred's function. -/
import Derived.Test.YtpmdjbjnihhjeaaErase
import Derived.Laws.EntriesVeiled
namespace Go.Proofs.Ytpmdjbjnihhjeaa
open Go.RowKit

set_option maxHeartbeats 1000000 in
theorem isSlot_any (bx : Nat) (x s : Int) (w : World) (hbx : w.cell? ⟨bx, 0, none⟩ = some (.int .i64 s)) :
    Calls Try.prog 81 #[.int .i64 x, .pointer (some ⟨bx, 0, none⟩)] w fun e w' => e = .returned (.bool (x == s)) ∧ w = w' := by
  go_enter Try.func81, Try.ntmps81
  go_wp2
  go_ret
  exact ⟨rfl, rfl⟩
theorem isSlot_t (bx : Nat) (x s : Int) (w : World) (hbx : w.cell? ⟨bx, 0, none⟩ = some (.int .i64 s)) {t : Bool} (ht : (x == s) = t) :
    Calls Try.prog 81 #[.int .i64 x, .pointer (some ⟨bx, 0, none⟩)] w fun e w' => e = .returned (.bool t) ∧ w = w' := by
  subst ht
  exact isSlot_any bx x s w hbx

set_option maxHeartbeats 1000000 in
theorem indexFunc81_any (g cap bx : Nat) (xs : List Int) (s : Int) (w : World) (hm : xs.length ≤ 1000) (hA : RowAt (Value.int .i64) w g xs)
    (hbx : w.cell? ⟨bx, 0, none⟩ = some (.int .i64 s)) (hs : s ∈ xs) :
    Calls Try.prog 91 #[.slice (some ⟨g, 0, none⟩) xs.length cap, .func (.func 81) #[] #[.pointer (some ⟨bx, 0, none⟩)]] w fun e w' => (∃ i : Nat, e = .returned (.int .i64 i) ∧ ∃ h : i < xs.length, xs[i] = s ∧ s ∉ xs.take i) ∧ w = w' := by
  have HA := hid hA
  have HS := hid hs
  clear hA hs
  go_enter Try.func91, Try.ntmps91
  go_wp2
  go_loop [8] (fun i => ∃ k : Nat, k ≤ xs.length ∧ i = .int .i64 k ∧ Hid (s ∉ xs.take k)) (fun i => xs.length - (intOf i).toNat)
  case atStart => exact ⟨0, by omega, rfl, hid (by simp)⟩
  case round =>
    obtain ⟨k, hk, rfl, hn⟩ := hrel
    by_cases hlt : k < xs.length
    · have hcell := (HA.out k hlt).1
      rcases hq : (xs[k] == s) with _ | _
      · have HQ := hid hq
        clear hq
        go_wp2_with (go_at_call 81; refine (isSlot_t bx xs[k] s _ hbx HQ.out).mono ?_; rintro e w' ⟨rfl, rfl⟩)
        go_round
        case rel => exact ⟨k + 1, by omega, by go_num, hid (by
          rw [List.take_succ_eq_append_getElem hlt]
          simp only [List.mem_append, List.mem_singleton, not_or]
          exact ⟨hn.out, fun e => by have := HQ.out; rw [beq_eq_false_iff_ne] at this; exact this e.symm⟩)⟩
        case measure => simp [intOf]; omega
      · have HQ := hid hq
        clear hq
        go_wp2_with (go_at_call 81; refine (isSlot_t bx xs[k] s _ hbx HQ.out).mono ?_; rintro e w' ⟨rfl, rfl⟩)
        go_ret
        exact ⟨⟨k, rfl, hlt, eq_of_beq HQ.out, hn.out⟩, rfl⟩
    · exfalso
      have := hn.out
      rw [List.take_of_length_le (by omega)] at this
      exact this HS.out

/-- The list without a slot. -/
def drop (xs : List Int) (s : Int) : List Int := xs.filter (fun x => !(x == s))

/-- What stands in the row when j numbers have been looked at: i have stayed. -/
structure Swept (xs zs : List Int) (s : Int) (i j : Nat) : Prop where
  len : zs.length = xs.length
  i_lt : i < j
  head : zs.take i = drop (xs.take j) s
  tail : ∀ k, j ≤ k → zs[k]? = xs[k]?
theorem drop_len (xs : List Int) (s : Int) : (drop xs s).length ≤ xs.length := List.length_filter_le _ _
theorem drop_same {xs : List Int} {s : Int} (h : s ∉ xs) : drop xs s = xs := by
  unfold drop
  rw [List.filter_eq_self]
  intro x hx
  have : x ≠ s := fun e => h (e ▸ hx)
  simp [this]
theorem drop_snoc {xs : List Int} {s : Int} {j : Nat} (h : j < xs.length) : drop (xs.take (j + 1)) s = drop (xs.take j) s ++ (if xs[j] == s then [] else [xs[j]]) := by
  unfold drop
  rw [List.take_succ_eq_append_getElem h, List.filter_append]
  congr 1
  cases e : xs[j] == s <;> simp_all
theorem Swept.start {xs : List Int} {s : Int} {i : Nat} (h : i < xs.length) (he : xs[i] = s) (hn : s ∉ xs.take i) : Swept xs xs s i (i + 1) :=
  ⟨rfl, by omega, by rw [drop_snoc h, if_pos (by simp [he]), List.append_nil, drop_same hn], fun _ _ => rfl⟩
theorem Swept.skip {xs zs : List Int} {s : Int} {i j : Nat} (h : Swept xs zs s i j) (hj : j < xs.length) (he : (xs[j] == s) = true) : Swept xs zs s i (j + 1) :=
  ⟨h.len, by have := h.i_lt; omega, by rw [drop_snoc hj, if_pos he, List.append_nil, h.head], fun k hk => h.tail k (by omega)⟩
theorem Swept.keep {xs zs : List Int} {s : Int} {i j : Nat} (h : Swept xs zs s i j) (hj : j < xs.length) (he : (xs[j] == s) = false) : Swept xs (zs.set i xs[j]) s (i + 1) (j + 1) := by
  have hi := h.i_lt
  have hl := h.len
  refine ⟨by rw [List.length_set, hl], by omega, ?_, fun k hk => ?_⟩
  · rw [drop_snoc hj, if_neg (by simp [he]), ← h.head]
    apply List.ext_getElem
    · simp; omega
    · intro n h1 h2
      simp only [List.length_take, List.length_set] at h1
      by_cases e : n = i
      · subst e
        rw [List.getElem_take, List.getElem_set_self, List.getElem_append_right (by simp; omega)]
        simp
      · rw [List.getElem_take, List.getElem_set_ne (by omega), List.getElem_append_left (by simp; omega), List.getElem_take]
  · rw [List.getElem?_set_ne (by omega)]
    exact h.tail k (by omega)

theorem own_size {w : World} {base n g cap : Nat} {e : TypeId} {xs : List Value} (h : w.ownsRow base e 1 (.slice (some ⟨g, 0, none⟩) n cap) n xs) : ∃ cur, w.heap[g]? = some (.cells cur e (0, 0)) ∧ cur.size = cap := by
  rcases h.2 with ⟨h2, _⟩ | ⟨g', cap', cur, h1, _, h2, _, _, h5, _⟩
  · cases h2
  · cases h1
    exact ⟨cur, h2, by simpa using h5⟩
theorem set_block {w : World} {g i : Nat} {cs : Array Value} {t : TypeId} {v : Value} (h : w.heap[g]? = some (.cells cs t (0, 0))) : (w.setCell ⟨g, i, none⟩ v).heap[g]? = some (.cells (cs.setIfInBounds i v) t (0, 0)) := by
  simp only [World.setCell, Array.getElem?_modify, if_true, h]
  rfl
theorem size_set {w : World} {g i cap : Nat} {t : TypeId} {v : Value} (h : ∃ cur, w.heap[g]? = some (.cells cur t (0, 0)) ∧ cur.size = cap) : ∃ cur, (w.setCell ⟨g, i, none⟩ v).heap[g]? = some (.cells cur t (0, 0)) ∧ cur.size = cap := by
  obtain ⟨cur, h1, h2⟩ := h
  exact ⟨_, set_block h1, by simpa using h2⟩
theorem size_cells {g cap : Nat} {t : TypeId} : ∀ (vs : List Value) (o : Nat) {w : World}, (∃ cur, w.heap[g]? = some (.cells cur t (0, 0)) ∧ cur.size = cap) → ∃ cur, (w.setCells g o vs).heap[g]? = some (.cells cur t (0, 0)) ∧ cur.size = cap
  | [], _, _, h => h
  | _ :: r, o, _, h => size_cells r (o + 1) (size_set h)
/-- A row of the call's own, by its cells. -/
theorem own_of_row {w0 w : World} {base g n cap : Nat} {xs : List Value} {ys : List Int} {cur : Array Value} (h : w0.ownsRow base 3 1 (.slice (some ⟨g, 0, none⟩) n cap) n xs) (hc : w.heap[g]? = some (.cells cur 3 (0, 0))) (hs : cur.size = cap) (hn : ys.length ≤ cap)
    (hr : RowAt (Value.int .i64) w g ys) : w.ownsRow base 3 1 (.slice (some ⟨g, 0, none⟩) ys.length cap) ys.length (ints ys) := by
  rcases h.2 with ⟨h2, _⟩ | ⟨g', cap', cur', h1, hb, _, _, h4, _⟩
  · cases h2
  · cases h1
    refine ⟨by simp [ints], .inr ⟨g, cap, cur, rfl, hb, hc, hn, h4, by simpa using hs, ?_⟩⟩
    apply List.ext_getElem
    · simp [ints]; omega
    · intro j j1 j2
      simp only [ints, List.length_map] at j2
      have hcell := (hr j j2).1
      simp only [World.cell?, hc] at hcell
      rw [List.getElem_take]
      simp only [ints, List.getElem_map]
      have hj : j < cur.size := by omega
      simpa [hj] using hcell

set_option maxRecDepth 100000 in
set_option maxHeartbeats 4000000 in
theorem dropped_any (g cap bx : Nat) (xs : List Int) (s : Int) (w : World) (hm : xs.length ≤ 1000) (hc : xs.length ≤ cap) (n₀ : Nat) (hO : w.ownsRow n₀ 3 1 (.slice (some ⟨g, 0, none⟩) xs.length cap) xs.length (ints xs))
    (hbx : w.cell? ⟨bx, 0, none⟩ = some (.int .i64 s)) (hg : bx ≠ g) (hs : s ∈ xs) :
    Calls Try.prog 80 #[.slice (some ⟨g, 0, none⟩) xs.length cap, .func (.func 81) #[] #[.pointer (some ⟨bx, 0, none⟩)]] w fun e w' =>
      e = .returned (.slice (some ⟨g, 0, none⟩) (drop xs s).length cap) ∧ w'.ownsRow n₀ 3 1 (.slice (some ⟨g, 0, none⟩) (drop xs s).length cap) (drop xs s).length (ints (drop xs s)) ∧ Only [g] w w' := by
  have hA : RowAt (Value.int .i64) w g xs := RowAt.of_own hO
  have HO := hid hO
  have HBK : Hid (∃ cur, w.heap[g]? = some (.cells cur 3 (0, 0)) ∧ cur.size = cap) := hid (own_size hO)
  have HA := hid hA
  have HI := hid (indexFunc81_any g cap bx xs s w hm hA hbx hs)
  have HBX := hid hbx
  clear hA hs hbx hO
  go_enter Try.func80, Try.ntmps80
  go_wp2_with fail
  refine HI.out.mono ?_
  rintro e w' ⟨⟨i0, rfl, hi0, he, hn⟩, rfl⟩
  have z0 := hid (show i0 + 1 ≤ xs.length by omega)
  have d1 : ((i0 : Int) == -1) = false := beq_eq_false_iff_ne.2 (by omega)
  have SW := hid (Swept.start hi0 he hn)
  clear HI hn he
  go_wp2_with fail
  go_loopg [5, 6, 7] (xs.length - (i0 + 1)) (fun g' i j v wr => ∃ (a c : Nat) (zs : List Int), c ≤ xs.length ∧ g' = xs.length - c ∧ i = .int .i64 a ∧ j = .int .i64 c ∧ Hid (Swept xs zs s a c) ∧ Hid (RowAt (Value.int .i64) wr g zs) ∧ Hid (∃ cur, wr.heap[g]? = some (.cells cur 3 (0, 0)) ∧ cur.size = cap) ∧ Hid (Only [g] w wr))
  case atStart => exact ⟨i0, i0 + 1, xs, z0.out, by omega, rfl, by go_num, SW, HA, HBK, hid (Only.refl _ _)⟩
  case round =>
    obtain ⟨a, c, zs, hc1, hgk, rfl, rfl, hsw, hrow, hbk, ho⟩ := hrel
    have l1 := hsw.out.i_lt
    have l2 := hsw.out.len
    have HL2 := hid l2
    have hb2 := hid ((ho.out.cell (p := ⟨bx, 0, none⟩) (cell_lt HBX.out) (by simpa using hg)).trans HBX.out)
    by_cases hlt : c < xs.length
    · have hz : c < zs.length := by omega
      have hcell := (hrow.out c hz).1
      have ha : a < zs.length := by omega
      have hcell2 := (hrow.out a ha).1
      have hfr2 := (hrow.out a ha).2
      have hzx : Hid (zs[c] = xs[c]) := hid (by have := hsw.out.tail c (Nat.le_refl _); rw [List.getElem?_eq_getElem hz, List.getElem?_eq_getElem hlt] at this; exact Option.some.inj this)
      have i0' : (0 : Int) ≤ c := by omega
      have i1 : (c : Int) < xs.length := by omega
      have i2 : (0 : Int) ≤ a := by omega
      have i3 : (a : Int) < xs.length := by omega
      clear l2
      rw [hzx.out] at hcell
      rcases hq : (xs[c] == s) with _ | _
      · have HQ := hid hq
        clear hq
        go_wp2_with fail
        refine (isSlot_t bx xs[c] s _ hb2.out HQ.out).mono ?_
        rintro e w' ⟨rfl, rfl⟩
        go_wp2_with fail
        go_roundg (xs.length - (c + 1))
        case measure => omega
        case rel => exact ⟨a + 1, c + 1, _, by omega, rfl, by go_num, by go_num, hid (hsw.out.keep hlt HQ.out), hid (hrow.out.set a xs[c]), hid (size_set hbk.out), hid (ho.out.setCell (by simp) _)⟩
      · have HQ := hid hq
        clear hq
        go_wp2_with fail
        refine (isSlot_t bx xs[c] s _ hb2.out HQ.out).mono ?_
        rintro e w' ⟨rfl, rfl⟩
        go_wp2_with fail
        go_roundg (xs.length - (c + 1))
        case measure => omega
        case rel => exact ⟨a, c + 1, zs, by omega, rfl, by go_num, by go_num, hid (hsw.out.skip hlt HQ.out), hrow, hbk, ho⟩
    · obtain rfl : c = xs.length := by omega
      have hcl : ∀ ty, (Builtin.clear_ #[22] ty #[.slice (some ⟨g, a, none⟩) (xs.length - a) (cap - a)]).run Try.prog wr = .ok (.tuple #[]) (wr.setCells g a (List.replicate (xs.length - a) (.int .i64 0))) :=
        fun ty => Go.Lib.run_clear_slice wr _ _ ty _ intsl_u Try.zeroValue3 rfl rfl g a _ _ (by omega) (fun t ht => by rw [(hrow.out (a + t) (by omega)).1]; rfl) (fun t ht => (hrow.out (a + t) (by omega)).2)
      have hne : ¬ cap = a := by omega
      have z1 : (a : Int) ≤ xs.length := by omega
      have z2 : (a : Int) ≤ cap := by omega
      clear hlt hgk l2
      go_wp2
      go_ret
      have hl3 := HL2.out
      have hle : (drop xs s).length = a := by
        have h := congrArg List.length hsw.out.head
        rw [List.take_length, List.length_take] at h
        omega
      have hd : drop xs s = zs.take a := by rw [hsw.out.head, List.take_length]
      have hr : RowAt (Value.int .i64) (wr.setCells g a (List.replicate (xs.length - a) (.int .i64 0))) g (drop xs s) := fun j hj => by
        rw [hle] at hj
        refine ⟨?_, by rw [World.frozen?_setCells]; exact (hrow.out j (by omega)).2⟩
        rw [World.cell?_setCells_out _ _ _ _ _ (fun _ _ => .inl hj), (hrow.out j (by omega)).1]
        simp only [hd, List.getElem_take]
      obtain ⟨cur, hcur, hsz⟩ := size_cells (List.replicate (xs.length - a) (.int .i64 0)) a hbk.out
      exact ⟨by rw [hle]; rfl, own_of_row HO.out hcur hsz (by rw [hle]; omega) hr, only_cells (by simp) _ _ ho.out⟩
end Go.Proofs.Ytpmdjbjnihhjeaa
