/- slices.Delete of one element: of numbers, of lists. -/
import Derived.Test.YtpmdjbjnihhjeaaTrial
import Derived.Deep.RegionLaw
import Derived.Lib.SliceRun
namespace Go.Proofs.Ytpmdjbjnihhjeaa
open Go.RowKit

def asIs : Value → Value := fun v => v
theorem only_cells {X : List Nat} {g : Nat} (hg : g ∈ X) : ∀ (vs : List Value) (o : Nat) {a w : World}, Only X a w → Only X a (w.setCells g o vs)
  | [], _, _, _, h => h
  | v :: r, o, _, _, h => only_cells hg r (o + 1) (h.setCell hg v)
theorem row_shift {w : World} {g i : Nat} {us : List Value} (h : RowAt asIs w g us) (hi : i < us.length) : RowAt asIs (w.setCells g i (us.drop (i + 1))) g (us.eraseIdx i) := fun j hj => by
  have hl : (us.eraseIdx i).length = us.length - 1 := List.length_eraseIdx_of_lt hi
  rw [hl] at hj
  have hsome : ∀ j, j < (us.drop (i + 1)).length → (w.cell? ⟨g, i + j, none⟩).isSome = true := fun j hj => by
    rw [List.length_drop] at hj
    rw [(h (i + j) (by omega)).1]; rfl
  refine ⟨?_, by rw [World.frozen?_setCells]; exact (h j (by omega)).2⟩
  by_cases hji : j < i
  · rw [World.cell?_setCells_out _ _ _ _ _ (fun _ _ => .inl hji), (h j (by omega)).1, List.getElem_eraseIdx_of_lt (by omega) hji]
  · have hin := World.cell?_setCells_in g (us.drop (i + 1)) i w hsome (j - i) (by rw [List.length_drop]; omega)
    rw [show i + (j - i) = j by omega] at hin
    rw [hin, List.getElem_eraseIdx_of_ge (by omega) (by omega), List.getElem_drop]
    simp only [asIs]
    congr 2
    omega
theorem row_out {w : World} {g o : Nat} {us vs : List Value} (h : RowAt asIs w g us) (ho : us.length ≤ o) : RowAt asIs (w.setCells g o vs) g us := fun j hj => by
  refine ⟨?_, by rw [World.frozen?_setCells]; exact (h j hj).2⟩
  rw [World.cell?_setCells_out _ _ _ _ _ (fun _ _ => .inl (by show j < o; omega))]
  exact (h j hj).1

theorem some_cells (b : Nat) : ∀ (vs : List Value) (o : Nat) (w : World) (q : Addr), (w.cell? q).isSome = true → ((w.setCells b o vs).cell? q).isSome = true
  | [], _, _, _, h => h
  | v :: r, o, w, q, h => some_cells b r (o + 1) _ q (by
    obtain ⟨u, hu⟩ := Option.isSome_iff_exists.1 h
    by_cases e : (⟨b, o, none⟩ : Addr) = q
    · subst e; rw [World.cell?_setCell_same _ _ _ hu]; rfl
    · rw [World.cell?_setCell_other _ _ _ _ (fun k => e k)]; exact h)
theorem v22 : ∀ w, (zeroValue 22).run Try.prog w = .ok (.slice none 0 0) w := Try.zeroValue22

set_option maxHeartbeats 4000000 in
set_option maxRecDepth 1000000 in
/-- slices.Delete of one list out of a row of lists. -/
theorem eraseFits_any (g cap i n : Nat) (us : List Value) (w : World) (h : RowAt asIs w g us) (hn : us.length = n) (hc : n ≤ cap) (hm : n ≤ 1000) (hi : i < n) (h1 : ∀ u ∈ us, u.oneCell' = true) :
    Calls Try.prog 78 #[.slice (some ⟨g, 0, none⟩) n cap, .int .i64 i, .int .i64 ((i : Int) + 1)] w fun e w' => e = .returned (.slice (some ⟨g, 0, none⟩) (n - 1) cap) ∧ RowAt asIs w' g (us.eraseIdx i) ∧ Only [g] w w' := by
  obtain ⟨i0, hi0, hz0, hz1, hz2⟩ := fitsl_info
  obtain ⟨news, hnews⟩ : ∃ news, news = us.drop (i + 1) := ⟨_, rfl⟩
  have hlen : news.length = n - (i + 1) := by rw [hnews, List.length_drop, hn]
  have hH : RowAt asIs w.drew g us := h
  obtain ⟨A, hA, hsrc⟩ : ∃ A : Addr, (if cap = i + 1 then some (⟨g, 0, none⟩ : Addr) else some ⟨g, i + 1, none⟩) = some A ∧ Hid (∀ t u, news[t]? = some u → w.drew.cell? (A.add t) = some u) := by
    by_cases h : cap = i + 1
    · refine ⟨⟨g, 0, none⟩, by simp [h], fun t u hu => ?_⟩
      have h0 : news.length = 0 := by rw [hlen]; omega
      rw [List.length_eq_zero_iff.1 h0] at hu
      simp at hu
    · refine ⟨⟨g, i + 1, none⟩, by simp [h], fun t u hu => ?_⟩
      have ht := (List.getElem?_eq_some_iff.1 hu).1
      rw [hlen] at ht
      rw [hnews, List.getElem?_drop, List.getElem?_eq_getElem (by omega)] at hu
      rw [Addr.add_lit, (hH (i + 1 + t) (by omega)).1]
      exact hu
  have s1 : Hid (news.length = (n - (i + 1)) * 1) := by rw [Nat.mul_one]; exact hlen
  have s2 : Hid (∀ u ∈ news, u.oneCell' = true) := fun u hu => by rw [hnews] at hu; exact h1 u (List.mem_of_mem_drop hu)
  have s3 : Hid (∀ t, t < news.length → (w.drew.cell? ⟨g, 0 + i * 1 + t, none⟩).isSome = true ∧ w.drew.frozen? ⟨g, 0 + i * 1 + t, none⟩ = false) := by
    intro t ht
    rw [hlen] at ht
    rw [Nat.mul_one, Nat.zero_add]
    exact ⟨by rw [(hH (i + t) (by omega)).1]; rfl, (hH (i + t) (by omega)).2⟩
  obtain ⟨W1, hW1⟩ : ∃ W1, W1 = w.drew.setCells g (0 + i * 1) news := ⟨_, rfl⟩
  have hr1 : RowAt asIs W1 g (us.eraseIdx i) := by
    rw [hW1, hnews, Nat.mul_one, Nat.zero_add]
    exact row_shift hH (by omega)
  have hf1 : ∀ j, j < n → (W1.cell? ⟨g, j, none⟩).isSome = true ∧ W1.frozen? ⟨g, j, none⟩ = false := fun j hj => by
    rw [hW1]
    exact ⟨some_cells _ _ _ _ _ (by rw [(hH j (by omega)).1]; rfl), by rw [World.frozen?_setCells]; exact (hH j (by omega)).2⟩
  have ho1 : Only [g] w W1 := by rw [hW1]; exact only_cells (by simp) _ _ ((Only.refl _ _).dn 1)
  have hcl : ∀ ty, (Builtin.clear_ #[24] ty #[.slice (some ⟨g, i + (n - (i + 1)), none⟩) (n - (i + (n - (i + 1)))) (cap - (i + (n - (i + 1))))]).run Try.prog W1 = .ok (.tuple #[]) (W1.setCells g (i + (n - (i + 1))) (List.replicate (n - (i + (n - (i + 1)))) (.slice none 0 0))) :=
    fun ty => Go.Lib.run_clear_slice W1 _ _ ty _ fitsl_u v22 rfl rfl g (i + (n - (i + 1))) _ _ (by omega) (fun t ht => (hf1 _ (by omega)).1) (fun t ht => (hf1 _ (by omega)).2)
  have R1 := hid hr1
  have O1 := hid ho1
  have E1 : Hid ((us.eraseIdx i).length = n - 1) := hid (by rw [List.length_eraseIdx_of_lt (by omega), hn])
  have hW : Hid (W1 = w.drew.setCells g (0 + i * 1) news) := hW1
  have hic : i ≤ cap := by omega
  have hjc : i + 1 ≤ cap := by omega
  have z1 : (0 : Int) ≤ (i : Int) + 1 := by omega
  have z2 : (i : Int) + 1 ≤ n := by omega
  have z3 : ((i : Int) + 1).toNat = i + 1 := by omega
  have hne : ((i : Int) == (i : Int) + 1) = false := beq_eq_false_iff_ne.2 (by omega)
  clear hW1 hr1 hf1 ho1 hH h hnews hlen hn h1
  go_enter Try.func78, Try.ntmps78
  go_wp2_with fail
  go_region_law (refine step_append_room rfl (.tmp 22) (.tmp 25) 24 rfl 22 i0 1 fitsl_u hi0 hz1 g 0 i cap (by simp [Act.eval, Act.put]) A (n - (i + 1)) (cap - (i + 1)) news (by simp [Act.eval, Act.put]) s1.out hsrc.out s2.out (by omega) s3.out ?_; rw [← hW.out])
  go_wp2
  go_ret
  refine ⟨by rw [show i + (n - (i + 1)) = n - 1 by omega]; rfl, row_out R1.out ?_, only_cells (by simp) _ _ O1.out⟩
  rw [E1.out]
  omega

/-- slices.Delete of one number. -/
theorem eraseInts_any (g cap i n : Nat) (xs : List Int) (w : World) (h : RowAt (Value.int .i64) w g xs) (hn : xs.length = n) (hc : n ≤ cap) (hm : cap ≤ 9223372036854775807) (hi : i < n) :
    Calls Try.prog 77 #[.slice (some ⟨g, 0, none⟩) n cap, .int .i64 i, .int .i64 ((i : Int) + 1)] w fun e w' => e = .returned (.slice (some ⟨g, 0, none⟩) (n - 1) cap) ∧ RowAt (Value.int .i64) w' g (xs.eraseIdx i) ∧ Only [g] w w' := by
  have hk := Try.slices_Delete_int_cells g 0 n cap i (i + 1) xs w (by omega) hc hm (by omega) (by omega)
    (fun j hj => by rw [Nat.zero_add, (h j hj).1, List.getD_eq_getElem?_getD, List.getElem?_eq_getElem hj]; rfl) (fun j hj => by rw [Nat.zero_add]; exact (h j (by omega)).2)
  rw [show ((i + 1 : Nat) : Int) = (i : Int) + 1 by omega] at hk
  refine hk.mono ?_
  rintro e w' ⟨rfl, q, rfl⟩
  refine ⟨by rw [show i + 1 - i = 1 by omega], ?_, only_cells (by simp) _ _ ((Only.refl _ _).dn q)⟩
  rw [show xs.take n = xs by rw [← hn]; exact List.take_length, ← List.eraseIdx_eq_take_drop_succ]
  have hl : (xs.eraseIdx i).length = n - 1 := by rw [List.length_eraseIdx_of_lt (by omega), hn]
  intro j hj
  refine ⟨?_, by rw [World.frozen?_setCells]; exact (h j (by omega)).2⟩
  have hin := World.cell?_setCells_in g ((xs.eraseIdx i ++ List.replicate (i + 1 - i) 0).map (Value.int .i64)) 0 (w.drewN q) (fun j hj => by
    simp only [List.length_map, List.length_append, List.length_replicate, hl] at hj
    rw [Nat.zero_add]
    show (w.cell? ⟨g, j, none⟩).isSome = true
    rw [(h j (by omega)).1]; rfl) j (by simp only [List.length_map, List.length_append, List.length_replicate]; omega)
  rw [Nat.zero_add] at hin
  rw [hin, List.getElem_map, List.getElem_append_left hj]
end Go.Proofs.Ytpmdjbjnihhjeaa
