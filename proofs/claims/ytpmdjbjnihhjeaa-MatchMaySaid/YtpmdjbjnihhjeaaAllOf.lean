/- All: all assignments of a board (apart from AllLaw, for MatchMay). -/
import Derived.Test.YtpmdjbjnihhjeaaAllMore
import Derived.Test.YtpmdjbjnihhjeaaWithin
import Derived.Deep.OwnRows
set_option linter.unusedSimpArgs false
namespace Go.Proofs.Ytpmdjbjnihhjeaa
open Go.RowKit
theorem chances_of {b : Board} {i : Nat} (h : i < b.chances.length) : b.chances[i] = chancesOf b.fits (pieces b.slots) i := by simp [Board.chances, chancesTo]
theorem must_of {b : Board} {i : Nat} (h : i < b.must.length) : b.must[i] = lone (chancesOf b.fits (pieces b.slots) i) := by simp [Board.must, Board.chances, chancesTo]
theorem call_all (v : Array Value) (w : World) : (callFunc 63 v).run Try.prog w = .ok (.enter 63 v) w := call63 v w
set_option maxRecDepth 100000 in
set_option maxHeartbeats 8000000 in
/-- All comes to all assignments of a board, in order. -/
theorem allOf_any (b : Board) (Af As At : Option Addr) (cf cs ct : Nat) (w : World) (hg : b.Good) (h6 : b.finds.length ≤ 6) (hs12 : b.slots.length ≤ 12) (h5 : ∀ l ∈ b.fits, l.length ≤ 5) (hB : BoardAt w Af As At b) :
    Calls Try.prog 20 #[.agg #[.slice Af b.finds.length cf, .slice As b.slots.length cs, .slice At b.fits.length ct]] w (AllPost b.all w) := by
  obtain ⟨V, hW, e0, e1, e2, hbW, hz⟩ := box3 w (.slice Af b.finds.length cf) (.slice As b.slots.length cs) (.slice At b.fits.length ct) 26
  have HB := hid (hB.kept (Kept.of_below hbW))
  have HBW := hid hbW
  obtain ⟨i, i1, i2, i3, i4⟩ := ints_info
  have hmk := fun w => run_make_row (P := Try.prog) 22 3 i (.int .i64 0) intsl_u i1 i2 i3 rfl .i64 .i64 b.slots.length (by rw [i4]; omega) (by omega) w
  have EC : Hid (∀ (p : World), Below V.heap.size V p → ∀ g, p.heap[g]? = some (.cells (madeCells #[.int .i64 0] b.slots.length) 3 (0, 0)) → Calls Try.prog 63 #[.agg #[.slice Af b.finds.length cf, .slice As b.slots.length cs, .slice At b.fits.length ct], .slice none 0 0, .slice (some ⟨g, 0, none⟩) b.slots.length b.slots.length] p fun e w' => ∃ u, e = .returned u ∧ GotAll V b.all u w') := by
    refine hid fun p hb g hgc => ?_
    have hbl : Block p g 3 (ints (List.replicate b.slots.length 0)) := by
      unfold Block
      rw [hgc, ints_replicate, ← made1]
    have h2 : IntsAt p (some ⟨g, 0, none⟩) (List.replicate b.slots.length 0) := (RowAt.of_block hbl).intsAt
    have := all_any b Af As At cf cs ct hg h6 hs12 h5 b.finds.length [] (List.replicate b.slots.length 0) none (some ⟨g, 0, none⟩) 0 b.slots.length p (by simp) (HB.out.kept (Kept.of_below hb)) (IntsAt.nil _ _) h2 (by simp) (fun x hx => by rw [List.eq_of_mem_replicate hx]; simp)
    simp only [List.length_replicate, List.length_nil, List.drop_zero] at this
    exact this.mono fun e w' h => AllPost.got (ls := b.all) h hb
  clear hB hbW hz i1 i2 i3 i4
  go_enter Try.func20, Try.ntmps20
  go_wp2_with fail
  go_region_held3 (fun w' => w'.cell? ⟨w.heap.size, 0, none⟩ = some (.slice Af b.finds.length cf) ∧ w'.cell? ⟨w.heap.size, 1, none⟩ = some (.slice As b.slots.length cs) ∧ w'.cell? ⟨w.heap.size, 2, none⟩ = some (.slice At b.fits.length ct))
    (first
      | exact keepA3 e0 e1 e2 (Below.refl _ _).drew
      | exact keepA3 e0 e1 e2 (alloc_b (Below.refl V.heap.size V) _).drew
      | exact keepA3 e0 e1 e2 (alloc_b (Below.refl V.heap.size V).drew _)
      | exact keepA3 e0 e1 e2 BC.out)
    (first
      | (go_at_call 63
         refine (EC.out _ (by first | exact (alloc_b (Below.refl V.heap.size V) _).drew | exact (alloc_b (Below.refl V.heap.size V).drew _)) _ (heap_alloc_new _ _)).mono ?_
         rintro e w3 ⟨u, rfl, hgot⟩
         have HGOT := hid hgot
         have BC := hid hgot.1
         obtain ⟨_, aU, kU, usU, rfl, _, _⟩ := hgot))
  all_goals
    go_wp2_with fail
    go_ret
    exact HGOT.out.post HBW.out
theorem chances_small {b : Board} (hf : b.Fine) {l : List Int} (hl : l ∈ b.chances) : l.length ≤ 9223372036854775807 := by
  obtain ⟨i, hi, rfl⟩ := List.getElem_of_mem hl
  rw [chances_of hi]
  refine Nat.le_trans chancesOf_len ?_
  by_cases h : i < b.fits.length
  · rw [fitOf_lt h]; have := hf.lens _ (List.getElem_mem h); omega
  · rw [fitOf_ge (by omega)]; simp

end Go.Proofs.Ytpmdjbjnihhjeaa
