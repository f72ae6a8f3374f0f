/- What the laws' texts share: small lists, and that what is valid is so. -/
import Derived.Test.YtfaoillnakhejaaGreatH9
import Derived.Test.YtfaoillnakhejaaGreatH18
import Derived.Test.YtfaoillnakhejaaGreatH6
namespace Go.Proofs.YtfaoillnakhejaaGreat
set_option maxRecDepth 100000
open Go.RowKit
theorem few_small {L : List Rep} {most : Int} (h : fewB L most = true) (hm : most ≤ 200) : L.length ≤ 203 ∧ ∀ r ∈ L, r.parts.length ≤ 100 ∧ r.mark.size ≤ 100 ∧ r.goods.size ≤ 100 := by
 unfold fewB at h
 simp only [Bool.and_eq_true, Bool.or_eq_true, decide_eq_true_eq] at h
 obtain ⟨h1, h2⟩ := h
 have hl : L.length ≤ 203 := by omega
 refine ⟨hl, fun r hr => ?_⟩
 rw [List.take_of_length_le (by omega)] at h1
 have h3 := List.all_eq_true.1 h1 r hr
 unfold smallB at h3
 simp only [Bool.and_eq_true, decide_eq_true_eq] at h3
 omega
theorem valid_len {l : List Rep} (h : Valid l) : l.length ≤ 200 := by
 refine Classical.byContradiction fun hn => ?_
 have h1 := h 200 (by omega)
 unfold follows at h1
 rw [if_pos (by simp; omega)] at h1
 cases h1
/-- What few says of a list that is valid. -/
theorem few_valid {L : List Ent} {most : Int} (h : fewB (reps L) most = true) (hv : Valid (reps L)) : (L.length : Int) ≤ most := by
 have h2 := valid_len hv
 unfold fewB at h
 simp only [Bool.and_eq_true, Bool.or_eq_true, decide_eq_true_eq, List.length_map] at h h2
 omega
end Go.Proofs.YtfaoillnakhejaaGreat
