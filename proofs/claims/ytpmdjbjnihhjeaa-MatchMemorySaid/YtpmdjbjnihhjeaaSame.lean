/- SameBoard of two boards that are the same. -/
import Derived.Test.YtpmdjbjnihhjeaaOwn
namespace Go.Proofs.Ytpmdjbjnihhjeaa
open Go.RowKit

set_option maxRecDepth 100000 in
set_option maxHeartbeats 4000000 in
theorem sameBoard_true (b : Board) (Af As At Bf Bs Bt : Option Addr) (cf cs ct df ds dt : Nat) (w : World) (hn1 : b.finds.length ≤ 1000) (hn2 : b.slots.length ≤ 1000) (hn3 : b.fits.length ≤ 1000) (hn4 : ∀ l ∈ b.fits, l.length ≤ 1000)
    (hA : BoardAt w Af As At b) (hB : BoardAt w Bf Bs Bt b) :
    Calls Try.prog 28 #[.agg #[.slice Af b.finds.length cf, .slice As b.slots.length cs, .slice At b.fits.length ct], .agg #[.slice Bf b.finds.length df, .slice Bs b.slots.length ds, .slice Bt b.fits.length dt]] w fun e w' => e = .returned (.bool true) ∧ Below w.heap.size w w' := by
  obtain ⟨W, hW, b0, b1, b2, hbW, hz⟩ := box3 w (.slice Af b.finds.length cf) (.slice As b.slots.length cs) (.slice At b.fits.length ct) 26
  obtain ⟨V, hV, c0, c1, c2, hbV, hzV⟩ := box3 W (.slice Bf b.finds.length df) (.slice Bs b.slots.length ds) (.slice Bt b.fits.length dt) 26
  have kV := Kept.of_below hbV
  have b0 := kV _ _ b0
  have b1 := kV _ _ b1
  have b2 := kV _ _ b2
  have hwV : Below w.heap.size w V := hbW.trans (hbV.mono hbW.size)
  have HA := hid (hA.kept (Kept.of_below hwV))
  have HB := hid (hB.kept (Kept.of_below hwV))
  have HWV := hid hwV
  have HN4 := hid hn4
  have e1 : ((b.slots.length : Int) != b.slots.length) = false := by simp
  clear hwV kV hA hB hbW hbV hn4
  clear hz hzV
  go_enter Try.func28, Try.ntmps28
  go_wp2_with fail
  refine (same_t _ _ _ _ b.finds b.finds _ (by omega) (by omega) HA.out.finds HB.out.finds (decide_eq_true rfl)).mono ?_
  rintro e w1 ⟨rfl, n1, rfl⟩
  have HA1 := hid (HA.out.kept (Kept.of_below (Below.drewN' (Below.refl _ _) n1)))
  have HB1 := hid (HB.out.kept (Kept.of_below (Below.drewN' (Below.refl _ _) n1)))
  have b0 := (Kept.of_below (Below.drewN' (Below.refl V.heap.size V) n1)) _ _ b0
  have b1 := (Kept.of_below (Below.drewN' (Below.refl V.heap.size V) n1)) _ _ b1
  have b2 := (Kept.of_below (Below.drewN' (Below.refl V.heap.size V) n1)) _ _ b2
  have c0 := (Kept.of_below (Below.drewN' (Below.refl V.heap.size V) n1)) _ _ c0
  have c1 := (Kept.of_below (Below.drewN' (Below.refl V.heap.size V) n1)) _ _ c1
  have c2 := (Kept.of_below (Below.drewN' (Below.refl V.heap.size V) n1)) _ _ c2
  obtain ⟨w1, hw1⟩ : ∃ w1, V.drewN n1 = w1 := ⟨_, rfl⟩
  have HW1 : Hid (Below w.heap.size w w1) := hid (by rw [← hw1]; exact Below.drewN' HWV.out n1)
  rw [hw1] at HA1 HB1 b0 b1 b2 c0 c1 c2 ⊢
  clear hw1
  go_wp2_with fail
  go_loopg [5] (b.slots.length) (fun g i wr => ∃ k : Nat, k ≤ b.slots.length ∧ g = b.slots.length - k ∧ i = .int .i64 k ∧ Hid (Below w1.heap.size w1 wr))
  case atStart => exact ⟨0, by omega, by omega, rfl, hid (Below.refl _ _)⟩
  case round =>
    obtain ⟨k, hk, hgk, rfl, hbw⟩ := hrel
    have kw := Kept.of_below hbw.out
    have x1 := kw _ _ b1
    have x2 := kw _ _ b2
    have y1 := kw _ _ c1
    have y2 := kw _ _ c2
    have HA2 := hid (HA1.out.kept kw)
    have HB2 := hid (HB1.out.kept kw)
    clear kw
    by_cases hlt : k < b.slots.length
    · obtain ⟨sa, soa, rfl, hca⟩ := HA2.out.slots (by omega)
      obtain ⟨sb, sob, rfl, hcb⟩ := HB2.out.slots (by omega)
      obtain ⟨p1, p2, p3⟩ := hca k hlt
      obtain ⟨q1, q2, q3⟩ := hcb k hlt
      have i0 : (0 : Int) ≤ k := by omega
      have i1 : (k : Int) < b.slots.length := by omega
      clear hca hcb
      go_wp2_with fail
      go_quiet (fail)
      go_wp2_with fail
      go_roundg (b.slots.length - (k + 1))
      case measure => omega
      case rel => exact ⟨k + 1, by omega, rfl, by go_num, hid (Below.drewN' hbw.out _)⟩
    · obtain rfl : k = b.slots.length := by omega
      clear hlt hgk hk
      go_wp2_with fail
      refine (sameLists_any _ _ _ _ b.fits b.fits _ (by omega) (by omega) (fun l hl => by have := HN4.out l hl; omega) (fun l hl => by have := HN4.out l hl; omega) HA2.out.fits HB2.out.fits).mono ?_
      rintro e w2 ⟨rfl, n2, rfl⟩
      rw [decide_eq_true rfl]
      go_wp2_with fail
      go_ret
      exact ⟨rfl, Below.drewN' (HW1.out.trans (hbw.out.mono HW1.out.size)) n2⟩
end Go.Proofs.Ytpmdjbjnihhjeaa
