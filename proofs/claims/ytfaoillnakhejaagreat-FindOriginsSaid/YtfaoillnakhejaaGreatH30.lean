/- The law FindOrigins walked: it returns true. -/
import Derived.Test.YtfaoillnakhejaaGreatH16
import Derived.Test.YtfaoillnakhejaaGreatH17
import Derived.Test.YtfaoillnakhejaaGreatH18
import Derived.Test.YtfaoillnakhejaaGreatH19
import Derived.Test.YtfaoillnakhejaaGreatH29
namespace Go.Proofs.YtfaoillnakhejaaGreat
set_option maxRecDepth 100000
open Go.RowKit
theorem e_form {nx : Int → List Int} {fin : List Int → Int → Prop} {L : List Ent} {K p : Int} {w w' : World} {e : Ending} (h : ESearchPost nx fin L K p w e w') : ∃ A n k en, e = .returned (.tuple #[.slice A n k, .int .i64 en]) := by
 rcases h.2 with ⟨en, _, he⟩ | ⟨_, ids, _, _, ys, V, he, ho, _⟩
 ·exact ⟨_, _, _, _, he⟩
 ·obtain ⟨A, k, rfl, _⟩ := ownsRow.form ho
  exact ⟨_, _, _, _, he⟩
theorem r_form {fin : Pcl → Bool} {mine other : Pcl → Int} {L : List Ent} {K p : Int} {w w' : World} {e : Ending} (h : RSearchPost fin mine other L K p w e w') : ∃ A n k en, e = .returned (.tuple #[.slice A n k, .int .i64 en]) := by
 rcases h.2 with ⟨_, en, _, _, he⟩ | ⟨_, D, _, ⟨_, he⟩ | ⟨_, zs, V, he, ho, _⟩⟩
 ·exact ⟨_, _, _, _, he⟩
 ·exact ⟨_, _, _, _, he⟩
 ·obtain ⟨A, k, rfl, _⟩ := ownsRow.form ho
  exact ⟨_, _, _, _, he⟩
theorem ans_form {A : Option Addr} {n k : Nat} {en fn : Int} {w' : World} {ys : List Int} (h : AnsI (.returned (.tuple #[.slice A n k, .int .i64 en])) w' fn ys) : n = ys.length ∧ en = fn ∧ IntsAt w' A ys := by
 obtain ⟨B, c, e, hi⟩ := h
 injection e with e
 injection e with e
 simp only [Array.mk.injEq, List.cons.injEq, Value.slice.injEq, Value.int.injEq, and_true, true_and] at e
 obtain ⟨⟨rfl, rfl, rfl⟩, rfl⟩ := e
 exact ⟨rfl, rfl, hi⟩
set_option maxHeartbeats 16000000 in
theorem findOrigins_any (A : Option Addr) (cap : Nat) (L : List Ent) (K p : Int) (w : World) (hA : RepsAt w A L) (hcap : L.length ≤ cap) :
  Calls Tryz.prog 3 #[.slice A L.length cap, .int .i64 K, .int .i64 p] w fun e w' => e = .returned (.bool true) ∧ Below w.heap.size w w' := by
 have hfw := few_any A cap L 20 w hA.rows (by omega) (by omega)
 obtain ⟨b, hb⟩ : ∃ b, fewB (reps L) 20 = b := ⟨_, rfl⟩
 rw [hb] at hfw
 have HF := hid hfw
 have HB := hid hb
 have HA := hid hA
 have HCAP := hid hcap
 clear hA hb hfw hcap
 go_enter Tryz.func3, Tryz.ntmps3
 go_wp2_with fail
 refine HF.out.mono ?_
 rintro e w1 ⟨rfl, rfl⟩
 clear HF
 rcases b with _ | _
 ·go_wp2_with fail
  refine (sane_any w1).mono ?_
  rintro e w2 ⟨rfl, hb2⟩
  have HB2 := hid hb2
  clear hb2
  go_wp2_with fail
  go_ret
  exact ⟨rfl, HB2.out⟩
 ·have hfs := few_small HB.out (by omega)
  have HL : Hid (L.length ≤ 210) := hid (by have := hfs.1; rw [List.length_map] at this; omega)
  have HSZ : Hid (∀ e ∈ L, e.1.mark.size ≤ 1000000 ∧ e.1.goods.size ≤ 1000000) := hid (fun e he => by have := hfs.2 e.1 (List.mem_map_of_mem (f := Prod.fst) he); omega)
  have HE : Hid (EntsAt w1 A L) := hid (HA.out.ents (fun e he => by have := hfs.2 e.1 (List.mem_map_of_mem (f := Prod.fst) he); omega))
  have HC1 : Hid (Calls Tryz.prog 11 #[.slice A L.length cap, .int .i64 K, .int .i64 p] w1 (ESearchPost (backL (countE L K)) (fun ids x => (pclOr (countE L K) ids x).found = true) L K p w1)) := hid (origins_any A cap L K p w1 HE.out HL.out HCAP.out)
  clear hfs HB HA
  go_wp2_with fail
  refine HC1.out.mono ?_
  rintro e w2 hp
  obtain ⟨A2, n2, k2, en2, rfl⟩ := e_form hp
  have HP2 := hid hp
  have HB2 := hid hp.1
  have HE2 := hid (HE.out.below hp.1)
  have HC2 := hid (rorigins_any A cap L K p w2 HE2.out HL.out HCAP.out HSZ.out)
  clear hp HC1
  go_wp2_with fail
  refine HC2.out.mono ?_
  rintro e w3 hp
  obtain ⟨A3, n3, k3, en3, rfl⟩ := r_form hp
  obtain ⟨en, ys, ha, hb, hy⟩ := origins_same HL.out HP2.out hp
  obtain ⟨rfl, rfl, hi2⟩ := ans_form ha
  obtain ⟨rfl, rfl, hi3⟩ := ans_form hb
  have HI2 := hid (hi2.kept (Kept.of_below hp.1))
  have HI3 := hid hi3
  have HY := hid hy
  have HB3 := hid (HB2.out.trans (hp.1.mono HB2.out.size))
  have HE3 := hid (HE2.out.below hp.1)
  have HC3 : Hid (Calls Tryz.prog 13 #[.slice A L.length cap, .int .i64 K, .int .i64 p] w3 (ESearchPost (onL (countE L K)) (fun ids x => (pclOr (countE L K) ids x).into ≤ 0) L K p w3)) := hid (remains_any A cap L K p w3 HE3.out HL.out HCAP.out)
  clear hp ha hb hi2 hi3 hy HC2 HP2
  go_wp2_with fail
  refine HC3.out.mono ?_
  rintro e w4 hp
  obtain ⟨A4, n4, k4, en4, rfl⟩ := e_form hp
  have HP4 := hid hp
  have HB4 := hid (HB3.out.trans (hp.1.mono HB3.out.size))
  have HE4 := hid (HE3.out.below hp.1)
  have HI24 := hid (HI2.out.kept (Kept.of_below hp.1))
  have HI34 := hid (HI3.out.kept (Kept.of_below hp.1))
  have HC4 := hid (rremains_any A cap L K p w4 HE4.out HL.out HCAP.out HSZ.out)
  clear hp HC3
  go_wp2_with fail
  refine HC4.out.mono ?_
  rintro e w5 hp
  obtain ⟨A5, n5, k5, en5, rfl⟩ := r_form hp
  obtain ⟨en, zs, ha, hb, hz⟩ := remains_same HL.out HP4.out hp
  obtain ⟨rfl, rfl, hi4⟩ := ans_form ha
  obtain ⟨rfl, rfl, hi5⟩ := ans_form hb
  have HI4 := hid (hi4.kept (Kept.of_below hp.1))
  have HI5 := hid hi5
  have HI25 := hid (HI24.out.kept (Kept.of_below hp.1))
  have HI35 := hid (HI34.out.kept (Kept.of_below hp.1))
  have HZ := hid hz
  have HB5 := hid (HB4.out.trans (hp.1.mono HB4.out.size))
  clear hp ha hb hi4 hi5 hz HC4 HP4
  go_wp2_with fail
  refine (sane_any w5).mono ?_
  rintro e w6 ⟨rfl, hb6⟩
  have HB6 := hid (HB5.out.trans (hb6.mono HB5.out.size))
  have HI4 := hid (HI4.out.kept (Kept.of_below hb6))
  have HI5 := hid (HI5.out.kept (Kept.of_below hb6))
  have HI2 := hid (HI25.out.kept (Kept.of_below hb6))
  have HI3 := hid (HI35.out.kept (Kept.of_below hb6))
  have HS1 := hid (same_lit (k := k2) (cb := k3) (xs := ys) (by have := HY.out; omega) HI2.out HI3.out)
  clear hb6
  go_wp2_with fail
  refine HS1.out.mono ?_
  rintro e w7 ⟨rfl, hb7⟩
  have HB7 := hid (HB6.out.trans (hb7.mono HB6.out.size))
  have HI4 := hid (HI4.out.kept (Kept.of_below hb7))
  have HI5 := hid (HI5.out.kept (Kept.of_below hb7))
  have HS2 := hid (same_lit (k := k4) (cb := k5) (xs := zs) (by have := HZ.out; omega) HI4.out HI5.out)
  clear hb7
  go_wp2_with fail
  refine HS2.out.mono ?_
  rintro e w8 ⟨rfl, hb8⟩
  have HB8 := hid (HB7.out.trans (hb8.mono HB7.out.size))
  go_wp2_with fail
  go_ret
  exact ⟨rfl, HB8.out⟩
end Go.Proofs.YtfaoillnakhejaaGreat
