/- The parcels' functions of the engine and of the reference say the same (plain). -/
import Derived.Test.YtfaoillnakhejaaGreatP0
namespace Go.Proofs.YtfaoillnakhejaaGreat
set_option maxRecDepth 100000
open Go.RowKit
/-- A list that is refused, or not. -/
def Two (L : List Ent) (en : Int) : Prop := (en ≠ 0 ∧ ∃ i, CheckIs (reps L) i en) ∨ (en = 0 ∧ Valid (reps L))
theorem Two.same {L : List Ent} {e f : Int} (h : Two L e) (k : Two L f) : e = f := by
 rcases h with ⟨h1, i, h2⟩ | ⟨rfl, h1⟩
 ·rcases k with ⟨k1, j, k2⟩ | ⟨rfl, k1⟩
  ·exact h2.same k2
  ·exact absurd k1 (h2.not_valid h1)
 ·rcases k with ⟨k1, j, k2⟩ | ⟨rfl, k1⟩
  ·exact absurd h1 (k2.not_valid k1)
  ·rfl
theorem Two.valid {L : List Ent} (h : Two L 0) : Valid (reps L) := by
 rcases h with ⟨h1, _⟩ | ⟨_, h1⟩
 ·exact absurd rfl h1
 ·exact h1
theorem fails_two {L : List Ent} {K en : Int} (h : FailsBy L K [] en) : en ≠ 0 ∧ Two L en := by
 rcases h with ⟨i, h1, h2⟩ | ⟨_, _, _, ⟨p, hp, _⟩, _⟩
 ·exact ⟨h2, .inl ⟨h2, i, h1⟩⟩
 ·simp at hp
theorem sound_of {L : List Ent} (hv : Valid (reps L)) (K : Int) : Sound (reps (countE L K)) := by rw [countE_reps]; exact hv.sound K
theorem counting_form {L : List Ent} {K : Int} {w w' : World} {e : Ending} (hl : L.length ≤ 210) (h : CountingPost L K w e w') : ∃ A k M en, e = .returned (.tuple #[.slice A (List.length M) k, .int .i64 en]) ∧ EntsAt w' A M ∧ M.length ≤ 210 ∧ Two L en ∧ (en ≠ 0 → M = []) ∧ (en = 0 → reps M = reps (countE L K)) := by
 rcases h.2 with ⟨i, en, hc, hn, rfl⟩ | ⟨hv, v, M, rfl, ho, hr, hp⟩
 ·exact ⟨none, 0, [], en, rfl, ⟨fun h => by simp at h, by simp⟩, by simp, .inl ⟨hn, i, hc⟩, fun _ => rfl, fun h => absurd h hn⟩
 ·obtain ⟨A, k, rfl, hx, _⟩ := ownsRow.form ho
  have hml : M.length ≤ 210 := by
   have h1 := congrArg List.length hr
   rw [List.length_map, List.length_map] at h1
   have := countE_len L K
   omega
  exact ⟨A, k, M, 0, rfl, ⟨rows_of_cells hx, hp⟩, hml, .inr ⟨rfl, hv⟩, fun h => absurd rfl h, fun _ => hr⟩
theorem rcounting_form {L : List Ent} {K : Int} {w w' : World} {e : Ending} (hP : ∀ e ∈ L, PartsAt w' e) (h : RCountPost L K w e w') : ∃ A k M en, e = .returned (.tuple #[.slice A (List.length M) k, .int .i64 en]) ∧ EntsAt w' A M ∧ Two L en ∧ (en ≠ 0 → M = []) ∧ (en = 0 → reps M = reps (countE L K)) := by
 rcases h.2 with ⟨i, en, hc, hn, rfl⟩ | ⟨hv, v, rfl, ho⟩
 ·exact ⟨none, 0, [], en, rfl, ⟨fun h => by simp at h, by simp⟩, .inl ⟨hn, i, hc⟩, fun _ => rfl, fun h => absurd h hn⟩
 ·obtain ⟨A, k, rfl, hx, _⟩ := ownsRow.form ho
  exact ⟨A, k, countE L K, 0, rfl, ⟨rows_of_cells hx, fun e he => hP e (countE_sub L K e he)⟩, .inr ⟨rfl, hv⟩, fun h => absurd rfl h, fun _ => rfl⟩
theorem eparcels_form {L : List Ent} {K : Int} {w w' : World} {e : Ending} (hl : L.length ≤ 210) (h : ParcelsPost L K w e w') : ∃ A k D en, e = .returned (.tuple #[.slice A (List.length D) k, .int .i64 en]) ∧ PclsAt w' A D ∧ D.length ≤ 1680 ∧ Two L en ∧ (en ≠ 0 → D = []) ∧ (en = 0 → ∃ ids, IdsOf (countE L K) ids ∧ D = pclsF (countE L K) ids) := by
 rcases h.2 with ⟨en, hf, rfl⟩ | ⟨hv, ids, v, hi, rfl, ho⟩
 ·obtain ⟨hn, ht⟩ := fails_two hf
  exact ⟨none, 0, [], en, rfl, fun h => by simp at h, by simp, ht, fun _ => rfl, fun h => absurd h hn⟩
 ·obtain ⟨A, k, rfl, hx, _⟩ := ownsRow.form ho
  have hlen := ids_len (sound_of hv K) hi
  have hcl := countE_len L K
  exact ⟨A, k, _, 0, rfl, pcls_of_cells hx, by unfold pclsF; rw [List.length_map]; omega, .inr ⟨rfl, hv⟩, fun h => absurd rfl h, fun _ => ⟨ids, hi, rfl⟩⟩
theorem rcase_two {L : List Ent} {K en : Int} {D : List Pcl} (h : (en ≠ 0 ∧ D = [] ∧ ∃ i, CheckIs (reps L) i en) ∨ (en = 0 ∧ Valid (reps L) ∧ PclsOf (countE L K) D)) : Two L en ∧ (en ≠ 0 → D = []) ∧ (en = 0 → ∀ ids, IdsOf (countE L K) ids → D = pclsF (countE L K) ids) := by
 rcases h with ⟨h1, h2, i, h3⟩ | ⟨rfl, hv, hD⟩
 ·exact ⟨.inl ⟨h1, i, h3⟩, fun _ => h2, fun h => absurd h h1⟩
 ·exact ⟨.inr ⟨rfl, hv⟩, fun h => absurd rfl h, fun _ ids hi => pcls_same (sound_of hv K) hi hD⟩
/-! ### The lists -/
theorem drop_list {C : List Ent} {ids : List Int} (f : Pcl → Bool) : dropQ (fun p => !f (pclOr C ids p)) ids = ((pclsF C ids).filter f).map (·.id) := by
 unfold dropQ pclsF
 rw [List.filter_map, List.map_map]
 have h1 : ids.filter (fun x => !(!f (pclOr C ids x))) = ids.filter (f ∘ parcelF C) := List.filter_congr fun x hx => by
  rw [pclOr_in hx, Bool.not_not]
  rfl
 rw [h1]
 exact (List.map_id' _).symm
theorem pair_uniq {l : List Rep} (h : l.Pairwise fun a b => a.id ≠ b.id) : ∀ {a b : Rep}, a ∈ l → b ∈ l → a.id = b.id → a = b := by
 induction l with
 | nil => intro a b ha
          simp at ha
 | cons x l ih =>
  intro a b ha hb e
  rw [List.pairwise_cons] at h
  rcases List.mem_cons.1 ha with ha2 | ha2
  ·rcases List.mem_cons.1 hb with hb2 | hb2
   ·rw [ha2, hb2]
   ·exact absurd (by rw [← ha2]; exact e) (h.1 b hb2)
  ·rcases List.mem_cons.1 hb with hb2 | hb2
   ·exact absurd (by rw [← hb2]; exact e.symm) (h.1 a ha2)
   ·exact ih h.2 ha2 hb2 e
theorem hour_is {L : List Ent} (hv : Valid (reps L)) {u : Ent} (hu : u ∈ L) : hourR L u.1.id = u.1.hour := by
 unfold hourR
 rcases hf : L.find? (fun e => decide (e.1.id = u.1.id)) with _ | e
 ·rw [List.find?_eq_none] at hf
  exact absurd (by simp) (hf u hu)
 ·have h1 := List.mem_of_find?_eq_some hf
  have h2 : e.1.id = u.1.id := by simpa using List.find?_some hf
  have h3 := pair_uniq hv.ids (is_rep h1) (is_rep hu) h2
  rw [hf]
  show e.1.hour = u.1.hour
  rw [h3]
theorem pres_same {L : List Ent} (hv : Valid (reps L)) (K hour p : Int) : presB (countE L K) hour (parcelF (countE L K) p) = presR L hour (parcelF (countE L K) p) := by
 unfold presB presR
 show (_ && (decide ((entOr (userE (countE L K) p)).1.id = 0) || decide (hour < (entOr (userE (countE L K) p)).1.hour))) = (_ && (decide ((entOr (userE (countE L K) p)).1.id = 0) || decide (hour < hourR L (entOr (userE (countE L K) p)).1.id)))
 rcases hu : userE (countE L K) p with _ | u
 ·rfl
 ·show (_ && (decide (u.1.id = 0) || decide (hour < u.1.hour))) = (_ && (decide (u.1.id = 0) || decide (hour < hourR L u.1.id)))
  rw [hour_is hv (countE_sub L K u (userE_some hu).1)]
theorem pres_list {L : List Ent} (hv : Valid (reps L)) (K hour : Int) (ids : List Int) : dropQ (fun p => !presB (countE L K) hour (pclOr (countE L K) ids p)) ids = presL L hour (pclsF (countE L K) ids) := by
 rw [drop_list (presB (countE L K) hour)]
 unfold presL
 congr 1
 refine List.filter_congr fun q hq => ?_
 obtain ⟨p, _, rfl⟩ := List.mem_map.1 hq
 exact pres_same hv K hour p
theorem finds_list (C : List Ent) (ids : List Int) : dropQ (fun p => !(pclOr C ids p).found) ids = findsL (pclsF C ids) := drop_list Pcl.found
/-! ### Pairs of answers -/
theorem list_two {L : List Ent} {K : Int} {f : List Pcl → List Int} {w w' : World} {e : Ending} (h : RListPost L K f w e w') (hf : f [] = []) : ∃ A k ys en, e = .returned (.tuple #[.slice A (List.length ys) k, .int .i64 en]) ∧ IntsAt w' A ys ∧ Two L en ∧ (en ≠ 0 → ys = []) ∧ (en = 0 → ∀ ids, IdsOf (countE L K) ids → ys = f (pclsF (countE L K) ids)) := by
 obtain ⟨D, en, v, rfl, ho, hc⟩ := h.2
 obtain ⟨A, k, rfl, _⟩ := ownsRow.form ho
 obtain ⟨h1, h2, h3⟩ := rcase_two hc
 exact ⟨A, k, f D, en, rfl, ownsRow_ints ho, h1, fun h => by rw [h2 h, hf], fun h ids hi => by rw [h3 h ids hi]⟩
theorem efinds_two {L : List Ent} {K : Int} {w w' : World} {e : Ending} (h : FindsPost L K w e w') : ∃ A k ys en, e = .returned (.tuple #[.slice A (List.length ys) k, .int .i64 en]) ∧ IntsAt w' A ys ∧ Two L en ∧ (en ≠ 0 → ys = []) ∧ (en = 0 → ∃ ids, IdsOf (countE L K) ids ∧ ys = findsL (pclsF (countE L K) ids)) := by
 rcases h.2 with ⟨en, hf, rfl⟩ | ⟨hv, ids, v, ys, hi, rfl, ho, rfl⟩
 ·obtain ⟨hn, ht⟩ := fails_two hf
  exact ⟨none, 0, [], en, rfl, fun h => by simp at h, ht, fun _ => rfl, fun h => absurd h hn⟩
 ·obtain ⟨A, k, rfl, _⟩ := ownsRow.form ho
  exact ⟨A, k, _, 0, rfl, ownsRow_ints ho, .inr ⟨rfl, hv⟩, fun h => absurd rfl h, fun _ => ⟨ids, hi, finds_list _ _⟩⟩
theorem epres_two {L : List Ent} {K hour : Int} {w w' : World} {e : Ending} (h : PresPost L K hour w e w') : ∃ A k ys en, e = .returned (.tuple #[.slice A (List.length ys) k, .int .i64 en]) ∧ IntsAt w' A ys ∧ Two L en ∧ (en ≠ 0 → ys = []) ∧ (en = 0 → ∃ ids, IdsOf (countE L K) ids ∧ ys = presL L hour (pclsF (countE L K) ids)) := by
 rcases h.2 with ⟨en, hf, rfl⟩ | ⟨hv, ids, v, ys, hi, rfl, ho, rfl⟩
 ·obtain ⟨hn, ht⟩ := fails_two hf
  exact ⟨none, 0, [], en, rfl, fun h => by simp at h, ht, fun _ => rfl, fun h => absurd h hn⟩
 ·obtain ⟨A, k, rfl, _⟩ := ownsRow.form ho
  exact ⟨A, k, _, 0, rfl, ownsRow_ints ho, .inr ⟨rfl, hv⟩, fun h => absurd rfl h, fun _ => ⟨ids, hi, pres_list hv K hour ids⟩⟩
/-- Two lists that are told alike are the same. -/
theorem lists_same {α : Type} {L : List Ent} {K : Int} {en fn : Int} {ys zs : List α} {f : List Int → List α} (h1 : Two L en) (h2 : en ≠ 0 → ys = []) (h3 : en = 0 → ∃ ids, IdsOf (countE L K) ids ∧ ys = f ids) (k1 : Two L fn) (k2 : fn ≠ 0 → zs = []) (k3 : fn = 0 → ∀ ids, IdsOf (countE L K) ids → zs = f ids) : fn = en ∧ zs = ys := by
 have e := k1.same h1
 subst e
 refine ⟨rfl, ?_⟩
 by_cases h0 : fn = 0
 ·obtain ⟨ids, hi, rfl⟩ := h3 h0
  exact k3 h0 ids hi
 ·rw [h2 h0, k2 h0]
theorem list_few {L : List Ent} {K en : Int} {ys : List Int} {f : List Pcl → List Int} (hl : L.length ≤ 210) (h1 : Two L en) (h2 : en ≠ 0 → ys = []) (h3 : en = 0 → ∃ ids, IdsOf (countE L K) ids ∧ ys = f (pclsF (countE L K) ids)) (hf : ∀ D, (f D).length ≤ D.length) : ys.length ≤ 1680 := by
 by_cases h0 : en = 0
 ·subst h0
  obtain ⟨ids, hi, rfl⟩ := h3 rfl
  have k1 := hf (pclsF (countE L K) ids)
  have k2 : (pclsF (countE L K) ids).length = ids.length := by unfold pclsF; rw [List.length_map]
  have k3 := ids_len (sound_of h1.valid K) hi
  have k4 := countE_len L K
  omega
 ·rw [h2 h0]
  simp
theorem parcelOf_two {L : List Ent} {K p : Int} {w w' v v' : World} {e f : Ending}
  (h : Below w.heap.size w w' ∧ ((∃ en, FailsBy L K [p] en ∧ e = .returned (.tuple #[zp.val, .int .i64 en])) ∨ (Valid (reps L) ∧ ∃ ids, IdsOf (countE L K) ids ∧ p ∈ ids ∧ e = .returned (.tuple #[(parcelF (countE L K) p).val, .int .i64 0]))))
  (k : RParcelOfPost L K p v f v') : ∃ q en, e = .returned (.tuple #[Pcl.val q, .int .i64 en]) ∧ f = .returned (.tuple #[Pcl.val q, .int .i64 en]) := by
 rcases k.2 with ⟨i, fn, hc, hn, rfl⟩ | ⟨hv, D, hD, hd⟩
 ·rcases h.2 with ⟨en, hf, rfl⟩ | ⟨hv, _⟩
  ·rcases hf with ⟨j, h1, h2⟩ | ⟨hv, _⟩
   ·rw [h1.same hc]
    exact ⟨zp, fn, rfl, rfl⟩
   ·exact absurd hv (hc.not_valid hn)
  ·exact absurd hv (hc.not_valid hn)
 ·have hi0 : IdsOf (countE L K) (D.map (·.id)) := ⟨hD.ids, fun p => (hD.mem p).trans (rkeep_same (sound_of hv K) p)⟩
  rcases h.2 with ⟨en, hf, rfl⟩ | ⟨_, ids, hi, hp, rfl⟩
  ·obtain ⟨hn, rfl⟩ := fails_one hv hi0 hf
   rcases hd with ⟨_, rfl⟩ | ⟨q, hq, rfl, _⟩
   ·exact ⟨zp, 30, rfl, rfl⟩
   ·exact absurd (List.mem_map_of_mem hq) hn
  ·have hDs := pcls_same (sound_of hv K) hi hD
   rcases hd with ⟨hn, _⟩ | ⟨q, hq, rfl, rfl⟩
   ·rw [hi0.same hi] at hn
    exact absurd hp hn
   ·rw [hDs] at hq
    obtain ⟨x, _, rfl⟩ := List.mem_map.1 hq
    exact ⟨_, 0, rfl, rfl⟩
end Go.Proofs.YtfaoillnakhejaaGreat
