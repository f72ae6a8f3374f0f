/- The parcels of the reference are those of the engine (plain); The reference: ParcelOf, Finds, hourOf, Present; The reference: Present, ParcelOf, SameReports of equal lists; Finds: the found parcels; copied: reports in new memory; Counting. -/
import Derived.Test.YtfaoillnakhejaaGreatH16
import Derived.Test.YtfaoillnakhejaaGreatL1
import Derived.Deep.CutRange
import Derived.Test.YtfaoillnakhejaaGreatH7
import Derived.Test.YtfaoillnakhejaaGreatH10
import Derived.BigQuiet
import Derived.Test.YtfaoillnakhejaaGreatL0
import Derived.Test.YtfaoillnakhejaaGreatH4
import Derived.Test.YtfaoillnakhejaaGreatH24
namespace Go.Proofs.YtfaoillnakhejaaGreat
set_option maxRecDepth 100000
open Go.RowKit
theorem nx_same {C : List Rep} {x y : Int} : y ∈ nxL C sameG x ↔ ∃ r ∈ C, r.kind = 7 ∧ r.parcel = x ∧ r.other = y := by
 unfold nxL
 rw [List.mem_filterMap]
 constructor
 ·rintro ⟨r, hr, h⟩
  unfold sameG at h
  split at h
  ·rename_i hc
   exact ⟨r, hr, hc.1, hc.2, Option.some.inj h⟩
  ·cases h
 ·rintro ⟨r, hr, h7, hp, ho⟩
  exact ⟨r, hr, by unfold sameG; rw [if_pos ⟨h7, hp⟩, ho]⟩
theorem alias_reach {C : List Rep} : ∀ (n : Nat) (x p : Int), aliasF C n x = p → Reach (nxL C sameG) p x
 | 0, x, p, h => by
  have h : x = p := h
  subst h
  exact .refl _
 | n + 1, x, p, h => by
  unfold aliasF at h
  rcases hu : userOf C x with _ | u
  ·rw [hu] at h
   have h : x = p := h
   subst h
   exact .refl _
  ·rw [hu] at h
   dsimp only at h
   obtain ⟨h1, h2⟩ := user_some hu
   by_cases h7 : u.kind = 7
   ·rw [if_pos h7] at h
    have h3 := alias_reach n u.parcel p h
    rw [uses_seven h7, List.mem_singleton] at h2
    exact h3.snoc (nx_same.2 ⟨u, h1, h7, rfl, h2.symm⟩)
   ·rw [if_neg h7] at h
    subst h
    exact .refl _
theorem reach_alias {C : List Rep} (hs : Sound C) {p x : Int} (h : Reach (nxL C sameG) p x) : ∀ n, Deep C n x → ∃ m, Deep C m p ∧ aliasF C n x = aliasF C m p := by
 induction h with
 | refl => exact fun n hd => ⟨n, hd, rfl⟩
 | @step p q x hq _ ih =>
  intro n hd
  obtain ⟨m, h1, h2⟩ := ih n hd
  obtain ⟨r, hr, h7, hp, ho⟩ := nx_same.1 hq
  have hru : q ∈ r.uses := by rw [uses_seven h7, ho]; simp
  have hu : userOf C q = some r := by
   rcases hz : userOf C q with _ | z
   ·exact absurd hru (user_isNone.1 (by rw [hz]; rfl) r hr)
   ·obtain ⟨k1, k2⟩ := user_some hz
    rw [hs.user k1 hr k2 hru]
  obtain ⟨h3, h4⟩ := h1.step hs hu h7
  obtain ⟨m, rfl⟩ : ∃ k, m = k + 1 := ⟨m - 1, by omega⟩
  refine ⟨m, by rw [← hp]; exact h4, h2.trans ?_⟩
  conv => lhs; unfold aliasF
  rw [hu]
  dsimp only
  rw [if_pos h7, hp]
theorem alias_end {C : List Rep} {p : Int} (hk : ∀ u, userOf C p = some u → u.kind ≠ 7) : ∀ n, aliasF C n p = p
 | 0 => rfl
 | n + 1 => by
  unfold aliasF
  rcases hu : userOf C p with _ | u
  ·rfl
  ·exact if_neg (hk u hu)
/-- Which parcels became another one. -/
theorem became_is {C : List Rep} (hs : Sound C) {p : Int} (hk : ∀ u, userOf C p = some u → u.kind ≠ 7) (x : Int) : aliasOf C x = p ↔ Reach (nxL C sameG) p x := by
 constructor
 ·exact alias_reach _ _ _
 ·intro h
  obtain ⟨m, _, h2⟩ := reach_alias hs h C.length (Deep.start C x)
  unfold aliasOf
  rw [h2]
  exact alias_end hk m
theorem says_same {C : List Ent} (hs : Sound (reps C)) {p : Int} (hk : ∀ u, userOf (reps C) p = some u → u.kind ≠ 7) {o : List Int} (ho : ∀ x, x ∈ o ↔ Reach (nxL (reps C) sameG) p x) {e : Ent} (he : e ∈ C) : saysR o e.1 = saysB (reps C) p e.1 := by
 have hw := hs.wfs _ (is_rep he)
 unfold saysR saysB aboutN
 rw [Bool.eq_iff_iff]
 simp only [Bool.or_eq_true, Bool.and_eq_true, decide_eq_true_eq, ho, ← became_is hs hk]
 by_cases k1 : e.1.kind = 1
 ·have h4 : ¬ e.1.kind = 4 := by omega
  have := hw.id.1
  simp only [k1, if_true, true_and]
  constructor
  ·rintro (h | h)
   ·exact ⟨by omega, h⟩
   ·omega
  ·exact fun h => .inl h.2
 ·by_cases k4 : e.1.kind = 4
  ·have hp : 0 < e.1.parcel := by
    have := hw.parcel (by omega)
    omega
   simp [k4, hp]
  ·simp [k1, k4]
theorem fold_says {C : List Ent} (hs : Sound (reps C)) {p : Int} (hk : ∀ u, userOf (reps C) p = some u → u.kind ≠ 7) {o : List Int} (ho : ∀ x, x ∈ o ↔ Reach (nxL (reps C) sameG) p x) :
  saidLo (reps C) o = (saysE C p).foldl (fun m e => max m e.1.lo) 1 ∧ saidHi (reps C) o = (saysE C p).foldl (fun m e => min m e.1.hi) 100000000 := by
 have key : ∀ (M : List Ent), (∀ e ∈ M, e ∈ C) → ∀ a b : Int, (reps M).foldl (loR o) a = (M.filter fun e => saysB (reps C) p e.1).foldl (fun m e => max m e.1.lo) a ∧ (reps M).foldl (hiR o) b = (M.filter fun e => saysB (reps C) p e.1).foldl (fun m e => min m e.1.hi) b := by
  intro M
  induction M with
  | nil => exact fun _ _ _ => ⟨rfl, rfl⟩
  | cons e M ih =>
   intro hM a b
   have h1 := says_same hs hk ho (hM e (by simp))
   obtain ⟨i1, i2⟩ := ih (fun x hx => hM x (by simp [hx])) (loR o a e.1) (hiR o b e.1)
   rcases hb : saysB (reps C) p e.1 with _ | _
   ·rw [List.filter_cons_of_neg (p := fun e : Ent => saysB (reps C) p e.1) (by rw [hb]; decide)]
    rw [hb] at h1
    have h2 : loR o a e.1 = a := by unfold loR; rw [h1]; rfl
    have h3 : hiR o b e.1 = b := by unfold hiR; rw [h1]; rfl
    rw [h2] at i1
    rw [h3] at i2
    refine ⟨?_, ?_⟩
    ·show (reps M).foldl (loR o) (loR o a e.1) = _
     rw [h2, i1]
    ·show (reps M).foldl (hiR o) (hiR o b e.1) = _
     rw [h3, i2]
   ·rw [List.filter_cons_of_pos (p := fun e : Ent => saysB (reps C) p e.1) hb]
    rw [hb] at h1
    have h2 : loR o a e.1 = max a e.1.lo := by unfold loR; rw [h1]; rfl
    have h3 : hiR o b e.1 = min b e.1.hi := by unfold hiR; rw [h1]; rfl
    rw [h2] at i1
    rw [h3] at i2
    refine ⟨?_, ?_⟩
    ·show (reps M).foldl (loR o) (loR o a e.1) = _
     rw [h2, i1]
     rfl
    ·show (reps M).foldl (hiR o) (hiR o b e.1) = _
     rw [h3, i2]
     rfl
 exact key C (fun _ h => h) 1 100000000
theorem desc_same {C : List Ent} (hs : Sound (reps C)) {p : Int} (hp : (makerE C p).isSome = true ∧ keepB C p = true) {o : List Int} (ho : ∀ x, x ∈ o ↔ Reach (nxL (reps C) sameG) p x) : rdescF C p o = parcelF C p := by
 have hm := maker_two hs p
 have hu := user_two hs p
 have hk : ∀ u, userOf (reps C) p = some u → u.kind ≠ 7 := fun u h h7 => by
  rw [user_same hs] at h
  obtain ⟨e, he, rfl⟩ := Option.map_eq_some_iff.1 h
  have := hp.2
  unfold keepB at this
  rw [he] at this
  simp [entOr, h7] at this
 obtain ⟨f1, f2⟩ := fold_says hs hk ho
 unfold rdescF parcelF
 rw [← hm.1, ← hu.1, f1, f2, ← hu.2, hid_same, hp.1]
 congr 1
 rcases userE C p with _ | u <;> simp
/-- The reference's parcels are the engine's. -/
theorem pcls_same {C : List Ent} (hs : Sound (reps C)) {ids : List Int} {D : List Pcl} (hi : IdsOf C ids) (hD : PclsOf C D) : D = pclsF C ids := by
 have hids := ids_two hs hi hD
 refine List.ext_getElem (by unfold pclsF; rw [List.length_map, ← hids, List.length_map]) fun k h1 h2 => ?_
 have hkid : D[k].id = ids[k]'(by rw [← hids, List.length_map]; exact h1) := by
  simp only [← hids, List.getElem_map]
 obtain ⟨o, ho, hq⟩ := hD.is D[k] (List.getElem_mem h1)
 have hin : D[k].id ∈ ids := by rw [hkid]; exact List.getElem_mem _
 have := desc_same hs ((hi.2 _).1 hin) ho
 have hq2 : (pclsF C ids)[k] = parcelF C (ids[k]'(by rw [← hids, List.length_map]; exact h1)) := by simp [pclsF]
 rw [hq, this, hq2, hkid]
/-- What the reference's Parcels hands back, in one form. -/
theorem rparcels_form {L : List Ent} {K : Int} {w w' : World} {e : Ending} (h : RParcelsPost L K w e w') (hl : L.length ≤ 210) : ∃ A1 k1 D en, e = .returned (.tuple #[.slice A1 (List.length D) k1, .int .i64 en]) ∧ PclsAt w' A1 D ∧ D.length ≤ 1680 ∧
  ((en ≠ 0 ∧ D = [] ∧ ∃ i, CheckIs (reps L) i en) ∨ (en = 0 ∧ Valid (reps L) ∧ PclsOf (countE L K) D)) := by
 rcases h.2 with ⟨i, en, hc, hn, rfl⟩ | ⟨hv, D, v, hD, rfl, ho⟩
 ·exact ⟨none, 0, [], en, rfl, fun h => by simp at h, by simp, .inl ⟨hn, rfl, i, hc⟩⟩
 ·obtain ⟨A1, k1, rfl, hx, _⟩ := ownsRow.form ho
  exact ⟨A1, k1, D, 0, rfl, pcls_of_cells hx, by have := hD.len; have := countE_len L K; omega, .inr ⟨rfl, hv, hD⟩⟩
def findsL (D : List Pcl) : List Int := (D.filter (·.found)).map (·.id)
theorem findsL_snoc (D : List Pcl) (k : Nat) (h : k < D.length) : findsL (D.take (k + 1)) = findsL (D.take k) ++ if D[k].found then [D[k].id] else [] := by
 unfold findsL
 rw [List.take_succ_eq_append_getElem h, List.filter_append, List.map_append]
 cases hq : D[k].found <;> simp [hq]
theorem findsL_len (D : List Pcl) : (findsL D).length ≤ D.length := by unfold findsL; rw [List.length_map]; exact List.length_filter_le _ _
theorem app_one3 {w : World} {base : Nat} {v : Value} {xs : List Int} (x : Int) (hown : w.ownsRow base 3 1 v xs.length (ints xs)) (hl : xs.length ≤ 100000) (hbase : base ≤ w.heap.size) :
  ∃ v' w', (Builtin.append_ #[25, 25] 25 #[v, .slice (some ⟨w.heap.size, 0, none⟩) 1 1]).run Tryz.prog (w.alloc (.cells #[.int .i64 x] 3)) = .ok v' w' ∧ w'.ownsRow base 3 1 v' (xs ++ [x]).length (ints (xs ++ [x])) ∧ (Below base w w') := by
 obtain ⟨v', w', hr2, ho', hg'⟩ := app_ints (w := w.alloc (.cells #[.int .i64 x] 3)) (c := 1) (A := some ⟨w.heap.size, 0, none⟩) (ys := [x]) (hown.alloc _) (ints_new w x) (by simp; omega) (by simp; omega)
 exact ⟨v', w', hr2, ho', ((Below.refl _ _).alloc hbase _).grown hg' (by simp; omega) (fun g e => (hown.lt g e).1)⟩
def RListPost (L : List Ent) (K : Int) (f : List Pcl → List Int) (w : World) (e : Ending) (w' : World) : Prop :=
 Below w.heap.size w w' ∧ ∃ D en v, e = .returned (.tuple #[v, .int .i64 en]) ∧ w'.ownsRow w.heap.size 3 1 v (f D).length (ints (f D)) ∧ ((en ≠ 0 ∧ D = [] ∧ ∃ i, CheckIs (reps L) i en) ∨ (en = 0 ∧ Valid (reps L) ∧ PclsOf (countE L K) D))
set_option maxHeartbeats 8000000 in
theorem rfinds_any (A : Option Addr) (cap : Nat) (L : List Ent) (K : Int) (w : World) (hA : EntsAt w A L) (hl : L.length ≤ 210) (hcap : L.length ≤ cap) (hz : ∀ e ∈ L, e.1.mark.size ≤ 1000000 ∧ e.1.goods.size ≤ 1000000) :
  Calls Tryz.prog 41 #[.slice A L.length cap, .int .i64 K] w (RListPost L K findsL w) := by
 have HPA := hid (rparcels_any A cap L K w hA hl hcap hz)
 clear hA hz
 go_enter Tryz.func41, Tryz.ntmps41
 go_wp2_with fail
 refine HPA.out.mono ?_
 rintro e w1 hpost
 have HB1 := hid hpost.1
 obtain ⟨A1, k1, D, en, rfl, hpa, hdl, hcase⟩ := rparcels_form hpost hl
 have HPC := hid hpa
 have HC := hid hcase
 have hb1s := HB1.out.size
 clear hpost hpa hcase HPA
 go_upto_region 4 with fail
 go_loopg [8, 9] (D.length) (fun g v iv wr => ∃ k : Nat, k ≤ D.length ∧ g = D.length - k ∧ iv = .int .i64 k ∧ Hid (wr.ownsRow w1.heap.size 3 1 v (findsL (D.take k)).length (ints (findsL (D.take k)))) ∧ Hid (Below w1.heap.size w1 wr))
 case atStart => exact ⟨0, by omega, by omega, rfl, hid (World.ownsRow_nil _ _ _ _), hid (Below.refl _ _)⟩
 case round =>
  obtain ⟨k, hk, hgk, rfl, hown, hbw⟩ := hrel
  by_cases hkl : k < D.length
  ·obtain ⟨b, off, hAe, hc⟩ := (HPC.out.kept (Kept.of_below hbw.out)) (by omega)
   subst hAe
   obtain ⟨c0, _, _, c10⟩ := prange_at (hc k hkl)
   have hsn := findsL_snoc D k hkl
   have hfl : (findsL (D.take k)).length ≤ 1680 := by
    have := findsL_len (D.take k)
    rw [List.length_take] at this
    omega
   obtain ⟨q, hq⟩ : ∃ q, D[k] = q := ⟨_, rfl⟩
   rw [hq] at c0 c10 hsn
   obtain ⟨ys, hys⟩ : ∃ l, findsL (D.take k) = l := ⟨_, rfl⟩
   rw [hys] at hsn hown hfl
   obtain ⟨fd, hfd⟩ : ∃ t, q.found = t := ⟨_, rfl⟩
   rw [hfd] at c10 hsn
   have i0 : (0 : Int) ≤ k := by omega
   have i1 : (k : Int) < D.length := by omega
   have HSN := hid hsn
   clear hc hq hys hfd hsn
   rcases fd with _ | _
   ·go_wp2_with fail
    go_roundg (D.length - (k + 1))
    case measure => omega
    case rel => exact ⟨k + 1, by omega, rfl, by go_num, hid (by rw [HSN.out]; simpa using hown.out), hbw⟩
   ·obtain ⟨v4, w4, hr4, ho4, hb4⟩ := app_one3 q.id hown.out (by omega) hbw.out.size
    have HR4 := hid hr4
    have HO4 := hid ho4
    have HB4 := hid (hbw.out.trans hb4)
    clear hr4 ho4 hb4
    go_wp2_with (first | (at_builtin; refine wpList_app rfl rfl rfl rfl rfl HR4.out ?_))
    go_roundg (D.length - (k + 1))
    case measure => omega
    case rel => exact ⟨k + 1, by omega, rfl, by go_num, hid (by rw [HSN.out]; exact HO4.out), HB4⟩
  ·obtain rfl : k = D.length := by omega
   have hown2 := hown.out
   rw [List.take_length] at hown2
   have HO := hid (own_lo (base' := w.heap.size) hown2 HB1.out.size)
   have HB := hid (HB1.out.trans (hbw.out.mono HB1.out.size))
   clear hown2
   go_wp2_with fail
   go_ret2
   unfold RListPost
   exact ⟨HB.out, D, en, _, rfl, HO.out, HC.out⟩
/-- The hour of the first report with an Id. -/
def hourR (L : List Ent) (id : Int) : Int := ((L.find? fun e => decide (e.1.id = id)).map (·.1.hour)).getD 0
set_option maxHeartbeats 4000000 in
theorem hourOf_any (A : Option Addr) (cap : Nat) (L : List Ent) (p : Int) (w : World) (hA : RowsAt w A L) (hl : L.length ≤ 10000) :
  Calls Tryz.prog 85 #[.slice A L.length cap, .int .i64 p] w fun e w' => e = .returned (.int .i64 (hourR L p)) ∧ w' = w := by
 have HA := hid hA
 obtain ⟨R, hR⟩ : ∃ R, hourR L p = R := ⟨_, rfl⟩
 rw [hR]
 have HR := hid hR
 clear hA hR
 go_enter Tryz.func85, Tryz.ntmps85
 go_upto_region 2 with fail
 go_loopg [5] (L.length) (fun g i wr => ∃ k : Nat, k ≤ L.length ∧ g = L.length - k ∧ i = .int .i64 k ∧ Hid (∀ e ∈ L.take k, e.1.id ≠ p) ∧ w = wr)
 case atStart => exact ⟨0, by omega, by omega, rfl, hid (by simp), rfl⟩
 case round =>
  obtain ⟨k, hk, hgk, rfl, hno, rfl⟩ := hrel
  by_cases hlt : k < L.length
  ·obtain ⟨b, off, hAe, hc⟩ := HA.out (by omega)
   subst hAe
   have hr := hc k hlt
   have i0 : (0 : Int) ≤ k := by omega
   have i1 : (k : Int) < L.length := by omega
   have hsn : L.take (k + 1) = L.take k ++ [L[k]] := List.take_succ_eq_append_getElem hlt
   have hfd : L[k].1.id = p → R = L[k].1.hour := fun h => by
    rw [← HR.out]
    unfold hourR
    have h2 : L.find? (fun e => decide (e.1.id = p)) = some L[k] := by
     conv => lhs; rw [← List.take_append_drop k L, List.find?_append]
     rw [List.find?_eq_none.2 (fun e he => by simpa using hno.out e he), Option.none_or]
     have h3 : L.drop k = L[k] :: L.drop (k + 1) := (List.getElem_cons_drop hlt).symm
     rw [h3, List.find?_cons_of_pos (by simpa using h)]
    rw [h2]
    rfl
   obtain ⟨⟨x, P, c⟩, hx⟩ : ∃ y, L[k] = y := ⟨_, rfl⟩
   rw [hx] at hr hsn hfd
   dsimp only at hr hfd
   have c0 : w.cell? ⟨b, off + k * 15, none⟩ = some (.int .i64 x.id) := hr 0 _ rfl
   have c2 : w.cell? ⟨b, off + k * 15 + 2, none⟩ = some (.int .i64 x.hour) := hr 2 _ rfl
   have HSN := hid hsn
   have HFD := hid hfd
   clear hc hsn hx hr hfd
   by_cases hp : x.id = p
   ·have dp : (x.id == p) = true := beq_iff_eq.2 hp
    have HV := hid (HFD.out hp)
    clear hp
    go_wp2_with fail
    go_ret
    exact ⟨by rw [HV.out]; rfl, rfl⟩
   ·have dp : (x.id == p) = false := beq_eq_false_iff_ne.2 hp
    have HP := hid hp
    clear hp
    go_wp2_with fail
    go_roundg (L.length - (k + 1))
    case measure => omega
    case rel => exact ⟨k + 1, by omega, rfl, by go_num, hid (by
     rw [HSN.out]
     intro q hq
     rcases List.mem_append.1 hq with h | h
     ·exact hno.out q h
     ·rw [List.mem_singleton] at h
      subst h
      exact HP.out), rfl⟩
  ·obtain rfl : k = L.length := by omega
   have h2 := hno.out
   rw [List.take_length] at h2
   have HN : Hid (R = 0) := hid (by
    rw [← HR.out]
    unfold hourR
    rw [List.find?_eq_none.2 (fun e he => by simpa using h2 e he)]
    rfl)
   clear h2
   go_wp2_with fail
   go_ret
   exact ⟨by rw [HN.out]; rfl, rfl⟩
def presR (L : List Ent) (hour : Int) (q : Pcl) : Bool := decide (q.hour ≤ hour) && (decide (q.into = 0) || decide (hour < hourR L q.into))
def presL (L : List Ent) (hour : Int) (D : List Pcl) : List Int := (D.filter (presR L hour)).map (·.id)
theorem presL_snoc (L : List Ent) (hour : Int) (D : List Pcl) (k : Nat) (h : k < D.length) : presL L hour (D.take (k + 1)) = presL L hour (D.take k) ++ if presR L hour D[k] then [D[k].id] else [] := by
 unfold presL
 rw [List.take_succ_eq_append_getElem h, List.filter_append, List.map_append]
 cases hq : presR L hour D[k] <;> simp [hq]
theorem presL_len (L : List Ent) (hour : Int) (D : List Pcl) : (presL L hour D).length ≤ D.length := by unfold presL; rw [List.length_map]; exact List.length_filter_le _ _
set_option maxHeartbeats 8000000 in
theorem rpresent_any (A : Option Addr) (cap : Nat) (L : List Ent) (K hour : Int) (w : World) (hA : EntsAt w A L) (hl : L.length ≤ 210) (hcap : L.length ≤ cap) (hz : ∀ e ∈ L, e.1.mark.size ≤ 1000000 ∧ e.1.goods.size ≤ 1000000) :
  Calls Tryz.prog 42 #[.slice A L.length cap, .int .i64 K, .int .i64 hour] w (RListPost L K (presL L hour) w) := by
 have HPA := hid (rparcels_any A cap L K w hA hl hcap hz)
 have HRW := hid hA.rows
 clear hA hz
 go_enter Tryz.func42, Tryz.ntmps42
 go_wp2_with fail
 refine HPA.out.mono ?_
 rintro e w1 hpost
 have HB1 := hid hpost.1
 obtain ⟨A1, k1, D, en, rfl, hpa, hdl, hcase⟩ := rparcels_form hpost hl
 have HPC := hid hpa
 have HC := hid hcase
 have HRW1 := hid (HRW.out.kept (Kept.of_below HB1.out))
 have hb1s := HB1.out.size
 clear hpost hpa hcase HPA HRW
 go_upto_region 4 with fail
 go_loopg [10, 11] (D.length) (fun g v iv wr => ∃ k : Nat, k ≤ D.length ∧ g = D.length - k ∧ iv = .int .i64 k ∧ Hid (wr.ownsRow w1.heap.size 3 1 v (presL L hour (D.take k)).length (ints (presL L hour (D.take k)))) ∧ Hid (Below w1.heap.size w1 wr))
 case atStart => exact ⟨0, by omega, by omega, rfl, hid (World.ownsRow_nil _ _ _ _), hid (Below.refl _ _)⟩
 case round =>
  obtain ⟨k, hk, hgk, rfl, hown, hbw⟩ := hrel
  by_cases hkl : k < D.length
  ·obtain ⟨b, off, hAe, hc⟩ := (HPC.out.kept (Kept.of_below hbw.out)) (by omega)
   subst hAe
   have hrg := hc k hkl
   obtain ⟨c0, _, c2, _⟩ := prange_at hrg
   have hsn := presL_snoc L hour D k hkl
   have hfl : (presL L hour (D.take k)).length ≤ 1680 := by
    have := presL_len L hour (D.take k)
    rw [List.length_take] at this
    omega
   obtain ⟨q, hq⟩ : ∃ q, D[k] = q := ⟨_, rfl⟩
   rw [hq] at c0 c2 hsn hrg
   have c9 : wr.cell? ⟨b, off + k * 12 + 9, none⟩ = some (.int .i64 q.hour) := hrg 9 _ rfl
   obtain ⟨ys, hys⟩ : ∃ l, presL L hour (D.take k) = l := ⟨_, rfl⟩
   rw [hys] at hsn hown hfl
   have HOF := hid (hourOf_any A cap L q.into wr (HRW1.out.kept (Kept.of_below hbw.out)) (by omega))
   obtain ⟨hr, hhr⟩ : ∃ x, hourR L q.into = x := ⟨_, rfl⟩
   have HPQ : Hid (presR L hour q = (decide (q.hour ≤ hour) && (decide (q.into = 0) || decide (hour < hr)))) := hid (by unfold presR; rw [hhr])
   rw [hhr] at HOF
   have i0 : (0 : Int) ≤ k := by omega
   have i1 : (k : Int) < D.length := by omega
   have HSN := hid hsn
   obtain ⟨v4, w4, hr4, ho4, hb4⟩ := app_one3 q.id hown.out (by omega) hbw.out.size
   have HR4 := hid hr4
   have HO4 := hid ho4
   have HB4 := hid (hbw.out.trans hb4)
   clear hc hrg hq hys hhr hsn hr4 ho4 hb4
   by_cases hh : q.hour ≤ hour
   rotate_left
   ·have dh : decide (q.hour ≤ hour) = false := decide_eq_false hh
    have HN : Hid (presR L hour q = false) := hid (by rw [HPQ.out, dh]; rfl)
    clear hh
    go_wp2_with fail
    go_roundg (D.length - (k + 1))
    case measure => omega
    case rel => exact ⟨k + 1, by omega, rfl, by go_num, hid (by rw [HSN.out, HN.out]; simpa using hown.out), hbw⟩
   have dh : decide (q.hour ≤ hour) = true := decide_eq_true hh
   by_cases hi : q.into = 0
   ·have di : (q.into == 0) = true := beq_iff_eq.2 hi
    have HY : Hid (presR L hour q = true) := hid (by rw [HPQ.out, dh, decide_eq_true hi]; rfl)
    clear hh hi
    go_wp2_with (first | (at_builtin; refine wpList_app rfl rfl rfl rfl rfl HR4.out ?_))
    go_roundg (D.length - (k + 1))
    case measure => omega
    case rel => exact ⟨k + 1, by omega, rfl, by go_num, hid (by rw [HSN.out, HY.out]; exact HO4.out), HB4⟩
   have di : (q.into == 0) = false := beq_eq_false_iff_ne.2 hi
   have HPR : Hid (presR L hour q = decide (hour < hr)) := hid (by rw [HPQ.out, dh, decide_eq_false hi]; rfl)
   clear hh hi
   go_wp2_with fail
   refine HOF.out.mono ?_
   rintro e wr ⟨rfl, rfl⟩
   by_cases hq : hour < hr
   ·have dq : decide (hour < hr) = true := decide_eq_true hq
    have HY : Hid (presR L hour q = true) := hid (by rw [HPR.out, dq])
    clear hq
    go_wp2_with (first | (at_builtin; refine wpList_app rfl rfl rfl rfl rfl HR4.out ?_))
    go_roundg (D.length - (k + 1))
    case measure => omega
    case rel => exact ⟨k + 1, by omega, rfl, by go_num, hid (by rw [HSN.out, HY.out]; exact HO4.out), HB4⟩
   ·have dq : decide (hour < hr) = false := decide_eq_false hq
    have HN : Hid (presR L hour q = false) := hid (by rw [HPR.out, dq])
    clear hq
    go_wp2_with fail
    go_roundg (D.length - (k + 1))
    case measure => omega
    case rel => exact ⟨k + 1, by omega, rfl, by go_num, hid (by rw [HSN.out, HN.out]; simpa using hown.out), hbw⟩
  ·obtain rfl : k = D.length := by omega
   have hown2 := hown.out
   rw [List.take_length] at hown2
   have HO := hid (own_lo (base' := w.heap.size) hown2 HB1.out.size)
   have HB := hid (HB1.out.trans (hbw.out.mono HB1.out.size))
   clear hown2
   go_wp2_with fail
   go_ret2
   unfold RListPost
   exact ⟨HB.out, D, en, _, rfl, HO.out, HC.out⟩
theorem rparcelOf_ret (tmps : Array Value) (w : World) (g : Nat) {q : Pcl} {e : Int} (hp : tmps.getD 6 undef = .pointer (some ⟨g, 0, none⟩)) (hu : tmps.getD 7 undef = .int .i64 e) (hg : PclIs w g q) :
  (results Tryz.f39 tmps).run Tryz.prog w = .ok (.tuple #[q.val, .int .i64 e]) w := by
 rw [results_cell_tmp rfl, hp, hu]
 simp [asAddr, run_loadVar_row w g _ _ q.cells (0, 0) _ hg Tryz.underlying38 rfl pcl_info]
def RParcelOfPost (L : List Ent) (K p : Int) (w : World) (e : Ending) (w' : World) : Prop :=
 Below w.heap.size w w' ∧ ((∃ i en, CheckIs (reps L) i en ∧ en ≠ 0 ∧ e = .returned (.tuple #[zp.val, .int .i64 en])) ∨
  (Valid (reps L) ∧ ∃ D, PclsOf (countE L K) D ∧ ((p ∉ D.map (·.id) ∧ e = .returned (.tuple #[zp.val, .int .i64 30])) ∨ ∃ q ∈ D, q.id = p ∧ e = .returned (.tuple #[Pcl.val q, .int .i64 0]))))
set_option maxHeartbeats 8000000 in
theorem rparcelOf_any (A : Option Addr) (cap : Nat) (L : List Ent) (K p : Int) (w : World) (hA : EntsAt w A L) (hl : L.length ≤ 210) (hcap : L.length ≤ cap) (hz : ∀ e ∈ L, e.1.mark.size ≤ 1000000 ∧ e.1.goods.size ≤ 1000000) :
  Calls Tryz.prog 39 #[.slice A L.length cap, .int .i64 K, .int .i64 p] w (RParcelOfPost L K p w) := by
 have HPA := hid (fun W (hb : Below w.heap.size w W) => rparcels_any A cap L K W (hA.below hb) hl hcap hz)
 clear hA hz
 go_enter Tryz.func39, Tryz.ntmps39
 go_upto_region 1 with fail
 refine zp_gen rfl ?_
 intro W hz0 hb
 have HB := hid hb
 have HZ := hid hz0
 have HP1 := hid (HPA.out W hb)
 have hlt : w.heap.size < W.heap.size := hz0.lt
 clear hz0 hb HPA
 go_wp2_with fail
 refine HP1.out.mono ?_
 rintro e w1 hpost
 have HB1 := hid (HB.out.trans (hpost.1.mono HB.out.size))
 have HZ1 := hid (HZ.out.below hpost.1)
 rcases hpost.2 with ⟨i, en, hck, hne, rfl⟩ | ⟨hv, D, v, hpo, rfl, ho⟩
 ·have d0 : (en != 0) = true := bne_iff_ne.2 hne
  have HCK := hid hck
  have HNE := hid hne
  clear hpost hck hne HP1
  go_wp2_with (first | refine store_pcl rfl _ _ rfl _ rfl (q := zp) rfl HZ1.out ?_)
  refine bodyPost_ret (rparcelOf_ret _ _ w.heap.size rfl rfl (pcl_set HZ1.out)) rfl ?_
  unfold RParcelOfPost
  exact ⟨below_setRow HB1.out (Nat.le_refl _) _, .inl ⟨i, en, HCK.out, HNE.out, rfl⟩⟩
 obtain ⟨A1, k1, rfl, hx1, hc1, hz1⟩ := ownsRow.form ho
 have HPC : Hid (PclsAt w1 A1 D) := hid (pcls_of_cells hx1)
 have HPO := hid hpo
 have HV := hid hv
 have hdl : D.length ≤ 1680 := by have := hpo.len; have := countE_len L K; omega
 have HOF := hid (rof_any A1 k1 D p w1 HPC.out (by omega))
 clear hpost hx1 hc1 hz1 ho hpo hv HP1
 go_wp2_with fail
 refine HOF.out.mono ?_
 rintro e w1 ⟨⟨i, rfl, hi⟩, rfl⟩
 rcases hi with ⟨rfl, hno⟩ | ⟨k0, hk0, rfl, hyes⟩
 ·have HNO : Hid (p ∉ D.map (·.id)) := hid (fun h => by
   obtain ⟨q, hq, he⟩ := List.mem_map.1 h
   exact hno q hq he)
  clear hno HOF
  go_wp2_with (first | refine store_pcl rfl _ _ rfl _ rfl (q := zp) rfl HZ1.out ?_)
  refine bodyPost_ret (rparcelOf_ret _ _ w.heap.size rfl rfl (pcl_set HZ1.out)) rfl ?_
  unfold RParcelOfPost
  exact ⟨below_setRow HB1.out (Nat.le_refl _) _, .inr ⟨HV.out, D, HPO.out, .inl ⟨HNO.out, rfl⟩⟩⟩
 ·obtain ⟨b, off, hAe, hc⟩ := HPC.out (by omega)
  subst hAe
  have hrange := hc k0 hk0
  have HQ : Hid (D[k0] ∈ D ∧ D[k0].id = p) := hid ⟨List.getElem_mem hk0, hyes⟩
  obtain ⟨q0, hq0⟩ : ∃ q, D[k0] = q := ⟨_, rfl⟩
  rw [hq0] at hrange HQ
  have HR := hid hrange
  have i0 : (0 : Int) ≤ k0 := by omega
  have i1 : (k0 : Int) < D.length := by omega
  have i2 : ¬ (k0 : Int) < 0 := by omega
  clear hc hrange hyes hq0 HOF hk0
  go_wp2_with (first | refine load_pcl_mid rfl _ rfl _ _ rfl HR.out ?_ | refine store_pcl rfl _ _ rfl _ rfl (q := q0) rfl HZ1.out ?_)
  refine bodyPost_ret (rparcelOf_ret _ _ w.heap.size rfl rfl (pcl_set HZ1.out)) rfl ?_
  unfold RParcelOfPost
  exact ⟨below_setRow HB1.out (Nat.le_refl _) _, .inr ⟨HV.out, D, HPO.out, .inr ⟨q0, HQ.out.1, HQ.out.2, rfl⟩⟩⟩
theorem enters_rsame : Enters 86 := fun args w => by kernel_rfl
set_option maxHeartbeats 8000000 in
theorem sameReports_t (A : Option Addr) (cap : Nat) (B : Option Addr) (cb : Nat) (L M : List Ent) (w : World) (hm : L.length ≤ 10000) (hA : EntsAt w A L) (hB : EntsAt w B M) (hr : reps L = reps M) :
  Calls Tryz.prog 43 #[.slice A L.length cap, .slice B M.length cb] w fun e w' => e = .returned (.bool true) ∧ Below w.heap.size w w' := by
 have hlen : M.length = L.length := by have := congrArg List.length hr; simpa using this.symm
 rw [hlen]
 have HLM := hid hlen
 have HA := hid hA
 have HB := hid hB
 have HRE := hid hr
 clear hA hB hr hlen
 go_enter Tryz.func43, Tryz.ntmps43
 go_upto_region 4 with fail
 go_loopg [5] (L.length) (fun g i wr => ∃ k : Nat, k ≤ L.length ∧ g = L.length - k ∧ i = .int .i64 k ∧ Hid (Below w.heap.size w wr))
 case atStart => exact ⟨0, by omega, by omega, rfl, hid (Below.refl _ _)⟩
 case round =>
  obtain ⟨k, hk, hgk, rfl, hbw⟩ := hrel
  by_cases hlt : k < L.length
  ·have hkm : k < M.length := by rw [HLM.out]; exact hlt
   have hea := HA.out.below hbw.out
   have heb := HB.out.below hbw.out
   obtain ⟨b, off, hAe, hc⟩ := hea.rows (by omega)
   subst hAe
   obtain ⟨b2, off2, hBe, hc2⟩ := heb.rows (by omega)
   subst hBe
   have hr1 := hc k hlt
   have hr2 := hc2 k hkm
   have hp1 := hea.parts _ (List.getElem_mem hlt)
   have hp2 := heb.parts _ (List.getElem_mem hkm)
   have heq : L[k].1 = M[k].1 := by
    have h1 : (reps L)[k]? = (reps M)[k]? := by rw [HRE.out]
    rw [List.getElem?_map, List.getElem?_map, List.getElem?_eq_getElem hlt, List.getElem?_eq_getElem hkm] at h1
    exact Option.some.inj h1
   obtain ⟨⟨x, P, c⟩, hx⟩ : ∃ y, L[k] = y := ⟨_, rfl⟩
   obtain ⟨⟨y, Q, d⟩, hy⟩ : ∃ z, M[k] = z := ⟨_, rfl⟩
   rw [hx] at hr1 hp1 heq
   rw [hy] at hr2 hp2 heq
   dsimp only at hr1 hr2 heq
   subst heq
   have HR1 := hid hr1
   have HR2 := hid hr2
   have hsm := rsame_any x x P Q c d wr.drew hp1.len hp2.len (hp1.ints.kept (Kept.of_below (Below.refl _ wr).drew)) (hp2.ints.kept (Kept.of_below (Below.refl _ wr).drew))
   rw [decide_eq_true rfl] at hsm
   have HSM := hid hsm
   have i0 : (0 : Int) ≤ k := by omega
   have i1 : (k : Int) < L.length := by omega
   clear hc hc2 hx hy hr1 hr2 hp1 hp2 hea heb hsm hkm
   go_upto_region 6 with fail
   refine wp_region_noPanic ?_
   refine wp_region_held_drew (S := fun w' => w'.rangeAt b (off + k * 15) (x.cells P c).toList ∧ w'.rangeAt b2 (off2 + k * 15) (x.cells Q d).toList) (by kernel_rfl) (⟨rangeAt_kept HR1.out (Kept.of_below (Below.refl _ wr).drew), rangeAt_kept HR2.out (Kept.of_below (Below.refl _ wr).drew)⟩) (fun hHeld => ?_)
   refine tk 0 (fun _ _ _ _ _ h => h) (by kernel_rfl) ‹_› ⟨_, ?_, by simp only [zz1, zz2]; rfl, .inl ⟨by rfl, ?_⟩, ?_⟩; rotate_left; · (intro w hSw; (try dsimp only at hSw); go_simp; all_goals with_reducible rfl)
   simp only [Act.put, zz4, zz5, zz6]
   refine tk 1 (fun _ _ _ _ _ h => h) (by kernel_rfl) ‹_› ⟨_, ?_, by simp only [zz1, zz2, zz3]; rfl, .inl ⟨by rfl, ?_⟩, ?_⟩; rotate_left; · (intro w hSw; (try dsimp only at hSw); go_simp; all_goals with_reducible rfl)
   simp only [Act.put, zz4, zz5, zz6]
   refine tk 2 (fun _ _ _ _ _ h => h) (by kernel_rfl) ‹_› ⟨_, ?_, by simp only [zz1, zz2, zz3]; rfl, .inl ⟨by rfl, ?_⟩, ?_⟩; rotate_left; · (intro w hSw; (try dsimp only at hSw); go_simp; all_goals with_reducible rfl)
   simp only [Act.put, zz4, zz5, zz6]
   refine tk 3 (fun _ _ _ _ _ h => h) (by kernel_rfl) ‹_› ⟨_, _, by simp only [zz1, zz2, zz3]; rfl, yields_rep rfl (.tmp 19) rfl b (off + k * 15) rfl (fun _ h => h.1), ?_⟩
   simp only [Act.put, zz4, zz5, zz6]
   refine tk 4 (fun _ _ _ _ _ h => h) (by kernel_rfl) ‹_› ⟨_, ?_, by simp only [zz1, zz2, zz3]; rfl, .inl ⟨by rfl, ?_⟩, ?_⟩; rotate_left; · (intro w hSw; (try dsimp only at hSw); go_simp; all_goals with_reducible rfl)
   simp only [Act.put, zz4, zz5, zz6]
   refine tk 5 (fun _ _ _ _ _ h => h) (by kernel_rfl) ‹_› ⟨_, ?_, by simp only [zz1, zz2, zz3]; rfl, .inl ⟨by rfl, ?_⟩, ?_⟩; rotate_left; · (intro w hSw; (try dsimp only at hSw); go_simp; all_goals with_reducible rfl)
   simp only [Act.put, zz4, zz5, zz6]
   refine tk 6 (fun _ _ _ _ _ h => h) (by kernel_rfl) ‹_› ⟨_, ?_, by simp only [zz1, zz2, zz3]; rfl, .inl ⟨by rfl, ?_⟩, ?_⟩; rotate_left; · (intro w hSw; (try dsimp only at hSw); go_simp; all_goals with_reducible rfl)
   simp only [Act.put, zz4, zz5, zz6]
   refine tk 7 (fun _ _ _ _ _ h => h) (by kernel_rfl) ‹_› ⟨_, _, by simp only [zz1, zz2, zz3]; rfl, yields_rep rfl (.tmp 23) rfl b2 (off2 + k * 15) rfl (fun _ h => h.2), ?_⟩
   simp only [Act.put, zz4, zz5, zz6]
   refine wpAnyH_ready (rs := [8]) (by kernel_rfl) (by simp) ?_
   refine cons_one (i := 8) ⟨_, by simp only [zz1, zz2, zz3]; rfl, fun K hK => ?_⟩ ?_
   rotate_left
   ·exact AllReadyH.nil
   refine step_call rfl #[.tmp 20, .tmp 24] 86 _ rfl enters_rsame #[x.val P c, x.val Q d] ?hs (fun u w' => u = .bool true ∧ Below wr.heap.size wr w') (HSM.out.mono (fun e w' h => ⟨_, h.1, rfl, (Below.refl _ wr).drew.trans h.2⟩)) ?_
   case hs => simp [Act.eval]
   rintro _ w5 ⟨rfl, hb5⟩
   have HB5 := hid hb5
   clear hb5 HSM
   clear hHeld
   refine hK.out _ _ (⟨rangeAt_kept HR1.out (Kept.of_below HB5.out), rangeAt_kept HR2.out (Kept.of_below HB5.out)⟩) (fun hHeld => ?_)
   clear hK K
   try simp only [Act.put, zz4, zz5, zz6]
   refine tk 9 (fun _ _ _ _ _ h => h) (by kernel_rfl) ‹_› ⟨_, ?_, by simp only [zz1, zz2, zz3]; rfl, .inl ⟨by rfl, ?_⟩, ?_⟩; rotate_left; · (intro w hSw; (try dsimp only at hSw); go_simp; all_goals with_reducible rfl)
   simp only [Act.put, zz4, zz5, zz6]
   refine wpAnyH_done (by kernel_rfl) ?_ _
   refine NoPanic.normal ?_
   go_wp2_with fail
   go_roundg (L.length - (k + 1))
   case measure => omega
   case rel => exact ⟨k + 1, by omega, rfl, by go_num, hid (hbw.out.trans (HB5.out.mono hbw.out.size))⟩
  ·obtain rfl : k = L.length := by omega
   go_wp2_with fail
   go_ret
   exact ⟨rfl, hbw.out⟩
theorem finds1_any (q : Pcl) (w : World) : Calls Tryz.prog 84 #[q.val] w fun e w' => e = .returned (.bool q.found) ∧ Below w.heap.size w w' := by
 obtain ⟨W, hW, hbx, hbW, hlt⟩ := boxP q w
 have HBW := hid hbW
 have x10 := hbx.at_.2.2.2.2.2.2.2.2.2.2.1
 clear hbx hbW
 go_enter Tryz.func84, Tryz.ntmps84
 go_wp2_with fail
 go_ret
 exact ⟨rfl, HBW.out⟩
def FindsPost (L : List Ent) (K : Int) (w : World) (e : Ending) (w' : World) : Prop :=
 Below w.heap.size w w' ∧ ((∃ en, FailsBy L K [] en ∧ e = .returned (.tuple #[.slice none 0 0, .int .i64 en])) ∨
  (Valid (reps L) ∧ ∃ ids v ys, IdsOf (countE L K) ids ∧ e = .returned (.tuple #[v, .int .i64 0]) ∧ w'.ownsRow w.heap.size 3 1 v ys.length (ints ys) ∧ ys = dropQ (fun p => !(pclOr (countE L K) ids p).found) ids))
set_option maxHeartbeats 8000000 in
theorem finds_any (A : Option Addr) (cap : Nat) (L : List Ent) (K : Int) (w : World) (hA : EntsAt w A L) (hl : L.length ≤ 210) (hcap : L.length ≤ cap) :
  Calls Tryz.prog 40 #[.slice A L.length cap, .int .i64 K] w (FindsPost L K w) := by
 have HLK := hid (looks_later hA hl hcap K [] (by simp) 0 w none (Below.refl _ _) (fun h => by simp at h))
 have HCL : Hid ((countE L K).length ≤ 210) := hid (Nat.le_trans (countE_len L K) hl)
 clear hA
 go_enter Tryz.func40, Tryz.ntmps40
 go_wp2_with fail
 refine HLK.out.mono ?_
 rintro e w2 hpost
 obtain ⟨hb2, hcase⟩ := looks_two hpost
 have HB2 := hid hb2
 clear hpost
 rcases hcase with ⟨en, hf, rfl⟩ | ⟨hv, ids, hids, _, bb, s, r1, r2, r3, r4, A2, cap2, rfl, hla⟩
 ·have hne : (en != 0) = true := bne_iff_ne.2 hf.ne
  have HF := hid hf
  clear hf hb2 HLK
  go_wp2_with fail
  go_ret2
  unfold FindsPost
  exact ⟨HB2.out, .inl ⟨en, HF.out, rfl⟩⟩
 have HI := hid hids
 have HV := hid hv
 have hil := ids_len hla.sound hids
 have HWN := hid (wanted_any hla (by have := HCL.out; omega) enters_finds1 (caps := #[]) Pcl.found (fun q wr hb => by
  have h9 := finds1_any q wr
  simpa using h9))
 clear hids hv hla hil HLK hb2
 go_wp2_with fail
 refine HWN.out.mono ?_
 rintro e w5 ⟨v, ys, rfl, ho5, hb5, hys⟩
 have HO5 := hid (own_lo (base' := w.heap.size) ho5 HB2.out.size)
 have HB5 := hid (HB2.out.trans (hb5.mono HB2.out.size))
 have HY := hid hys
 clear ho5 hb5 hys HWN
 go_wp2_with fail
 go_ret2
 unfold FindsPost
 exact ⟨HB5.out, .inr ⟨HV.out, ids, _, ys, HI.out, rfl, HO5.out, HY.out⟩⟩
theorem cells_of_rows {w : World} {A : Option Addr} {L : List Ent} (h : RowsAt w A L) : CellsAt w A (flat L) := fun h0 => by
 rw [flat_length] at h0
 obtain ⟨b, off, e, hc⟩ := h (by omega)
 refine ⟨b, off, e, fun m v hv => ?_⟩
 have hm := (List.getElem?_eq_some_iff.1 hv).1
 rw [flat_length] at hm
 have hi : m / 15 < L.length := by omega
 have hj : m % 15 < (L[m / 15].1.cells L[m / 15].2.1 L[m / 15].2.2).toList.length := by
  rw [cells_length L[m / 15]]
  omega
 have h1 := flat_at L (m / 15) hi (m % 15) _ (List.getElem?_eq_getElem hj)
 have hmm : m / 15 * 15 + m % 15 = m := by omega
 rw [hmm, hv] at h1
 have h2 := hc (m / 15) hi (m % 15) v (by rw [List.getElem?_eq_getElem hj, ← Option.some.inj h1])
 rwa [Nat.add_assoc, hmm] at h2
theorem own_set {w : World} {base n g cap i size : Nat} {e : TypeId} {xs : List Value} {u : Value} (h : w.ownsRow base e size (.slice (some ⟨g, 0, none⟩) n cap) n xs) : (w.setCell ⟨g, i, none⟩ u).ownsRow base e size (.slice (some ⟨g, 0, none⟩) n cap) n (xs.set i u) := by
 rcases h.2 with ⟨h2, _⟩ | ⟨g', cap', cur, h1, hb, h2, h3, h4, h5, h6⟩
 ·cases h2
 ·cases h1
  refine ⟨by rw [List.length_set]; exact h.1, .inr ⟨g, cap, _, rfl, hb, block_set h2, h3, h4, by simpa using h5, ?_⟩⟩
  rw [Array.toList_setIfInBounds, List.take_set, h6]
theorem flat_set : ∀ (L : List Ent) (k : Nat) (h : k < L.length) (A : Option Addr) (c : Nat), flat (L.set k (L[k].1, A, c)) = (flat L).set (k * 15 + 6) (.slice A L[k].1.parts.length c)
 | [], k, h, _, _ => by simp at h
 | e :: L, 0, h, A, c => by
  show (e.1.cells A c).toList ++ flat L = ((e.1.cells e.2.1 e.2.2).toList ++ flat L).set (0 * 15 + 6) _
  rw [List.set_append_left _ _ (by rw [cells_length]; omega)]
  rfl
 | e :: L, k + 1, h, A, c => by
  have hk : k < L.length := by simpa using h
  show (e.1.cells e.2.1 e.2.2).toList ++ flat (L.set k (L[k].1, A, c)) = ((e.1.cells e.2.1 e.2.2).toList ++ flat L).set ((k + 1) * 15 + 6) _
  rw [List.set_append_right _ _ (by rw [cells_length]; omega), flat_set L k hk A c, cells_length]
  congr 2
  omega
theorem ints_other {w : World} {A : Option Addr} {xs : List Int} (h : IntsAt w A xs) {g i : Nat} {u : Value} (hne : ∀ a, A = some a → 0 < xs.length → a.block ≠ g) : IntsAt (w.setCell ⟨g, i, none⟩ u) A xs := fun h0 => by
 obtain ⟨b, off, e, hc⟩ := h h0
 refine ⟨b, off, e, fun j hj => ?_⟩
 rw [World.cell?_setCell_other _ _ _ _ (fun k => hne _ e h0 (by simp [Addr.mk.inj k.symm]))]
 exact hc j hj
set_option maxHeartbeats 4000000 in
theorem cloneR_any (A : Option Addr) (cap : Nat) (L : List Ent) (w : World) (hA : CellsAt w A (flat L)) (hl : L.length ≤ 1000) (hn : A = none → L = []) :
  Calls Tryz.prog 117 #[.slice A L.length cap] w fun e w' => ∃ v, e = .returned v ∧ w'.ownsRow w.heap.size 46 15 v L.length (flat L) ∧ Below w.heap.size w w' := by
 have heq := Go.Lib.run_eql_slice_nil (P := Tryz.prog) w 22 46 A L.length cap 0 0 repsl_u
 rcases A with _ | a
 ·have h0 := hn rfl
  subst h0
  have heq : (binOp .eql 22 (.slice none 0 cap) (.slice none 0 0)).run Tryz.prog w = .ok (.bool true) w := heq
  go_enter Tryz.func117, Tryz.ntmps117
  go_wp2_with fail
  go_ret
  exact ⟨_, rfl, World.ownsRow_nil _ _ _ _, Below.refl _ _⟩
 ·have heq : (binOp .eql 22 (.slice (some a) L.length cap) (.slice none 0 0)).run Tryz.prog w = .ok (.bool false) w := heq
  obtain ⟨i, z, h1, h2, h3, h4, h5⟩ := reps_info
  have hown := World.ownsRow_lit (base := w.heap.size) (e := 46) (size := 15) w #[] 0 (Nat.le_refl _) (by decide) rfl
  obtain ⟨v9, w9, hr9, ho9, hg9⟩ := run_app (P := Tryz.prog) 22 (c := cap) (m := L.length) repsl_u h1 h2 h3 rfl h5 (by omega) hown (A := some a) (news := flat L) (by rw [flat_length]) (hA.kept (Kept.of_below ((Below.refl _ w).alloc (Nat.le_refl _) _))) (fun u hu => by
   obtain ⟨e, _, hu⟩ := List.mem_flatMap.1 hu
   exact Array.all_eq_true_iff_forall_mem.1 (rep_one e.1 e.2.1 e.2.2) u (by simpa using hu)) (by unfold maxLen; omega) (by
    have : (0 + L.length) * i.bytes ≤ 1000 * 1000 := Nat.mul_le_mul (by omega) h4
    omega) (by simp)
  rw [Nat.zero_add, List.nil_append] at ho9
  have HR9 := hid hr9
  have HO9 := hid ho9
  have HB9 := hid (((Below.refl _ w).alloc (Nat.le_refl _) (.cells #[] 46)).grown hg9 (by simp) (fun j e => by cases e; exact Nat.le_refl _))
  clear hr9 ho9 hg9 hA hown h1 h2 h3 h4 h5
  go_enter Tryz.func117, Tryz.ntmps117
  go_wp2_with (first | (at_builtin; refine wpList_app rfl rfl rfl rfl rfl HR9.out ?_))
  go_ret
  exact ⟨_, rfl, HO9.out, HB9.out⟩
/-- Reports in new memory. -/
structure CopyAt (w0 w : World) (g n : Nat) (L L1 : List Ent) (cap : Nat) : Prop where
 own : w.ownsRow w0.heap.size 46 15 (.slice (some ⟨g, 0, none⟩) n cap) L1.length (flat L1)
 same : reps L1 = reps L
 parts : ∀ e ∈ L1, PartsAt w e ∧ ∀ a, e.2.1 = some a → 0 < e.1.parts.length → a.block ≠ g
 low : Below w0.heap.size w0 w
def CopiedPost (L : List Ent) (w : World) (e : Ending) (w' : World) : Prop :=
 Below w.heap.size w w' ∧ ∃ v L1, e = .returned v ∧ w'.ownsRow w.heap.size 46 15 v L1.length (flat L1) ∧ reps L1 = reps L ∧ ∀ e ∈ L1, PartsAt w' e
theorem parts_none {w : World} {e : Ent} (h : PartsAt w e) (hn : e.2.1 = none) : e.1.parts = [] := by
 rcases hp : e.1.parts with _ | ⟨x, xs⟩
 ·rfl
 ·have := h.ints
  rw [hp, hn] at this
  obtain ⟨b, off, e, _⟩ := this (by simp)
  cases e
set_option maxHeartbeats 8000000 in
theorem copied_any (A : Option Addr) (cap : Nat) (L : List Ent) (w : World) (hA : EntsAt w A L) (hl : L.length ≤ 1000) :
  Calls Tryz.prog 79 #[.slice A L.length cap] w (CopiedPost L w) := by
 have HCL := hid (cloneR_any A cap L w (cells_of_rows hA.rows) hl (fun h => by
  rcases L with _ | ⟨x, xs⟩
  ·rfl
  ·obtain ⟨b, off, e, _⟩ := hA.rows (by simp)
   rw [h] at e
   cases e))
 have HP := hid hA.parts
 clear hA
 go_enter Tryz.func79, Tryz.ntmps79
 go_wp2_with fail
 refine HCL.out.mono ?_
 rintro e w5 ⟨v, rfl, ho5, hb5⟩
 have HB5 := hid hb5
 obtain ⟨A5, k5, rfl, hx5, hc5, hz5⟩ := ownsRow.form ho5
 have HO5 := hid ho5
 have HPL : Hid (∀ e ∈ L, PartsAt w5 e) := hid (fun e he => (HP.out e he).kept (Kept.of_below hb5))
 by_cases h0 : 0 < L.length
 rotate_left
 ·have hnil : L = [] := List.length_eq_zero_iff.1 (by omega)
  subst hnil
  clear h0 hx5 hc5 hz5 hb5 ho5 HCL
  go_upto_region 3 with fail
  go_loopg [8] (0) (fun g iv wr => g = 0 ∧ iv = .int .i64 0 ∧ w5 = wr)
  case atStart => exact ⟨rfl, rfl, rfl⟩
  case round =>
   obtain ⟨hg, rfl, rfl⟩ := hrel
   go_wp2_with fail
   go_ret
   exact ⟨HB5.out, _, [], rfl, HO5.out, rfl, by simp⟩
 obtain ⟨g, cp, hg0, hg, hcp⟩ := own_slice HO5.out h0
 cases hg0
 have hne0 : ∀ (e : Ent), e ∈ L → ∀ a, e.2.1 = some a → 0 < e.1.parts.length → a.block ≠ g := fun e he a ha hp => by
  have h1 := (HP.out e he).ints
  rw [ha] at h1
  have := ints_block h1 hp
  omega
 have HC0 : Hid (CopyAt w w5 g L.length L L k5) := hid ⟨HO5.out, rfl, fun e he => ⟨HPL.out e he, hne0 e he⟩, HB5.out⟩
 have hll : (L.length : Int) ≤ 1000 := by omega
 clear hx5 hc5 hz5 hb5 ho5 HCL HO5 hne0 hcp
 go_upto_region 3 with fail
 go_loopg [3, 8] (L.length) (fun gm u3 iv wr => ∃ (k : Nat) (L1 : List Ent), k ≤ L.length ∧ gm = L.length - k ∧ iv = .int .i64 k ∧ L1.length = L.length ∧ Hid (CopyAt w wr g L.length L L1 k5))
 case atStart => exact ⟨0, L, by omega, by omega, rfl, rfl, HC0⟩
 case round =>
  obtain ⟨k, L1, hk, hgk, rfl, hl1, hca⟩ := hrel
  have HL1 := hid hl1
  by_cases hkl : k < L.length
  ·have hk1 : k < L1.length := by omega
   obtain ⟨A9, c9, he9, hx9, _, hz9⟩ := ownsRow.form hca.out.own
   injection he9 with h9 h9n h9'
   clear h9n
   subst h9
   subst h9'
   obtain ⟨b, off, hbe, hc⟩ := (rows_of_cells hx9) (by omega)
   cases hbe
   have hcell := hc k hk1 6 _ rfl
   rw [Nat.zero_add] at hcell
   have hblk : ∃ cur, wr.heap[g]? = some (.cells cur 46 (0, 0)) := by
    rcases hca.out.own.2 with ⟨h1, _⟩ | ⟨g', c', cur, h1, _, h2, _⟩
    ·cases h1
    ·injection h1 with h3 _ _
     injection h3 with h3
     injection h3 with h3 _ _
     subst h3
     exact ⟨cur, h2⟩
   have hfr : wr.frozen? ⟨g, k * 15 + 6, none⟩ = false := by
    obtain ⟨cur, h2⟩ := hblk
    simp [World.frozen?, h2]
   have hgl : g < wr.heap.size := cell_lt hcell
   have hpa := (hca.out.parts _ (List.getElem_mem hk1)).1
   have hfs := fun A c => flat_set L1 k hk1 A c
   have hse : ∀ A c, reps (L1.set k (L1[k].1, A, c)) = reps L1 := fun A c => by
    show (L1.set k _).map Prod.fst = L1.map Prod.fst
    rw [List.map_set]
    have : (L1.map Prod.fst)[k]'(by rw [List.length_map]; exact hk1) = L1[k].1 := List.getElem_map _
    show (L1.map Prod.fst).set k L1[k].1 = _
    rw [← this, List.set_getElem_self]
   obtain ⟨⟨r, P, c⟩, hx⟩ : ∃ y, L1[k] = y := ⟨_, rfl⟩
   rw [hx] at hcell hpa hfs hse
   dsimp only at hcell hfs hse
   have HPA := hid hpa
   have HFS := hid hfs
   have HSE := hid hse
   have HCI := hid (cloneI_any P c r.parts wr hpa.ints (by have h : r.parts.length ≤ 100 := hpa.len; omega) (fun h => parts_none hpa h))
   have HCE := hid hcell
   have HFR := hid hfr
   have i0 : (0 : Int) ≤ k := by omega
   have i1 : (k : Int) < L.length := by omega
   clear hx9 hz9 hc hpa hfs hse hx hfr hl1 hk1 hblk
   go_wp2_with fail
   refine HCI.out.mono ?_
   rintro e w7 ⟨v7, rfl, ho7, hb7⟩
   obtain ⟨A7, k7, rfl, hx7, hc7, hz7⟩ := ownsRow.form ho7
   have hcell7 := Kept.of_below hb7 _ _ HCE.out
   have hfr7 : w7.frozen? ⟨g, k * 15 + 6, none⟩ = false := (hb7.frozen (p := ⟨g, k * 15 + 6, none⟩) hgl).trans HFR.out
   have HC2 : Hid (CopyAt w (w7.setCell ⟨g, k * 15 + 6, none⟩ (.slice A7 r.parts.length k7)) g L.length L (L1.set k (r, A7, k7)) k5) := hid ⟨by
     have h := hca.out.own
     rw [HL1.out] at h
     have h1 := own_set (i := k * 15 + 6) (u := .slice A7 r.parts.length k7) (own_below h hb7)
     rw [List.length_set, HL1.out, HFS.out]
     exact h1, (HSE.out A7 k7).trans hca.out.same, fun e he => by
     rcases List.mem_or_eq_of_mem_set he with he | rfl
     ·obtain ⟨k1, k2⟩ := hca.out.parts e he
      have k3 := k1.kept (Kept.of_below hb7)
      exact ⟨⟨ints_other k3.ints k2, k3.cap, k3.len⟩, k2⟩
     ·have hne : ∀ a, A7 = some a → 0 < r.parts.length → a.block ≠ g := fun a ha _ => by
       have := (hz7 a ha).1
       omega
      exact ⟨⟨ints_other (ownsRow_ints ho7) hne, hc7, HPA.out.len⟩, hne⟩, (hca.out.low.trans (hb7.mono hca.out.low.size)).setCell (p := ⟨g, k * 15 + 6, none⟩) hg _⟩
   clear hx7 hz7 ho7 hc7 hb7 hcell HCI
   go_wp2_with fail
   go_roundg (L.length - (k + 1))
   case measure => omega
   case rel => exact ⟨k + 1, L1.set k (r, A7, k7), by omega, rfl, by go_num, by rw [List.length_set]; exact HL1.out, HC2⟩
  ·obtain rfl : k = L.length := by omega
   clear hl1
   go_wp2_with fail
   go_ret
   exact ⟨hca.out.low, _, L1, rfl, by have h := hca.out.own; rw [HL1.out] at h ⊢; exact h, hca.out.same, fun e he => (hca.out.parts e he).1⟩
def CountingPost (L : List Ent) (K : Int) (w : World) (e : Ending) (w' : World) : Prop :=
 Below w.heap.size w w' ∧ ((∃ i en, CheckIs (reps L) i en ∧ en ≠ 0 ∧ e = .returned (.tuple #[.slice none 0 0, .int .i64 en])) ∨
  (Valid (reps L) ∧ ∃ v L1, e = .returned (.tuple #[v, .int .i64 0]) ∧ w'.ownsRow w.heap.size 46 15 v L1.length (flat L1) ∧ reps L1 = reps (countE L K) ∧ ∀ e ∈ L1, PartsAt w' e))
set_option maxHeartbeats 8000000 in
theorem ecounting_any (A : Option Addr) (cap : Nat) (L : List Ent) (K : Int) (w : World) (hA : EntsAt w A L) (hl : L.length ≤ 210) (hcap : L.length ≤ cap) :
  Calls Tryz.prog 36 #[.slice A L.length cap, .int .i64 K] w (CountingPost L K w) := by
 have HCK := hid (check_any A cap L w hA hl hcap)
 have HE := hid hA
 clear hA
 go_enter Tryz.func36, Tryz.ntmps36
 go_wp2_with fail
 refine HCK.out.mono ?_
 rintro e w2 ⟨⟨i, en, rfl, hck⟩, hb2⟩
 have HB2 := hid hb2
 have HE2 := hid (HE.out.below hb2)
 by_cases hen : en = 0
 rotate_left
 ·have d1 : (en != 0) = true := bne_iff_ne.2 hen
  have HN := hid hen
  have HK := hid hck
  clear hen hck hb2 HCK
  go_wp2_with fail
  go_ret2
  unfold CountingPost
  exact ⟨HB2.out, .inl ⟨i, en, HK.out, HN.out, rfl⟩⟩
 subst hen
 have HV := hid (check_valid hck)
 have HCN := hid (counting_any A cap L K w2 HE2.out (by omega))
 clear hck hb2 HCK
 go_wp2_with fail
 refine HCN.out.mono ?_
 rintro e w3 ⟨v, rfl, ho3, hb3⟩
 obtain ⟨A3, k3, rfl, hx3, hc3, hz3⟩ := ownsRow.form ho3
 have hcl := countE_len L K
 have HE3 : Hid (EntsAt w3 A3 (countE L K)) := hid ⟨rows_of_cells hx3, fun e he => (HE2.out.parts e (countE_sub L K e he)).kept (Kept.of_below hb3)⟩
 have HB3 := hid (HB2.out.trans (hb3.mono HB2.out.size))
 have HCP := hid (copied_any A3 k3 (countE L K) w3 HE3.out (by omega))
 clear ho3 hx3 hc3 hz3 hb3 HCN
 go_wp2_with fail
 refine HCP.out.mono ?_
 rintro e w4 ⟨hb4, v4, L1, rfl, ho4, hre, hpa⟩
 have HO4 := hid (own_lo (base' := w.heap.size) ho4 HB3.out.size)
 have HB4 := hid (HB3.out.trans (hb4.mono HB3.out.size))
 have HR := hid hre
 have HP := hid hpa
 clear ho4 hb4 hre hpa HCP
 go_wp2_with fail
 go_ret2
 unfold CountingPost
 exact ⟨HB4.out, .inr ⟨HV.out, _, L1, rfl, HO4.out, HR.out, HP.out⟩⟩
end Go.Proofs.YtfaoillnakhejaaGreat
