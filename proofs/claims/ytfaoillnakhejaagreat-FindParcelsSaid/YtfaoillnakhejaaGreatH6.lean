/- ParcelOf, Origins, Remains; The small functions of the reference: within, Has, SameInts, parcel; The reference: uses, takes, Makes. -/
import Derived.Test.YtfaoillnakhejaaGreatH5
import Derived.Test.YtfaoillnakhejaaGreatH2
import Derived.Test.YtfaoillnakhejaaGreatG14
import Derived.BigRegion
import Derived.BigQuiet
namespace Go.Proofs.YtfaoillnakhejaaGreat
set_option maxRecDepth 100000
open Go.RowKit
theorem looks_later {A : Option Addr} {cap : Nat} {L : List Ent} {w : World} (hA : EntsAt w A L) (hl : L.length ≤ 210) (hcap : L.length ≤ cap) (K : Int) (ps : List Int) (hpl : ps.length ≤ 1000) (pc : Nat) :
  ∀ w1 PA, Below w.heap.size w w1 → IntsAt w1 PA ps → Calls Tryz.prog 46 #[.slice A L.length cap, .int .i64 K, .slice PA ps.length pc] w1 (LooksPost L K ps w1) :=
 fun w1 PA hb hP => looks_any A cap L K PA pc ps w1 (hA.below hb) hl hcap hP hpl
theorem ints_new (w : World) (p : Int) : IntsAt (w.alloc (.cells #[.int .i64 p] 3)) (some ⟨w.heap.size, 0, none⟩) [p] := fun _ => ⟨w.heap.size, 0, rfl, fun j hj => by
 have : j = 0 := by simpa using hj
 subst this; simp⟩
/-- How the functions on a beach fail, ahead of their own work. -/
def FailsBy (L : List Ent) (K : Int) (ps : List Int) (en : Int) : Prop :=
 (∃ i, CheckIs (reps L) i en ∧ en ≠ 0) ∨ (Valid (reps L) ∧ ∃ ids, IdsOf (countE L K) ids ∧ (∃ p ∈ ps, p ∉ ids) ∧ en = 30)
theorem FailsBy.ne {L : List Ent} {K : Int} {ps : List Int} {en : Int} (h : FailsBy L K ps en) : en ≠ 0 := by
 rcases h with ⟨_, _, h⟩ | ⟨_, _, _, _, h⟩ <;> omega
/-- The two ways out of looks. -/
theorem looks_two {L : List Ent} {K : Int} {ps : List Int} {w : World} {e : Ending} {w' : World} (h : LooksPost L K ps w e w') : Below w.heap.size w w' ∧
  ((∃ en, FailsBy L K ps en ∧ e = .returned (.tuple #[.pointer none, .int .i64 en])) ∨ (Valid (reps L) ∧ ∃ ids, IdsOf (countE L K) ids ∧ (∀ p ∈ ps, p ∈ ids) ∧ ∃ bb s r1 r2 r3 r4 A cap, e = .returned (.tuple #[.pointer (some ⟨bb, 0, none⟩), .int .i64 0]) ∧ LooksAt w' bb s r1 r2 r3 r4 A cap (countE L K) ids)) := by
 obtain ⟨hb, ⟨i, en, h1, h2, h3⟩ | ⟨hv, ids, hi, ⟨h1, h2⟩ | ⟨h1, h2⟩⟩⟩ := h
 ·exact ⟨hb, .inl ⟨en, .inl ⟨i, h1, h2⟩, h3⟩⟩
 ·exact ⟨hb, .inl ⟨30, .inr ⟨hv, ids, hi, h1, rfl⟩, h2⟩⟩
 ·exact ⟨hb, .inr ⟨hv, ids, hi, h1, h2⟩⟩
theorem LooksAt.cells {w : World} {bb s r1 r2 r3 r4 : Nat} {A : Option Addr} {cap : Nat} {C : List Ent} {ids : List Int} (h : LooksAt w bb s r1 r2 r3 r4 A cap C ids) :
  w.cell? ⟨bb, 0, none⟩ = some (.pointer (some ⟨s, 0, none⟩)) ∧ (∃ Ai c, w.cell? ⟨bb, 1, none⟩ = some (.slice Ai ids.length c) ∧ IntsAt w Ai ids ∧ ids.length ≤ c) ∧ w.cell? ⟨bb, 2, none⟩ = some (.map (some r4)) := by
 obtain ⟨Ai, c, h1, h2, h3⟩ := h.box
 refine ⟨?_, ⟨Ai, c, ?_, h2, h3⟩, ?_⟩ <;> simp [World.cell?, h1]
def pclOr (C : List Ent) (ids : List Int) (p : Int) : Pcl := (if p ∈ ids then some (parcelF C p) else none).getD zp
theorem pclOr_in {C : List Ent} {ids : List Int} {p : Int} (h : p ∈ ids) : pclOr C ids p = parcelF C p := by unfold pclOr; rw [if_pos h]; rfl
theorem pclOr_out {C : List Ent} {ids : List Int} {p : Int} (h : p ∉ ids) : pclOr C ids p = zp := by unfold pclOr; rw [if_neg h]; rfl
theorem LooksAt.look {w : World} {bb s r1 r2 r3 r4 : Nat} {A : Option Addr} {cap : Nat} {C : List Ent} {ids : List Int} (h : LooksAt w bb s r1 r2 r3 r4 A cap C ids) (p : Int) :
  (Instr.lookup 75 (.map (some r4)) (.int .i64 p) false).run Tryz.prog w = .ok (pclOr C ids p).val w := by
 unfold pclOr
 rw [← orZ_pcl]
 exact h.parcels.look mapP_u zp.val (pcl_zero w) p
theorem LooksAt.look2 {w : World} {bb s r1 r2 r3 r4 : Nat} {A : Option Addr} {cap : Nat} {C : List Ent} {ids : List Int} (h : LooksAt w bb s r1 r2 r3 r4 A cap C ids) (p : Int) :
  (Instr.lookup 75 (.map (some r4)) (.int .i64 p) true).run Tryz.prog w = .ok (.tuple #[(pclOr C ids p).val, .bool (decide (p ∈ ids))]) w := by
 have h1 := h.parcels.look2 mapP_u zp.val (pcl_zero w) p
 rw [orZ_pcl] at h1
 have : (if p ∈ ids then some (parcelF C p) else none).isSome = decide (p ∈ ids) := by by_cases h : p ∈ ids <;> simp [h]
 rw [this] at h1
 exact h1
theorem LooksAt.beach {w : World} {bb s r1 r2 r3 r4 : Nat} {A : Option Addr} {cap : Nat} {C : List Ent} {ids : List Int} (h : LooksAt w bb s r1 r2 r3 r4 A cap C ids) : BeachAt w bb s r1 r2 r3 A cap C :=
 ⟨h.cells.1, h.store, h.ents⟩
theorem pcl_first (W : World) (q : Pcl) : PclIs (W.alloc (.cells q.cells 38)) W.heap.size q := heap_alloc_new W _
theorem zp_gen {w : World} {cs : Array Value} {F : World → Prop} (h : cs = zp.cells) (k : ∀ W, PclIs W w.heap.size zp → Below w.heap.size w W → F W) : F (w.alloc (.cells cs 38)) := by
 subst h
 exact k _ (pcl_first w zp) ((Below.refl _ _).alloc (Nat.le_refl _) _)
theorem parcelOf_ret (tmps : Array Value) (w : World) (g : Nat) {q : Pcl} {e : Int} (hp : tmps.getD 6 undef = .pointer (some ⟨g, 0, none⟩)) (hu : tmps.getD 7 undef = .int .i64 e) (hg : PclIs w g q) :
  (results Tryz.f20 tmps).run Tryz.prog w = .ok (.tuple #[q.val, .int .i64 e]) w := by
 rw [results_cell_tmp rfl, hp, hu]
 simp [asAddr, run_loadVar_row w g _ _ q.cells (0, 0) _ hg Tryz.underlying38 rfl pcl_info]
set_option maxHeartbeats 8000000 in
theorem parcelOf_any (A : Option Addr) (cap : Nat) (L : List Ent) (K p : Int) (w : World) (hA : EntsAt w A L) (hl : L.length ≤ 210) (hcap : L.length ≤ cap) :
  Calls Tryz.prog 20 #[.slice A L.length cap, .int .i64 K, .int .i64 p] w fun e w' => Below w.heap.size w w' ∧
   ((∃ en, FailsBy L K [p] en ∧ e = .returned (.tuple #[zp.val, .int .i64 en])) ∨ (Valid (reps L) ∧ ∃ ids, IdsOf (countE L K) ids ∧ p ∈ ids ∧ e = .returned (.tuple #[(parcelF (countE L K) p).val, .int .i64 0]))) := by
 have HLK := hid (looks_later hA hl hcap K [p] (by simp) 1)
 clear hA
 go_enter Tryz.func20, Tryz.ntmps20
 go_upto_region 1 with fail
 refine zp_gen rfl ?_
 intro W hz hb
 have HB := hid hb
 have HZ := hid hz
 have hlt : w.heap.size < W.heap.size := hz.lt
 clear hz hb
 go_wp2_with fail
 refine (HLK.out _ _ (HB.out.alloc HB.out.size _) (ints_new W p)).mono ?_
 rintro e w2 hpost
 obtain ⟨hb2, hcase⟩ := looks_two hpost
 have HB2 := hid ((HB.out.alloc HB.out.size _).trans (hb2.mono (by simp; omega)))
 have hz2 := (HZ.out.below ((Below.refl _ W).alloc (Nat.le_refl _) (.cells #[.int .i64 p] 3))).below hb2
 have HZ2 := hid hz2
 clear hpost hb2 hz2
 rcases hcase with ⟨en, hf, rfl⟩ | ⟨hv, ids, hids, hin, bb, s, r1, r2, r3, r4, A2, cap2, rfl, hla⟩
 ·have hne : (en != 0) = true := bne_iff_ne.2 hf.ne
  have HF := hid hf
  clear hf
  go_wp2_with (first | refine store_pcl rfl _ _ rfl _ rfl (q := zp) rfl HZ2.out ?_)
  refine bodyPost_ret (parcelOf_ret _ _ w.heap.size rfl rfl (pcl_set HZ2.out)) rfl ?_
  exact ⟨below_setRow HB2.out (Nat.le_refl _) _, .inl ⟨en, HF.out, rfl⟩⟩
 ·obtain ⟨c0, c1, c2⟩ := hla.cells
  have hlk := hla.look p
  rw [pclOr_in (hin p (by simp))] at hlk
  have HI := hid hids
  have HIN := hid (hin p (by simp))
  have HV := hid hv
  clear hids hin hla c0 c1 hv
  go_wp2_with (first | refine store_pcl rfl _ _ rfl _ rfl (q := parcelF (countE L K) p) rfl HZ2.out ?_)
  refine bodyPost_ret (parcelOf_ret _ _ w.heap.size rfl rfl (pcl_set HZ2.out)) rfl ?_
  exact ⟨below_setRow HB2.out (Nat.le_refl _) _, .inr ⟨HV.out, ids, HI.out, HIN.out, rfl⟩⟩
/-! ### The search back and on ends -/
def rankB (C : List Ent) (p : Int) : Nat := (reps C).findIdx fun r => decide (p ∈ r.makes)
def rankO (C : List Ent) (p : Int) : Nat := C.length - (reps C).findIdx fun r => decide (p ∈ r.uses)
theorem findIdx_le {α : Type} {q : α → Bool} {l : List α} {j : Nat} (h : j < l.length) (hq : q l[j] = true) : l.findIdx q ≤ j := by
 rcases Nat.lt_or_ge j (l.findIdx q) with h1 | h1
 ·have := List.not_of_lt_findIdx h1
  rw [hq] at this
  simp at this
 ·exact h1
theorem maker_at {C : List Ent} {p : Int} {e : Ent} (h : makerE C p = some e) : ∃ j, ∃ hj : j < C.length, C[j] = e ∧ p ∈ C[j].1.makes := by
 obtain ⟨h1, h2⟩ := makerE_some h
 obtain ⟨j, hj, rfl⟩ := List.getElem_of_mem h1
 exact ⟨j, hj, rfl, h2⟩
theorem rank_back {C : List Ent} (hs : Sound (reps C)) (p : Int) : ∀ q ∈ backL C p, rankB C q < rankB C p := by
 intro q hq
 unfold backL at hq
 split at hq
 ·cases hq
 rename_i h1
 rcases he : makerE C p with _ | e
 ·rw [he] at hq
  simp [entOr, zr, Rep.uses] at hq
 ·rw [he] at hq
  have h2 : q ∈ e.1.uses := hq
  have hl : (reps C).length = C.length := by simp [reps]
  have hp : rankB C p < (reps C).length := by
   unfold rankB
   refine List.findIdx_lt_length_of_exists ⟨e.1, List.mem_map_of_mem (f := Prod.fst) (makerE_some he).1, ?_⟩
   exact decide_eq_true (makerE_some he).2
  have hm := List.findIdx_getElem (w := hp)
  have hm2 : p ∈ ((reps C)[rankB C p]).makes := of_decide_eq_true hm
  have hx : e.1 = (reps C)[rankB C p] := hs.maker (List.mem_map_of_mem (f := Prod.fst) (makerE_some he).1) (List.getElem_mem hp) (makerE_some he).2 hm2
  rw [hx] at h2
  obtain ⟨y, hy, hyq⟩ := (hs.at_ _ hp).made q (uses_touches (hs.wfs _ (List.getElem_mem hp)) h2)
  obtain ⟨i, hi, rfl⟩ := List.getElem_of_mem hy
  have hi2 : i < rankB C p := by simp at hi; omega
  rw [List.getElem_take] at hyq
  have := findIdx_le (q := fun r : Rep => decide (q ∈ r.makes)) (l := reps C) (j := i) (by omega) (decide_eq_true hyq)
  unfold rankB at hi2 ⊢
  omega
theorem use_index {L : List Rep} {p : Int} (h : ∃ r ∈ L, p ∈ r.uses) : ∃ j, ∃ hj : j < L.length, (L.findIdx fun r => decide (p ∈ r.uses)) = j ∧ p ∈ L[j].uses := by
 obtain ⟨r, hr, hp⟩ := h
 have h1 : (L.findIdx fun r => decide (p ∈ r.uses)) < L.length := List.findIdx_lt_length_of_exists ⟨r, hr, decide_eq_true hp⟩
 exact ⟨_, h1, rfl, of_decide_eq_true (List.findIdx_getElem (w := h1))⟩
theorem unused_index {L : List Rep} {p : Int} (h : ¬ ∃ r ∈ L, p ∈ r.uses) : (L.findIdx fun r => decide (p ∈ r.uses)) = L.length := by
 rw [List.findIdx_eq_length]
 intro r hr
 exact decide_eq_false fun hp => h ⟨r, hr, hp⟩
theorem rank_on {C : List Ent} (hs : Sound (reps C)) (p : Int) : ∀ q ∈ onL C p, rankO C q < rankO C p := by
 intro q hq
 unfold onL at hq
 rcases he : userE C p with _ | e
 ·rw [he] at hq
  cases hq
 ·rw [he] at hq
  have h2 : q ∈ e.1.makes := hq
  have hl : (reps C).length = C.length := by simp [reps]
  have hem : e.1 ∈ reps C := List.mem_map_of_mem (f := Prod.fst) (userE_some he).1
  obtain ⟨j, hj, ej, hm⟩ := use_index ⟨e.1, hem, (userE_some he).2⟩
  have hx : e.1 = (reps C)[j] := hs.user hem (List.getElem_mem hj) (userE_some he).2 hm
  rw [hx] at h2
  unfold rankO
  rw [ej]
  by_cases hq2 : ∃ r ∈ reps C, q ∈ r.uses
  ·obtain ⟨k, hk, ek, hu⟩ := use_index hq2
   rw [ek]
   obtain ⟨y, hy, hyq⟩ := (hs.at_ k hk).made q (uses_touches (hs.wfs _ (List.getElem_mem hk)) hu)
   obtain ⟨i, hi, rfl⟩ := List.getElem_of_mem hy
   rw [List.getElem_take] at hyq
   have hi2 : i < k := by simp at hi; omega
   have hxy := hs.maker (List.getElem_mem (l := reps C) (n := i) (by omega)) (List.getElem_mem hj) hyq h2
   have : i = j := by
    rcases Nat.lt_trichotomy i j with h3 | h3 | h3
    ·exact absurd (by rw [hxy]) ((hs.at_ _ hj).id _ (take_mem (by omega) h3))
    ·exact h3
    ·exact absurd (by rw [hxy]) ((hs.at_ i (by omega)).id _ (take_mem hj h3))
   omega
  ·rw [unused_index hq2]
   omega
theorem back_len {C : List Ent} (hs : Sound (reps C)) (p : Int) : (backL C p).length ≤ 1000 := by
 unfold backL
 split
 ·simp
 ·rcases he : makerE C p with _ | e
  ·simp [entOr, zr, Rep.uses]
  ·have := uses_len _ (hs.wfs e.1 (List.mem_map_of_mem (f := Prod.fst) (makerE_some he).1))
   simp only [entOr, Option.getD_some]
   omega
theorem on_len {C : List Ent} (hs : Sound (reps C)) (p : Int) : (onL C p).length ≤ 1000 := by
 unfold onL
 rcases he : userE C p with _ | e
 ·simp
 ·have := makes_len _ (hs.wfs e.1 (List.mem_map_of_mem (f := Prod.fst) (userE_some he).1))
  dsimp only
  omega
/-- What is reached is made. -/
theorem back_made {C : List Ent} (hs : Sound (reps C)) {p q : Int} (h : Reach (backL C) p q) : (makerE C p).isSome = true → (makerE C q).isSome = true := by
 induction h with
 | refl => exact id
 | @step p x q hx _ ih =>
  intro hp
  refine ih ?_
  obtain ⟨e, he⟩ := Option.isSome_iff_exists.1 hp
  unfold backL at hx
  split at hx
  ·cases hx
  rw [he] at hx
  have h2 : x ∈ e.1.uses := hx
  obtain ⟨j, hj, hje, hjm⟩ := maker_at he
  have hjr : j < (reps C).length := by simp [reps]; omega
  have hget : (reps C)[j] = e.1 := by simp [reps, hje]
  obtain ⟨y, hy, hyq⟩ := (hs.at_ j hjr).made x (by rw [hget]; exact uses_touches (hs.wfs e.1 (by rw [← hget]; exact List.getElem_mem hjr)) h2)
  rw [← hs |> fun _ => maker_isSome.2 ⟨y, List.mem_of_mem_take hy, hyq⟩]
  have := maker_same (L := C) hs x
  rw [this]
  cases makerE C x <;> rfl
theorem on_made {C : List Ent} (hs : Sound (reps C)) {p q : Int} (h : Reach (onL C) p q) : (makerE C p).isSome = true → (makerE C q).isSome = true := by
 induction h with
 | refl => exact id
 | @step p x q hx _ ih =>
  intro _
  refine ih ?_
  unfold onL at hx
  rcases he : userE C p with _ | e
  ·rw [he] at hx
   cases hx
  ·rw [he] at hx
   have h2 : x ∈ e.1.makes := hx
   have h3 := maker_isSome.2 ⟨e.1, List.mem_map_of_mem (f := Prod.fst) (userE_some he).1, h2⟩
   rw [maker_same (L := C) hs x] at h3
   cases hm : makerE C x
   ·rw [hm] at h3; cases h3
   ·rfl
theorem made_few {C : List Ent} (hs : Sound (reps C)) {ys : List Int} (hn : ys.Nodup) (hy : ∀ p ∈ ys, (makerE C p).isSome = true) : ys.length ≤ 8 * C.length := by
 have h1 : ∀ p ∈ ys, p ∈ C.flatMap fun e => e.1.makes := fun p hp => by
  obtain ⟨e, he⟩ := Option.isSome_iff_exists.1 (hy p hp)
  exact List.mem_flatMap.2 ⟨e, (makerE_some he).1, (makerE_some he).2⟩
 refine Nat.le_trans (nodup_le hn h1) ?_
 have : ∀ L : List Ent, (∀ e ∈ L, e.1.Wf) → (L.flatMap fun e => e.1.makes).length ≤ 8 * L.length := by
  intro L
  induction L with
  | nil => simp
  | cons a L ih =>
   intro h
   have h1 := makes_len _ (h a (by simp))
   have h2 := ih (fun e he => h e (by simp [he]))
   simp only [List.flatMap_cons, List.length_append, List.length_cons]
   omega
 exact this C fun e he => hs.wfs e.1 (List.mem_map_of_mem (f := Prod.fst) he)
theorem field_found (q : Pcl) (w : World) : (Instr.field 38 q.val 9).run Tryz.prog w = .ok (.bool q.found) w := by kernel_rfl
theorem field_into (q : Pcl) (w : World) : (Instr.field 38 q.val 2).run Tryz.prog w = .ok (.int .i64 q.into) w := by kernel_rfl
set_option maxHeartbeats 8000000 in
theorem origins1_any {w : World} {bb s r1 r2 r3 r4 : Nat} {A : Option Addr} {cap : Nat} {C : List Ent} {ids : List Int} (h : LooksAt w bb s r1 r2 r3 r4 A cap C ids) {B : Nat} (hB : w.cell? ⟨B, 0, none⟩ = some (.pointer (some ⟨bb, 0, none⟩))) (x : Int) :
  Calls Tryz.prog 51 #[.int .i64 x, .pointer (some ⟨B, 0, none⟩)] w fun e w' => e = .returned (.bool (!(pclOr C ids x).found)) ∧ Below w.heap.size w w' := by
 obtain ⟨_, _, c2⟩ := h.cells
 have hlk := h.look x
 obtain ⟨q, hq⟩ : ∃ q, pclOr C ids x = q := ⟨_, rfl⟩
 rw [hq] at hlk ⊢
 clear h hq
 have hff := field_found q
 go_enter Tryz.func51, Tryz.ntmps51
 go_wp2_with fail
 go_ret
 exact ⟨rfl, Below.refl _ _⟩
set_option maxHeartbeats 8000000 in
theorem remains1_any {w : World} {bb s r1 r2 r3 r4 : Nat} {A : Option Addr} {cap : Nat} {C : List Ent} {ids : List Int} (h : LooksAt w bb s r1 r2 r3 r4 A cap C ids) {B : Nat} (hB : w.cell? ⟨B, 0, none⟩ = some (.pointer (some ⟨bb, 0, none⟩))) (x : Int) :
  Calls Tryz.prog 55 #[.int .i64 x, .pointer (some ⟨B, 0, none⟩)] w fun e w' => e = .returned (.bool (decide (0 < (pclOr C ids x).into))) ∧ Below w.heap.size w w' := by
 obtain ⟨_, _, c2⟩ := h.cells
 have hlk := h.look x
 obtain ⟨q, hq⟩ : ∃ q, pclOr C ids x = q := ⟨_, rfl⟩
 rw [hq] at hlk ⊢
 clear h hq
 have hff := field_into q
 go_enter Tryz.func55, Tryz.ntmps55
 go_wp2_with fail
 go_ret
 exact ⟨rfl, Below.refl _ _⟩
/-! ### Origins and Remains -/
theorem box_gen {w : World} {t : TypeId} {v : Value} {F : World → Prop} {n : Nat} (hn : n = w.heap.size) (k : ∀ W, W.cell? ⟨n, 0, none⟩ = some v → Below n w W → n < W.heap.size → F W) : F (w.alloc (.cells #[v] t)) := by
 subst hn
 exact k _ (Boxed.new w t v).cell ((Below.refl _ _).alloc (Nat.le_refl _) _) (by simp)
theorem enters_back : Enters 48 := fun args w => by kernel_rfl
theorem enters_on : Enters 54 := fun args w => by kernel_rfl
theorem enters_origins1 : Enters 51 := fun args w => by kernel_rfl
theorem enters_remains1 : Enters 55 := fun args w => by kernel_rfl
set_option maxHeartbeats 8000000 in
theorem origins_any (A : Option Addr) (cap : Nat) (L : List Ent) (K p : Int) (w : World) (hA : EntsAt w A L) (hl : L.length ≤ 210) (hcap : L.length ≤ cap) :
  Calls Tryz.prog 11 #[.slice A L.length cap, .int .i64 K, .int .i64 p] w fun e w' => Below w.heap.size w w' ∧
   ((∃ en, FailsBy L K [p] en ∧ e = .returned (.tuple #[.slice none 0 0, .int .i64 en])) ∨ (Valid (reps L) ∧ ∃ ids, IdsOf (countE L K) ids ∧ p ∈ ids ∧ ∃ ys v, e = .returned (.tuple #[v, .int .i64 0]) ∧ w'.ownsRow w.heap.size 3 1 v ys.length (ints ys) ∧ ys.Pairwise (· < ·) ∧ ∀ x, x ∈ ys ↔ (Reach (backL (countE L K)) p x ∧ (pclOr (countE L K) ids x).found = true))) := by
 have HLK := hid (looks_later hA hl hcap K [p] (by simp) 1)
 have HCL : Hid ((countE L K).length ≤ 210) := hid (Nat.le_trans (countE_len L K) hl)
 clear hA
 go_enter Tryz.func11, Tryz.ntmps11
 go_wp2_with fail
 refine (HLK.out _ _ ((Below.refl _ _).alloc (Nat.le_refl _) _) (ints_new w p)).mono ?_
 rintro e w2 hpost
 obtain ⟨hb2, hcase⟩ := looks_two hpost
 have HB2 := hid (((Below.refl _ w).alloc (Nat.le_refl _) (.cells #[.int .i64 p] 3)).trans (hb2.mono (by simp)))
 clear hpost hb2
 rcases hcase with ⟨en, hf, rfl⟩ | ⟨hv, ids, hids, hin, bb, s, r1, r2, r3, r4, A2, cap2, rfl, hla⟩
 ·have hne : (en != 0) = true := bne_iff_ne.2 hf.ne
  have HF := hid hf
  clear hf
  go_wp2_with (first | go_region)
  all_goals go_ret2
  all_goals exact ⟨by first | exact (HB2.out.alloc HB2.out.size _) | exact (HB2.out.alloc HB2.out.size _).drew | exact (HB2.out.drew.alloc HB2.out.size _), .inl ⟨en, HF.out, rfl⟩⟩
 ·have hnn : (some (⟨bb, 0, none⟩ : Addr)).isSome = true := rfl
  have HI := hid hids
  have HIN := hid (hin p (by simp))
  have HV := hid hv
  have HSO : Hid (Sound (reps (countE L K))) := hid hla.sound
  have HLA := hid hla
  clear hids hin hla hv
  go_upto_region 4 with (first | go_region)
  refine box_gen rfl ?_
  intro W3 hB3 hb3 hlt3
  have HLA3 := hid (HLA.out.below hb3)
  have HRE := hid (reached_any (backL (countE L K)) (rankB (countE L K)) (rank_back HSO.out) (back_len HSO.out) W3 48 enters_back (.pointer (some ⟨bb, 0, none⟩)) (fun x wr hb => back_any (HLA3.out.beach.below hb) x) p)
  have HB3 := hid (HB2.out.trans (hb3.mono HB2.out.size))
  have HBX3 := hid hB3
  have HLT3 := hid hlt3
  clear hb3 hlt3
  go_wp2_with fail
  refine HRE.out.mono ?_
  rintro e w4 ⟨r, S', rfl, hm4, hS4, hb4⟩
  have hmade : (makerE (countE L K) p).isSome = true := ((HI.out.2 p).1 HIN.out).1
  have HSD := hid (sorted_any hm4 (fun ys hn hy => by
   have := made_few HSO.out hn (fun x hx => back_made HSO.out ((hS4 x).1 (by have := hy x hx; unfold setF at this; split at this <;> first | assumption | cases this)) hmade)
   have := HCL.out
   omega))
  have HS4 := hid hS4
  have HB4 := hid hb4
  clear hm4 hS4 hb4 HRE hB3
  go_wp2_with fail
  refine HSD.out.mono ?_
  rintro e w5 ⟨ys, v, rfl, hys, hmem, ho, hb5⟩
  have hmem2 : ∀ x, x ∈ ys ↔ Reach (backL (countE L K)) p x := fun x => by
   rw [hmem x, ← HS4.out x]
   unfold setF
   rcases S' x with _ | _ <;> simp
  have hpy : p ∈ ys := (hmem2 p).2 (.refl p)
  have hln : ys.length ≤ 1680 := by
   have := made_few HSO.out (hys.imp (fun h => by omega)) (fun x hx => back_made HSO.out ((hmem2 x).1 hx) hmade)
   have := HCL.out
   omega
  obtain ⟨g, cp, rfl, hg, hcp⟩ := own_slice ho (List.length_pos_of_mem hpy)
  have hgl : g < w5.heap.size := (ho.lt g rfl).2
  have HB5 := hid (HB4.out.trans (hb5.mono HB4.out.size))
  have hb45 : W3.heap.size ≤ w4.heap.size := HB4.out.size
  have HAK : Hid (AsksG w5 g 51 (.pointer (some ⟨w2.heap.size, 0, none⟩)) ys (fun x => !(pclOr (countE L K) ids x).found)) := hid (fun x wr _ hgr => by
   have hbb : Below W3.heap.size W3 wr := HB5.out.grown hgr HB5.out.size (fun k e => by cases e; omega)
   exact origins1_any (HLA3.out.below hbb) (Kept.of_below hbb _ _ HBX3.out) x)
  have HDEL := hid (deleted_any 51 enters_origins1 (.pointer (some ⟨w2.heap.size, 0, none⟩)) (fun x => !(pclOr (countE L K) ids x).found) g cp ys w5 (by omega) hcp w4.heap.size ho HAK.out)
  have HM := hid hmem2
  have HY := hid hys
  clear hmem hmem2 hpy hys ho hb5 HSD HAK hmade
  go_wp2_with fail
  refine HDEL.out.mono ?_
  rintro e w6 ⟨rfl, ho6, hg6⟩
  have HO6 := hid ho6
  have HG6 := hid hg6
  clear ho6 hg6 HDEL
  go_wp2_with fail
  go_ret2
  have h3 := HB3.out.size
  refine ⟨HB3.out.trans ((HB5.out.grown HG6.out HB5.out.size (fun k e => by cases e; omega)).mono HB3.out.size), .inr ⟨HV.out, ids, HI.out, HIN.out, dropQ (fun x => !(pclOr (countE L K) ids x).found) ys, _, rfl, own_lo HO6.out (by omega), HY.out.filter _, fun x => ?_⟩⟩
  unfold dropQ
  rw [List.mem_filter, HM.out x]
  simp
set_option maxHeartbeats 8000000 in
theorem remains_any (A : Option Addr) (cap : Nat) (L : List Ent) (K p : Int) (w : World) (hA : EntsAt w A L) (hl : L.length ≤ 210) (hcap : L.length ≤ cap) :
  Calls Tryz.prog 13 #[.slice A L.length cap, .int .i64 K, .int .i64 p] w fun e w' => Below w.heap.size w w' ∧
   ((∃ en, FailsBy L K [p] en ∧ e = .returned (.tuple #[.slice none 0 0, .int .i64 en])) ∨ (Valid (reps L) ∧ ∃ ids, IdsOf (countE L K) ids ∧ p ∈ ids ∧ ∃ ys v, e = .returned (.tuple #[v, .int .i64 0]) ∧ w'.ownsRow w.heap.size 3 1 v ys.length (ints ys) ∧ ys.Pairwise (· < ·) ∧ ∀ x, x ∈ ys ↔ (Reach (onL (countE L K)) p x ∧ (pclOr (countE L K) ids x).into ≤ 0))) := by
 have HLK := hid (looks_later hA hl hcap K [p] (by simp) 1)
 have HCL : Hid ((countE L K).length ≤ 210) := hid (Nat.le_trans (countE_len L K) hl)
 clear hA
 go_enter Tryz.func13, Tryz.ntmps13
 go_wp2_with fail
 refine (HLK.out _ _ ((Below.refl _ _).alloc (Nat.le_refl _) _) (ints_new w p)).mono ?_
 rintro e w2 hpost
 obtain ⟨hb2, hcase⟩ := looks_two hpost
 have HB2 := hid (((Below.refl _ w).alloc (Nat.le_refl _) (.cells #[.int .i64 p] 3)).trans (hb2.mono (by simp)))
 clear hpost hb2
 rcases hcase with ⟨en, hf, rfl⟩ | ⟨hv, ids, hids, hin, bb, s, r1, r2, r3, r4, A2, cap2, rfl, hla⟩
 ·have hne : (en != 0) = true := bne_iff_ne.2 hf.ne
  have HF := hid hf
  clear hf
  go_wp2_with (first | go_region)
  all_goals go_ret2
  all_goals exact ⟨by first | exact (HB2.out.alloc HB2.out.size _) | exact (HB2.out.alloc HB2.out.size _).drew | exact (HB2.out.drew.alloc HB2.out.size _), .inl ⟨en, HF.out, rfl⟩⟩
 ·have hnn : (some (⟨bb, 0, none⟩ : Addr)).isSome = true := rfl
  have HI := hid hids
  have HIN := hid (hin p (by simp))
  have HV := hid hv
  have HSO : Hid (Sound (reps (countE L K))) := hid hla.sound
  have HLA := hid hla
  clear hids hin hla hv
  go_upto_region 4 with (first | go_region)
  refine box_gen rfl ?_
  intro W3 hB3 hb3 hlt3
  have HLA3 := hid (HLA.out.below hb3)
  have HRE := hid (reached_any (onL (countE L K)) (rankO (countE L K)) (rank_on HSO.out) (on_len HSO.out) W3 54 enters_on (.pointer (some ⟨bb, 0, none⟩)) (fun x wr hb => on_any (HLA3.out.beach.below hb) HSO.out x) p)
  have HB3 := hid (HB2.out.trans (hb3.mono HB2.out.size))
  have HBX3 := hid hB3
  have HLT3 := hid hlt3
  clear hb3 hlt3
  go_wp2_with fail
  refine HRE.out.mono ?_
  rintro e w4 ⟨r, S', rfl, hm4, hS4, hb4⟩
  have hmade : (makerE (countE L K) p).isSome = true := ((HI.out.2 p).1 HIN.out).1
  have HSD := hid (sorted_any hm4 (fun ys hn hy => by
   have := made_few HSO.out hn (fun x hx => on_made HSO.out ((hS4 x).1 (by have := hy x hx; unfold setF at this; split at this <;> first | assumption | cases this)) hmade)
   have := HCL.out
   omega))
  have HS4 := hid hS4
  have HB4 := hid hb4
  clear hm4 hS4 hb4 HRE hB3
  go_wp2_with fail
  refine HSD.out.mono ?_
  rintro e w5 ⟨ys, v, rfl, hys, hmem, ho, hb5⟩
  have hmem2 : ∀ x, x ∈ ys ↔ Reach (onL (countE L K)) p x := fun x => by
   rw [hmem x, ← HS4.out x]
   unfold setF
   rcases S' x with _ | _ <;> simp
  have hpy : p ∈ ys := (hmem2 p).2 (.refl p)
  have hln : ys.length ≤ 1680 := by
   have := made_few HSO.out (hys.imp (fun h => by omega)) (fun x hx => on_made HSO.out ((hmem2 x).1 hx) hmade)
   have := HCL.out
   omega
  obtain ⟨g, cp, rfl, hg, hcp⟩ := own_slice ho (List.length_pos_of_mem hpy)
  have hgl : g < w5.heap.size := (ho.lt g rfl).2
  have HB5 := hid (HB4.out.trans (hb5.mono HB4.out.size))
  have hb45 : W3.heap.size ≤ w4.heap.size := HB4.out.size
  have HAK : Hid (AsksG w5 g 55 (.pointer (some ⟨w2.heap.size, 0, none⟩)) ys (fun x => decide (0 < (pclOr (countE L K) ids x).into))) := hid (fun x wr _ hgr => by
   have hbb : Below W3.heap.size W3 wr := HB5.out.grown hgr HB5.out.size (fun k e => by cases e; omega)
   exact remains1_any (HLA3.out.below hbb) (Kept.of_below hbb _ _ HBX3.out) x)
  have HDEL := hid (deleted_any 55 enters_remains1 (.pointer (some ⟨w2.heap.size, 0, none⟩)) (fun x => decide (0 < (pclOr (countE L K) ids x).into)) g cp ys w5 (by omega) hcp w4.heap.size ho HAK.out)
  have HM := hid hmem2
  have HY := hid hys
  clear hmem hmem2 hpy hys ho hb5 HSD HAK hmade
  go_wp2_with fail
  refine HDEL.out.mono ?_
  rintro e w6 ⟨rfl, ho6, hg6⟩
  have HO6 := hid ho6
  have HG6 := hid hg6
  clear ho6 hg6 HDEL
  go_wp2_with fail
  go_ret2
  have h3 := HB3.out.size
  refine ⟨HB3.out.trans ((HB5.out.grown HG6.out HB5.out.size (fun k e => by cases e; omega)).mono HB3.out.size), .inr ⟨HV.out, ids, HI.out, HIN.out, dropQ (fun x => decide (0 < (pclOr (countE L K) ids x).into)) ys, _, rfl, own_lo HO6.out (by omega), HY.out.filter _, fun x => ?_⟩⟩
  unfold dropQ
  rw [List.mem_filter, HM.out x]
  simp
theorem rwithin_any (n lo hi : Int) (w : World) : Calls Tryz.prog 150 #[.int .i64 n, .int .i64 lo, .int .i64 hi] w fun e w' => e = .returned (.bool (decide (lo ≤ n ∧ n ≤ hi))) ∧ w' = w := by
 by_cases h1 : lo ≤ n
 ·have d1 : decide (lo ≤ n) = true := decide_eq_true h1
  have hz : decide (lo ≤ n ∧ n ≤ hi) = decide (n ≤ hi) := by simp [h1]
  rw [hz]
  by_cases h2 : n ≤ hi
  ·have d2 : decide (n ≤ hi) = true := decide_eq_true h2
   rw [d2]
   clear h1 h2 hz
   go_enter Tryz.func150, Tryz.ntmps150
   go_wp2_with fail
   go_ret
   exact ⟨rfl, rfl⟩
  ·have d2 : decide (n ≤ hi) = false := decide_eq_false h2
   rw [d2]
   clear h1 h2 hz
   go_enter Tryz.func150, Tryz.ntmps150
   go_wp2_with fail
   go_ret
   exact ⟨rfl, rfl⟩
 ·have d1 : decide (lo ≤ n) = false := decide_eq_false h1
  have hz : decide (lo ≤ n ∧ n ≤ hi) = false := by simp [h1]
  rw [hz]
  clear h1 hz
  go_enter Tryz.func150, Tryz.ntmps150
  go_wp2_with fail
  go_ret
  exact ⟨rfl, rfl⟩
theorem rparcel_any (n : Int) (w : World) : Calls Tryz.prog 154 #[.int .i64 n] w fun e w' => e = .returned (.bool (parcelB n)) ∧ w' = w := by
 have hz : parcelB n = decide (10 ≤ n ∧ n ≤ 10000007) := rfl
 rw [hz]
 clear hz
 go_enter Tryz.func154, Tryz.ntmps154
 go_wp2_with fail
 refine (rwithin_any n 10 10000007 w).mono ?_
 rintro e w' ⟨rfl, rfl⟩
 go_wp2_with fail
 go_ret
 exact ⟨ret_bool (by simp), rfl⟩
set_option maxHeartbeats 4000000 in
theorem has_any (A : Option Addr) (cap : Nat) (xs : List Int) (n : Int) (w : World) (hm : xs.length ≤ 1000000) (hA : IntsAt w A xs) :
  Calls Tryz.prog 21 #[.slice A xs.length cap, .int .i64 n] w fun e w' => e = .returned (.bool (decide (n ∈ xs))) ∧ w' = w := by
 have HA := hid hA
 obtain ⟨t, ht⟩ : ∃ t, decide (n ∈ xs) = t := ⟨_, rfl⟩
 rw [ht]
 have HT := hid ht
 clear hA ht
 go_enter Tryz.func21, Tryz.ntmps21
 go_upto_region 2 with fail
 go_loopg [5] (xs.length) (fun g i wr => ∃ k : Nat, k ≤ xs.length ∧ g = xs.length - k ∧ i = .int .i64 k ∧ Hid (n ∉ xs.take k) ∧ w = wr)
 case atStart => exact ⟨0, by omega, by omega, rfl, hid (by simp), rfl⟩
 case round =>
  obtain ⟨k, hk, hgk, rfl, hno, rfl⟩ := hrel
  by_cases hlt : k < xs.length
  ·obtain ⟨b, off, hAe, hc⟩ := HA.out (by omega)
   subst hAe
   have hck := hc k hlt
   have i0 : (0 : Int) ≤ k := by omega
   have i1 : (k : Int) < xs.length := by omega
   have hsn : xs.take (k + 1) = xs.take k ++ [xs[k]] := List.take_succ_eq_append_getElem hlt
   have hmem := List.getElem_mem hlt
   obtain ⟨v, hv⟩ : ∃ v, xs[k] = v := ⟨_, rfl⟩
   rw [hv] at hck hsn hmem
   have HSN := hid hsn
   have HM := hid hmem
   clear hc hsn hv hmem
   by_cases he : v = n
   ·have de : (v == n) = true := beq_iff_eq.2 he
    have HE := hid he
    clear he
    go_wp2_with fail
    go_ret
    have h1 : t = true := by rw [← HT.out, ← HE.out]; exact decide_eq_true HM.out
    rw [h1]
    exact ⟨rfl, rfl⟩
   ·have de : (v == n) = false := beq_eq_false_iff_ne.2 he
    have HE := hid he
    clear he
    go_wp2_with fail
    go_roundg (xs.length - (k + 1))
    case measure => omega
    case rel => exact ⟨k + 1, by omega, rfl, by go_num, hid (by
     rw [HSN.out, List.mem_append, List.mem_singleton]
     rintro (h | h)
     ·exact hno.out h
     ·exact HE.out h.symm), rfl⟩
  ·obtain rfl : k = xs.length := by omega
   have hno2 := hno.out
   rw [List.take_length] at hno2
   have HN := hid hno2
   clear hno2 hno
   go_wp2_with fail
   go_ret
   have h1 : t = false := by rw [← HT.out]; exact decide_eq_false HN.out
   rw [h1]
   exact ⟨rfl, rfl⟩
set_option maxHeartbeats 4000000 in
theorem sameInts_any (A : Option Addr) (cap : Nat) (xs : List Int) (B : Option Addr) (cb : Nat) (ys : List Int) (w : World) (hm : xs.length ≤ 1000000) (hm2 : ys.length ≤ 1000000) (hA : IntsAt w A xs) (hB : IntsAt w B ys) :
  Calls Tryz.prog 15 #[.slice A xs.length cap, .slice B ys.length cb] w fun e w' => e = .returned (.bool (decide (xs = ys))) ∧ Below w.heap.size w w' := by
 have HA := hid hA
 have HB := hid hB
 obtain ⟨t, ht⟩ : ∃ t, decide (xs = ys) = t := ⟨_, rfl⟩
 rw [ht]
 have HT := hid ht
 clear hA hB ht
 by_cases hl : xs.length = ys.length
 ·obtain ⟨m, hm3⟩ : ∃ m, m = xs.length := ⟨_, rfl⟩
  rw [← hm3] at hl hm ⊢
  rw [← hl] at hm2 ⊢
  have HX := hid hm3
  have HY := hid hl
  clear hm3 hl
  go_enter Tryz.func15, Tryz.ntmps15
  go_upto_region 4 with fail
  go_loopg [5] (m) (fun g i wr => ∃ k : Nat, k ≤ m ∧ g = m - k ∧ i = .int .i64 k ∧ Hid (xs.take k = ys.take k) ∧ Hid (Below w.heap.size w wr))
  case atStart => exact ⟨0, by omega, by omega, rfl, hid (by simp), hid (Below.refl _ _)⟩
  case round =>
   obtain ⟨k, hk, hgk, rfl, heq, hbw⟩ := hrel
   by_cases hlt : k < m
   ·have hx : k < xs.length := by have := HX.out; omega
    have hy : k < ys.length := by have := HY.out; omega
    obtain ⟨b, off, hAe, hc⟩ := (HA.out.kept (Kept.of_below hbw.out)) (by omega)
    subst hAe
    obtain ⟨b2, off2, hBe, hc2⟩ := (HB.out.kept (Kept.of_below hbw.out)) (by omega)
    subst hBe
    have hck := hc k hx
    have hck2 := hc2 k hy
    have i0 : (0 : Int) ≤ k := by omega
    have i1 : (k : Int) < m := by omega
    have hsn : xs.take (k + 1) = xs.take k ++ [xs[k]] := List.take_succ_eq_append_getElem hx
    have hsn2 : ys.take (k + 1) = ys.take k ++ [ys[k]] := List.take_succ_eq_append_getElem hy
    obtain ⟨v, hv⟩ : ∃ v, xs[k] = v := ⟨_, rfl⟩
    obtain ⟨u, hu⟩ : ∃ u, ys[k] = u := ⟨_, rfl⟩
    have HV := hid hv
    have HU := hid hu
    rw [hv] at hck hsn
    rw [hu] at hck2 hsn2
    have HSN := hid hsn
    have HSN2 := hid hsn2
    clear hc hc2 hsn hsn2 hv hu
    by_cases he : v = u
    ·have de : (v != u) = false := by rw [he]; simp
     have HE := hid he
     clear he
     go_upto_region 6 with fail
     go_quiet (fail)
     go_wp2_with fail
     go_roundg (m - (k + 1))
     case measure => omega
     case rel => exact ⟨k + 1, by omega, rfl, by go_num, hid (by rw [HSN.out, HSN2.out, heq.out, HE.out]), hid (Below.drewN' hbw.out _)⟩
    ·have de : (v != u) = true := bne_iff_ne.2 he
     have HE := hid he
     clear he
     go_upto_region 6 with fail
     go_quiet (fail)
     go_wp2_with fail
     go_ret
     have h1 : t = false := by
      rw [← HT.out]
      refine decide_eq_false fun h => HE.out ?_
      rw [← HV.out, ← HU.out]
      simp [h]
     rw [h1]
     exact ⟨rfl, Below.drewN' hbw.out _⟩
   ·obtain rfl : k = m := by omega
    go_wp2_with fail
    go_ret
    have h1 : t = true := by
     rw [← HT.out]
     refine decide_eq_true ?_
     have := heq.out
     rwa [List.take_of_length_le (by have := HX.out; omega), List.take_of_length_le (by have := HY.out; omega)] at this
    rw [h1]
    exact ⟨rfl, hbw.out⟩
 ·have dl : ((xs.length : Int) != ys.length) = true := bne_iff_ne.2 (fun h => hl (by omega))
  have h1 : t = false := by
   rw [← HT.out]
   exact decide_eq_false fun h => hl (by rw [h])
  rw [h1]
  clear hl
  go_enter Tryz.func15, Tryz.ntmps15
  go_wp2_with fail
  go_ret
  exact ⟨rfl, Below.refl _ _⟩
set_option maxHeartbeats 4000000 in
theorem ruses_any (r : Rep) (A : Option Addr) (c : Nat) (w : World) (hA : IntsAt w A r.parts) :
  Calls Tryz.prog 161 #[r.val A c] w (IntsPost r.uses w) := by
 have HA := hid hA
 have HU : Hid (r.uses = if r.kind = 2 then [r.parcel] else if r.kind = 3 then r.parts else if r.kind = 7 then [r.other] else []) := hid rfl
 clear hA
 obtain ⟨W, hW, hbx, hbW, hz⟩ := boxB r A c w
 obtain ⟨c0, c1, c2, c3, c4, c5, c6, c7, c8, c9, c10, c11, c12, c13, c14⟩ := hbx
 have hlt : w.heap.size < W.heap.size := by omega
 have HBW := hid hbW
 clear hbW hz
 by_cases k2 : r.kind = 2
 ·have d2 : (r.kind == 2) = true := beq_iff_eq.2 k2
  have e : r.uses = [r.parcel] := by rw [HU.out, if_pos k2]
  clear HU k2
  rw [e]
  clear e
  go_enter Tryz.func161, Tryz.ntmps161
  go_wp2_with fail
  go_ret
  exact ⟨HBW.out.alloc HBW.out.size _, _, _, rfl, one_int _ _ rfl⟩
 have d2 : (r.kind == 2) = false := beq_eq_false_iff_ne.2 k2
 by_cases k3 : r.kind = 3
 ·have d3 : (r.kind == 3) = true := beq_iff_eq.2 k3
  have e : r.uses = r.parts := by rw [HU.out, if_neg k2, if_pos k3]
  clear HU k2 k3
  rw [e]
  clear e
  go_enter Tryz.func161, Tryz.ntmps161
  go_wp2_with fail
  go_ret
  exact ⟨HBW.out, _, _, rfl, HA.out.kept (Kept.of_below HBW.out)⟩
 have d3 : (r.kind == 3) = false := beq_eq_false_iff_ne.2 k3
 by_cases k7 : r.kind = 7
 ·have d7 : (r.kind == 7) = true := beq_iff_eq.2 k7
  have e : r.uses = [r.other] := by rw [HU.out, if_neg k2, if_neg k3, if_pos k7]
  clear HU k2 k3 k7
  rw [e]
  clear e
  go_enter Tryz.func161, Tryz.ntmps161
  go_wp2_with fail
  go_ret
  exact ⟨HBW.out.alloc HBW.out.size _, _, _, rfl, one_int _ _ rfl⟩
 have d7 : (r.kind == 7) = false := beq_eq_false_iff_ne.2 k7
 have e : r.uses = [] := by rw [HU.out, if_neg k2, if_neg k3, if_neg k7]
 clear HU k2 k3 k7
 rw [e]
 clear e
 go_enter Tryz.func161, Tryz.ntmps161
 go_wp2_with fail
 go_ret
 exact ⟨HBW.out, _, _, rfl, IntsAt.nil _ _⟩
def takesL (r : Rep) : List Int := r.parts ++ (if 0 < r.parcel then [r.parcel] else []) ++ (if 0 < r.other then [r.other] else [])
theorem takes_mem {r : Rep} (hp : ∀ p ∈ r.parts, 0 < p) (p : Int) : p ∈ takesL r ↔ p ∈ r.touches := by
 have h1 : p ∈ takesL r ↔ (p ∈ r.parts ∨ (0 < r.parcel ∧ p = r.parcel)) ∨ (0 < r.other ∧ p = r.other) := by
  unfold takesL
  by_cases h1 : 0 < r.parcel <;> by_cases h2 : 0 < r.other <;> simp [h1, h2, or_assoc]
 have h2 : p ∈ r.touches ↔ (p = r.parcel ∨ p = r.other ∨ p ∈ r.parts) ∧ 0 < p := by
  unfold Rep.touches
  simp
 rw [h1, h2]
 constructor
 ·rintro ((h | ⟨h, rfl⟩) | ⟨h, rfl⟩)
  ·exact ⟨.inr (.inr h), hp _ h⟩
  ·exact ⟨.inl rfl, h⟩
  ·exact ⟨.inr (.inl rfl), h⟩
 ·rintro ⟨h | h | h, h0⟩
  ·exact .inl (.inr ⟨h ▸ h0, h⟩)
  ·exact .inr ⟨h ▸ h0, h⟩
  ·exact .inl (.inl h)
set_option maxHeartbeats 8000000 in
theorem takes_any (r : Rep) (A : Option Addr) (c : Nat) (w : World) (hp : r.parts.length ≤ 100) (hA : IntsAt w A r.parts) :
  Calls Tryz.prog 157 #[r.val A c] w fun e w' => ∃ v, e = .returned v ∧ w'.ownsRow w.heap.size 3 1 v (takesL r).length (ints (takesL r)) ∧ Below w.heap.size w w' := by
 obtain ⟨W, hW, hbx, hbW, hlt⟩ := boxC r A c w
 have HBW := hid hbW
 have HBX := hid hbx
 obtain ⟨_, _, _, _, c4, _, c6, _, _, _, _, _, _, c13, _⟩ := hbx.at_
 have hnil : W.ownsRow W.heap.size 3 1 (.slice none 0 0) ([] : List Int).length (ints []) := ⟨rfl, .inl ⟨rfl, rfl⟩⟩
 obtain ⟨v1, w1, hr1, ho1, hg1⟩ := app_ints (ys := r.parts) (A := A) (c := c) hnil (hA.kept (Kept.of_below hbW)) (by simp; omega) (Nat.le_refl _)
 rw [List.nil_append] at ho1
 have hb1 : Below W.heap.size W w1 := (Below.refl _ _).grown hg1 (Nat.le_refl _) (fun k e => by simp [Value.ownBlock] at e)
 have HB1 := hid hb1
 obtain ⟨A1, k1, rfl, hx1⟩ := ownsRow.form ho1
 have HO1 := hid ho1
 have HR1 := hid hr1
 have HX1 := hid (hbx.below hb1)
 have hpl := hp
 have hTL : takesL r = r.parts ++ (if 0 < r.parcel then [r.parcel] else []) ++ (if 0 < r.other then [r.other] else []) := rfl
 obtain ⟨T, hT⟩ : ∃ T, takesL r = T := ⟨_, rfl⟩
 rw [hT] at hTL ⊢
 have HTL := hid hTL
 clear hT hTL hx1 ho1 hr1 hb1 hg1 hnil hbx hA
 go_enter Tryz.func157, Tryz.ntmps157
 go_upto_region 3 with (first | (at_builtin; refine wpList_app rfl rfl rfl rfl rfl HR1.out ?_))
 obtain ⟨_, _, _, _, d4, _, _, _, _, _, _, _, _, d13, _⟩ := HX1.out.at_
 clear c4 c6 c13
 by_cases hpp : 0 < r.parcel
 ·have dp : decide (0 < r.parcel) = true := decide_eq_true hpp
  obtain ⟨v2, w2, hr2, ho2, hb2⟩ := app_one r.parcel HO1.out (by omega) (by have := HB1.out.size; omega)
  obtain ⟨A2, k2, rfl, hx2⟩ := ownsRow.form ho2
  have HO2 := hid ho2
  have HR2 := hid hr2
  have HB2 := hid (HB1.out.trans hb2)
  have hln2 : (r.parts ++ [r.parcel]).length = r.parts.length + 1 := by simp
  rw [hln2] at HR2
  have HLN2 := hid hln2
  have HPP := hid hpp
  clear hr2 ho2 hx2 hln2 hpp
  go_upto_region 5 with (first | (at_builtin; refine wpList_app rfl rfl rfl rfl rfl HR2.out ?_))
  have e13 : w2.cell? ⟨w.heap.size, 13, none⟩ = some (.int .i64 r.other) := ((hb2.cell (p := ⟨w.heap.size, 13, none⟩) hlt)).trans d13
  clear hb2
  by_cases hoo : 0 < r.other
  ·have dd : decide (0 < r.other) = true := decide_eq_true hoo
   obtain ⟨v3, w3, hr3, ho3, hb3⟩ := app_one r.other HO2.out (by have := HLN2.out; omega) (by have := HB2.out.size; omega)
   obtain ⟨A3, k3, rfl, hx3⟩ := ownsRow.form ho3
   have HO3 := hid ho3
   have HR3 := hid hr3
   have HB3 := hid (HB2.out.trans hb3)
   have hln3 : (r.parts ++ [r.parcel] ++ [r.other]).length = r.parts.length + 2 := by simp
   rw [hln3] at HR3
   rw [HLN2.out] at HR3
   have HOO := hid hoo
   clear hr3 ho3 hx3 hln3 hoo hb3
   go_wp2_with (first | (at_builtin; refine wpList_app rfl rfl rfl rfl rfl HR3.out ?_))
   go_ret
   refine ⟨_, rfl, ?_, HBW.out.trans (HB3.out.mono HBW.out.size)⟩
   have h9 := HTL.out
   rw [if_pos HPP.out, if_pos HOO.out] at h9
   rw [h9]
   exact own_lo (by have := HO3.out; simpa using this) HBW.out.size
  ·have dd : decide (0 < r.other) = false := decide_eq_false hoo
   have HOO := hid hoo
   clear hoo
   go_wp2_with fail
   go_ret
   refine ⟨_, rfl, ?_, HBW.out.trans (HB2.out.mono HBW.out.size)⟩
   have h9 := HTL.out
   rw [if_pos HPP.out, if_neg (Int.not_lt.2 HOO.out), List.append_nil] at h9
   rw [h9]
   exact own_lo (by have := HO2.out; simpa using this) HBW.out.size
 ·have dp : decide (0 < r.parcel) = false := decide_eq_false hpp
  have HPP := hid hpp
  clear hpp
  go_upto_region 5 with (fail)
  by_cases hoo : 0 < r.other
  ·have dd : decide (0 < r.other) = true := decide_eq_true hoo
   obtain ⟨v3, w3, hr3, ho3, hb3⟩ := app_one r.other HO1.out (by omega) (by have := HB1.out.size; omega)
   obtain ⟨A3, k3, rfl, hx3⟩ := ownsRow.form ho3
   have HO3 := hid ho3
   have HR3 := hid hr3
   have HB3 := hid (HB1.out.trans hb3)
   have hln3 : (r.parts ++ [r.other]).length = r.parts.length + 1 := by simp
   rw [hln3] at HR3
   have HOO := hid hoo
   clear hr3 ho3 hx3 hln3 hoo hb3
   go_wp2_with (first | (at_builtin; refine wpList_app rfl rfl rfl rfl rfl HR3.out ?_))
   go_ret
   refine ⟨_, rfl, ?_, HBW.out.trans (HB3.out.mono HBW.out.size)⟩
   have h9 := HTL.out
   rw [if_neg (Int.not_lt.2 HPP.out), if_pos HOO.out, List.append_nil] at h9
   rw [h9]
   exact own_lo (by have := HO3.out; simpa using this) HBW.out.size
  ·have dd : decide (0 < r.other) = false := decide_eq_false hoo
   have HOO := hid hoo
   clear hoo
   go_wp2_with fail
   go_ret
   refine ⟨_, rfl, ?_, HBW.out.trans (HB1.out.mono HBW.out.size)⟩
   have h9 := HTL.out
   rw [if_neg (Int.not_lt.2 HPP.out), if_neg (Int.not_lt.2 HOO.out), List.append_nil, List.append_nil] at h9
   rw [h9]
   exact own_lo (by have := HO1.out; simpa using this) HBW.out.size
set_option maxHeartbeats 8000000 in
theorem rmakes_any (r : Rep) (A : Option Addr) (c : Nat) (w : World) (hr : r.Wf) :
  Calls Tryz.prog 82 #[r.val A c] w fun e w' => ∃ v, e = .returned v ∧ w'.ownsRow w.heap.size 3 1 v r.makes.length (ints r.makes) ∧ Below w.heap.size w w' := by
 obtain ⟨W, hW, hbx, hbW, hlt⟩ := boxC r A c w
 have HBW := hid hbW
 have HBX := hid hbx
 have hid1 := hr.id
 have hcnt := hr.count
 obtain ⟨D, hD⟩ : ∃ D, (if r.kind = 1 ∨ r.kind = 3 then [10 * r.id] else [] : List Int) = D := ⟨_, rfl⟩
 obtain ⟨n, hn⟩ : ∃ n : Nat, (if r.kind = 2 then r.count.toNat else 0) = n := ⟨_, rfl⟩
 have hmk : r.makes = D ++ (List.range n).map fun (i : Nat) => 10 * r.id + (i : Int) := by
  rw [← hD, ← hn]
  unfold Rep.makes
  by_cases h1 : r.kind = 1 ∨ r.kind = 3
  ·have h2 : r.kind ≠ 2 := by
    rcases h1 with h | h <;> rw [h] <;> decide
   rw [if_pos h1, if_neg h2]
   simp [h1]
  ·rw [if_neg h1]
   by_cases h2 : r.kind = 2
   ·rw [if_pos h2, if_pos h2]
    simp [not_or.1 h1]
   ·rw [if_neg h2, if_neg h2]
    simp [not_or.1 h1]
 have hdl : D.length ≤ 1 := by rw [← hD]; split <;> simp
 have hn8 : n ≤ 8 := by
  rw [← hn]
  split
  ·have := hcnt ‹_›; omega
  ·omega
 rw [hmk]
 obtain ⟨c0, _, _, c3, _, c5, _⟩ := hbx.at_
 have HD := hid hD
 have HN := hid hn
 have HCN := hid hcnt
 clear hD hn hmk hcnt hr hbW hbx
 go_enter Tryz.func82, Tryz.ntmps82
 go_upto_region 2 with fail
 obtain ⟨kb, hkb⟩ : ∃ kb, decide (r.kind = 1 ∨ r.kind = 3) = kb := ⟨_, rfl⟩
 have HKB := hid hkb
 clear hkb
 go_cut [12] from 5 to 13 (fun v wx => v = .bool kb ∧ W = wx)
 case first =>
  by_cases k1 : r.kind = 1
  ·have d1 : (r.kind == 1) = true := beq_iff_eq.2 k1
   have HZ : Hid (kb = true) := hid (by rw [← HKB.out]; exact decide_eq_true (.inl k1))
   go_wp2_with fail
   go_meet
   case rel => exact ⟨by rw [HZ.out], rfl⟩
  ·have d1 : (r.kind == 1) = false := beq_eq_false_iff_ne.2 k1
   by_cases k3 : r.kind = 3
   ·have d3 : (r.kind == 3) = true := beq_iff_eq.2 k3
    have HZ : Hid (kb = true) := hid (by rw [← HKB.out]; exact decide_eq_true (.inr k3))
    go_wp2_with fail
    go_meet
    case rel => exact ⟨by rw [HZ.out], rfl⟩
   ·have d3 : (r.kind == 3) = false := beq_eq_false_iff_ne.2 k3
    have HZ : Hid (kb = false) := hid (by rw [← HKB.out]; exact decide_eq_false (fun h => h.elim k1 k3))
    go_wp2_with fail
    go_meet
    case rel => exact ⟨by rw [HZ.out], rfl⟩
 case rest =>
 obtain ⟨rfl, rfl⟩ := hcut
 go_upto_if 12 with (fail)
 go_cut [3] from 13 to 19 (fun ov wx => Hid (wx.ownsRow W.heap.size 3 1 ov D.length (ints D)) ∧ Hid (Below W.heap.size W wx))
 case first =>
  rcases kb with _ | _
  ·have HZ : Hid (D = []) := hid (by rw [← HD.out, if_neg (of_decide_eq_false HKB.out)])
   go_wp2_with fail
   go_meet
   case rel => exact ⟨by rw [HZ.out]; exact hid ⟨rfl, .inl ⟨rfl, rfl⟩⟩, hid (Below.refl _ _)⟩
  ·have HZ : Hid (D = [10 * r.id]) := hid (by rw [← HD.out, if_pos (of_decide_eq_true HKB.out)])
   obtain ⟨v1, w1, hr1, ho1, hb1⟩ := app_one (10 * r.id) (show W.ownsRow W.heap.size 3 1 (.slice none 0 0) ([] : List Int).length (ints []) from ⟨rfl, .inl ⟨rfl, rfl⟩⟩) (by simp) (Nat.le_refl _)
   rw [List.nil_append] at ho1
   have HR1 := hid hr1
   have HO1 := hid ho1
   have HB1 := hid hb1
   clear hr1 ho1 hb1
   go_wp2_with (first | (at_builtin; refine wpList_app rfl rfl rfl rfl rfl HR1.out ?_))
   go_meet
   case rel => exact ⟨by rw [HZ.out]; exact HO1, HB1⟩
 case rest =>
  obtain ⟨ho, hb⟩ := hcut
  clear c0 c3 c5
  go_upto_region 5 with fail
  go_loopg [3, 4] (n) (fun gm ov iv wq => ∃ k : Nat, k ≤ n ∧ gm = n - k ∧ iv = .int .i64 k ∧ Hid (wq.ownsRow W.heap.size 3 1 ov (D ++ (List.range k).map fun (i : Nat) => 10 * r.id + (i : Int)).length (ints (D ++ (List.range k).map fun (i : Nat) => 10 * r.id + (i : Int)))) ∧ Hid (Below W.heap.size W wq))
  case atStart => exact ⟨0, by omega, by omega, rfl, by simpa using ho, hb⟩
  case round =>
   obtain ⟨k, hk, hgk, rfl, how, hbw⟩ := hrel
   obtain ⟨c0, _, _, c3, _, c5, _⟩ := (HBX.out.below hbw.out).at_
   have hkl : (D ++ (List.range k).map fun (i : Nat) => 10 * r.id + (i : Int)).length = D.length + k := by simp
   by_cases hlt : k < n
   ·have hk2 : r.kind = 2 := by
     have := HN.out
     by_cases h : r.kind = 2
     ·exact h
     ·rw [if_neg h] at this; omega
    have hcn : r.count = n := by
     have h1 := HN.out
     rw [if_pos hk2] at h1
     have := HCN.out hk2
     omega
    have d2 : (r.kind == 2) = true := beq_iff_eq.2 hk2
    have dl : decide ((k : Int) < r.count) = true := decide_eq_true (by omega)
    have hsn : (D ++ (List.range (k + 1)).map fun (i : Nat) => 10 * r.id + (i : Int)) = (D ++ (List.range k).map fun (i : Nat) => 10 * r.id + (i : Int)) ++ [10 * r.id + (k : Int)] := by
     rw [List.range_succ, List.map_append, ← List.append_assoc]
     rfl
    obtain ⟨E, hE⟩ : ∃ E, (D ++ (List.range k).map fun (i : Nat) => 10 * r.id + (i : Int)) = E := ⟨_, rfl⟩
    rw [hE] at how hsn hkl
    obtain ⟨v1, w1, hr1, ho1, hb1⟩ := app_one (10 * r.id + (k : Int)) how.out (by omega) hbw.out.size
    have HR1 := hid hr1
    have HO1 := hid ho1
    have HB1 := hid (hbw.out.trans hb1)
    have HSN := hid hsn
    clear hr1 ho1 hb1 hsn hE hk2 hcn
    go_wp2_with (first | (at_builtin; refine wpList_app rfl rfl rfl rfl rfl HR1.out ?_))
    go_roundg (n - (k + 1))
    case measure => omega
    case rel => exact ⟨k + 1, by omega, rfl, by go_num, by rw [HSN.out]; exact HO1, HB1⟩
   ·obtain rfl : k = n := by omega
    obtain ⟨A7, k7, hv7, hx1⟩ := ownsRow.form how.out
    have HOW := how.out
    subst hv7
    have HOW := hid HOW
    clear how hx1 hkl
    by_cases hk2 : r.kind = 2
    ·have d2 : (r.kind == 2) = true := beq_iff_eq.2 hk2
     have hcn : r.count = k := by
      have h1 := HN.out
      rw [if_pos hk2] at h1
      have := HCN.out hk2
      omega
     have dl : decide ((k : Int) < r.count) = false := decide_eq_false (by omega)
     clear hcn hk2
     go_wp2_with fail
     go_ret
     exact ⟨_, rfl, own_lo HOW.out HBW.out.size, HBW.out.trans (hbw.out.mono HBW.out.size)⟩
    ·have d2 : (r.kind == 2) = false := beq_eq_false_iff_ne.2 hk2
     clear hk2
     rcases dl : decide ((k : Int) < r.count) with _ | _
     all_goals go_wp2_with fail
     all_goals go_ret
     all_goals exact ⟨_, rfl, own_lo HOW.out HBW.out.size, HBW.out.trans (hbw.out.mono HBW.out.size)⟩
theorem wf_pos {r : Rep} (hr : r.Wf) : ∀ p ∈ r.parts, 0 < p := by
 intro p hp
 by_cases h : r.kind = 3
 ·have := (hr.parts h).2.2.2 p hp
  omega
 ·rw [hr.noParts h] at hp
  cases hp
theorem takes_len (r : Rep) : (takesL r).length ≤ r.parts.length + 2 := by
 unfold takesL
 split <;> split <;> simp
set_option maxHeartbeats 8000000 in
theorem rnames_any (r : Rep) (A : Option Addr) (c : Nat) (p : Int) (w : World) (hr : r.Wf) (hp : r.parts.length ≤ 100) (hA : IntsAt w A r.parts) :
  Calls Tryz.prog 160 #[r.val A c, .int .i64 p] w fun e w' => e = .returned (.bool (decide (r.names p))) ∧ Below w.heap.size w w' := by
 obtain ⟨W, hW, hbx, hbW, hlt⟩ := boxC r A c w
 have HBW := hid hbW
 have HBX := hid hbx
 have HTA := hid (takes_any r A c W hp (hA.kept (Kept.of_below hbW)))
 have HMK := hid (fun w1 => rmakes_any r A c w1 hr)
 have HTM := hid (takes_mem (wf_pos hr) p)
 have htl := takes_len r
 have hml : r.makes.length ≤ 8 := makes_len _ hr
 obtain ⟨t, ht⟩ : ∃ t, decide (p ∈ takesL r) = t := ⟨_, rfl⟩
 obtain ⟨m, hm⟩ : ∃ m, decide (p ∈ r.makes) = m := ⟨_, rfl⟩
 have hnm : decide (r.names p) = (t || m) := by
  unfold Rep.names
  rw [← ht, ← hm]
  have h1 := HTM.out
  by_cases h2 : p ∈ takesL r
  ·simp [h2, h1.1 h2]
  ·have h3 : p ∉ r.touches := fun h => h2 (h1.2 h)
   simp [h2, h3]
 rw [hnm]
 have HT := hid ht
 have HM := hid hm
 clear hbx hbW hA hr ht hm hnm
 go_enter Tryz.func160, Tryz.ntmps160
 go_wp2_with (refine load_rep rfl _ rfl _ rfl HBX.out ?_)
 refine HTA.out.mono ?_
 rintro e w1 ⟨v, rfl, ho, hb⟩
 obtain ⟨A1, k1, rfl, hx⟩ := ownsRow.form ho
 have HI := hid (ownsRow_ints ho)
 have HB := hid (HBW.out.trans (hb.mono HBW.out.size))
 have HBX1 := hid (HBX.out.below hb)
 have HHA := hid (has_any A1 k1 (takesL r) p w1 (by omega) HI.out)
 rw [HT.out] at HHA
 clear hx ho hb HTA
 go_wp2_with fail
 refine HHA.out.mono ?_
 rintro e w2 ⟨rfl, rfl⟩
 clear HHA
 rcases t with _ | _
 ·go_wp2_with (first | refine load_rep rfl _ rfl _ rfl HBX1.out ?_ | refine load_rep_g rfl _ rfl _ rfl HBX1.out ?_)
  refine (HMK.out w2).mono ?_
  rintro e w3 ⟨v3, rfl, ho3, hb3⟩
  obtain ⟨A3, k3, rfl, hx⟩ := ownsRow.form ho3
  have HI3 := hid (ownsRow_ints ho3)
  have HB3 := hid (HB.out.trans (hb3.mono HB.out.size))
  have HHA := hid (has_any A3 k3 r.makes p w3 (by omega) HI3.out)
  rw [HM.out] at HHA
  clear hx ho3 hb3
  go_wp2_with fail
  refine HHA.out.mono ?_
  rintro e w4 ⟨rfl, rfl⟩
  go_wp2_with fail
  go_ret
  exact ⟨rfl, HB3.out⟩
 ·go_wp2_with fail
  go_ret
  exact ⟨rfl, HB.out⟩
end Go.Proofs.YtfaoillnakhejaaGreat
