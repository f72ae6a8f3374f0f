/- The reference: twin, became; a list that is worked off. -/
import Derived.Test.YtfaoillnakhejaaGreatH10
import Derived.Deep.CutRange
namespace Go.Proofs.YtfaoillnakhejaaGreat
set_option maxRecDepth 100000
open Go.RowKit
/-- A list that is worked off: what is reached from p, as far as at_. -/
structure Wl (nx : Int → List Int) (p : Int) (o : List Int) (at_ : Nat) : Prop where
 head : p ∈ o
 nodup : o.Nodup
 reach : ∀ q ∈ o, Reach nx p q
 shut : ∀ k (h : k < o.length), k < at_ → ∀ x ∈ nx o[k], x ∈ o
/-- In the midst of one element: these of what follows it are in. -/
structure Wi (nx : Int → List Int) (p : Int) (o : List Int) (at_ : Nat) (x0 : Int) (seen : List Int) : Prop where
 wl : Wl nx p o at_
 here : o[at_]? = some x0
 seen : ∀ y ∈ seen, y ∈ o
theorem Reach.snoc {nx : Int → List Int} {p x q : Int} (h : Reach nx p x) (hx : q ∈ nx x) : Reach nx p q := by
 induction h with
 | refl => exact .step hx (.refl _)
 | step h1 _ ih => exact .step h1 (ih hx)
theorem Wl.start (nx : Int → List Int) (p : Int) : Wl nx p [p] 0 := ⟨by simp, by simp, fun q hq => by rw [List.mem_singleton] at hq; subst hq; exact .refl _, fun k h h0 => by omega⟩
theorem Wl.begin {nx : Int → List Int} {p : Int} {o : List Int} {at_ : Nat} (h : Wl nx p o at_) {x0 : Int} (ha : o[at_]? = some x0) : Wi nx p o at_ x0 [] := ⟨h, ha, by simp⟩
theorem Wi.old {nx : Int → List Int} {p : Int} {o : List Int} {at_ : Nat} {x0 : Int} {seen : List Int} (h : Wi nx p o at_ x0 seen) {y : Int} (hy : y ∈ o) : Wi nx p o at_ x0 (seen ++ [y]) := ⟨h.wl, h.here, fun z hz => by
 rcases List.mem_append.1 hz with h1 | h1
 ·exact h.seen z h1
 ·rw [List.mem_singleton] at h1
  subst h1
  exact hy⟩
theorem Wi.new {nx : Int → List Int} {p : Int} {o : List Int} {at_ : Nat} {x0 : Int} {seen : List Int} (h : Wi nx p o at_ x0 seen) {y : Int} (hy : y ∉ o) (hn : y ∈ nx x0) : Wi nx p (o ++ [y]) at_ x0 (seen ++ [y]) := by
 have hat : at_ < o.length := (List.getElem?_eq_some_iff.1 h.here).1
 have hmem : x0 ∈ o := List.mem_of_getElem? h.here
 refine ⟨⟨List.mem_append_left _ h.wl.head, ?_, ?_, ?_⟩, ?_, ?_⟩
 ·rw [List.nodup_append]
  refine ⟨h.wl.nodup, by simp, fun a ha b hb => ?_⟩
  rw [List.mem_singleton] at hb
  subst hb
  rintro rfl
  exact hy ha
 ·intro q hq
  rcases List.mem_append.1 hq with h1 | h1
  ·exact h.wl.reach q h1
  ·rw [List.mem_singleton] at h1
   subst h1
   exact (h.wl.reach x0 hmem).snoc hn
 ·intro k hk hka x hx
  rw [List.getElem_append_left (by omega)] at hx
  exact List.mem_append_left _ (h.wl.shut k (by omega) hka x hx)
 ·rw [List.getElem?_append_left hat]
  exact h.here
 ·intro z hz
  rcases List.mem_append.1 hz with h1 | h1
  ·exact List.mem_append_left _ (h.seen z h1)
  ·exact List.mem_append_right _ h1
theorem Wi.next {nx : Int → List Int} {p : Int} {o : List Int} {at_ : Nat} {x0 : Int} {seen : List Int} (h : Wi nx p o at_ x0 seen) (hs : seen = nx x0) : Wl nx p o (at_ + 1) := ⟨h.wl.head, h.wl.nodup, h.wl.reach, fun k hk hka x hx => by
 rcases Nat.lt_or_ge k at_ with h1 | h1
 ·exact h.wl.shut k hk h1 x hx
 ·obtain rfl : k = at_ := by omega
  have := h.here
  rw [List.getElem?_eq_getElem hk, Option.some.injEq] at this
  rw [this, ← hs] at hx
  exact h.seen x hx⟩
theorem Wl.done {nx : Int → List Int} {p : Int} {o : List Int} (h : Wl nx p o o.length) (q : Int) : q ∈ o ↔ Reach nx p q := by
 refine ⟨h.reach q, fun hr => ?_⟩
 have hc : ∀ a b, Reach nx a b → a ∈ o → b ∈ o := fun a b hab => by
  induction hab with
  | refl => exact id
  | step hx _ ih =>
   intro ha
   obtain ⟨k, hk, rfl⟩ := List.getElem_of_mem ha
   exact ih (h.shut k hk hk _ hx)
 exact hc p q hr h.head
theorem reach_end {nx : Int → List Int} {p q : Int} (h : Reach nx p q) : q = p ∨ ∃ x, q ∈ nx x := by
 induction h with
 | refl => exact .inl rfl
 | step hx _ ih =>
  rcases ih with rfl | h
  ·exact .inr ⟨_, hx⟩
  ·exact .inr h
/-- What follows a number, by a list. -/
abbrev nxL {α : Type} (L : List α) (g : Int → α → Option Int) (x : Int) : List Int := L.filterMap (g x)
theorem Wl.len {α : Type} {L : List α} {g : Int → α → Option Int} {f : α → Int} (hf : ∀ x a y, g x a = some y → f a = y) {p : Int} {o : List Int} {at_ : Nat} (h : Wl (nxL L g) p o at_) : o.length ≤ L.length + 1 := by
 have h1 := nodup_le (ys := p :: L.map f) h.nodup (fun q hq => by
  rcases reach_end (h.reach q hq) with rfl | ⟨x, hx⟩
  ·simp
  ·obtain ⟨a, ha, hg⟩ := List.mem_filterMap.1 hx
   exact List.mem_cons_of_mem _ (List.mem_map.2 ⟨a, ha, hf _ _ _ hg⟩))
 simpa using h1
theorem nx_none {α : Type} {L : List α} {g : Int → α → Option Int} {x : Int} {k : Nat} (hk : k < L.length) (h : g x L[k] = none) : nxL (L.take (k + 1)) g x = nxL (L.take k) g x := by
 unfold nxL
 rw [List.take_succ_eq_append_getElem hk, List.filterMap_append]
 simp [h]
theorem nx_some {α : Type} {L : List α} {g : Int → α → Option Int} {x y : Int} {k : Nat} (hk : k < L.length) (h : g x L[k] = some y) : nxL (L.take (k + 1)) g x = nxL (L.take k) g x ++ [y] := by
 unfold nxL
 rw [List.take_succ_eq_append_getElem hk, List.filterMap_append]
 simp [h]
theorem nx_mem {α : Type} {L : List α} {g : Int → α → Option Int} {x y : Int} {k : Nat} (hk : k < L.length) (h : g x L[k] = some y) : y ∈ nxL L g x := List.mem_filterMap.2 ⟨L[k], List.getElem_mem hk, h⟩
theorem enters_rhas : Enters 21 := fun args w => by kernel_rfl
/-- Some report says that a parcel is the same as p, and this one is used up. -/
def twinB (L : List Rep) (p : Int) : Bool := L.any fun y => decide (y.kind = 7) && decide (y.other = p)
set_option maxHeartbeats 8000000 in
theorem rtwin_any (A : Option Addr) (cap : Nat) (C : List Ent) (p : Int) (w : World) (hA : EntsAt w A C) (hl : C.length ≤ 1000) :
  Calls Tryz.prog 121 #[.slice A C.length cap, .int .i64 p] w fun e w' => e = .returned (.bool (twinB (reps C) p)) ∧ w' = w := by
 have HA := hid hA.rows
 obtain ⟨R, hR⟩ : ∃ R, twinB (reps C) p = R := ⟨_, rfl⟩
 have HR := hid hR
 rw [hR]
 clear hA hR
 go_enter Tryz.func121, Tryz.ntmps121
 go_upto_region 2 with fail
 go_loopg [5] (C.length) (fun g i wr => ∃ k : Nat, k ≤ C.length ∧ g = C.length - k ∧ i = .int .i64 k ∧ Hid (((reps C).take k).any (fun y => decide (y.kind = 7) && decide (y.other = p)) = false) ∧ w = wr)
 case atStart => exact ⟨0, by omega, by omega, rfl, hid (by simp), rfl⟩
 case round =>
  obtain ⟨k, hk, hgk, rfl, hno, rfl⟩ := hrel
  by_cases hlt : k < C.length
  ·obtain ⟨b, off, hAe, hc⟩ := HA.out (by omega)
   subst hAe
   obtain ⟨_, _, _, c3, _, c13, _⟩ := range_at (hc k hlt)
   have i0 : (0 : Int) ≤ k := by omega
   have i1 : (k : Int) < C.length := by omega
   have hkr : k < (reps C).length := by simpa using hlt
   have hst := any_take_snoc (fun y : Rep => decide (y.kind = 7) && decide (y.other = p)) (reps C) k hkr
   rw [hno.out, Bool.false_or] at hst
   have hmem := List.getElem_mem hkr
   have hx2 : (reps C)[k] = C[k].1 := by simp
   rw [hx2] at hst hmem
   obtain ⟨x, hx⟩ : ∃ x, C[k].1 = x := ⟨_, rfl⟩
   rw [hx] at c3 c13 hst hmem
   have HST := hid hst
   have HMEM := hid hmem
   clear hc hst hmem hx hx2 hkr
   by_cases h7 : x.kind = 7
   ·have d7 : (x.kind == 7) = true := beq_iff_eq.2 h7
    by_cases ho : x.other = p
    ·have dd : (x.other == p) = true := beq_iff_eq.2 ho
     have HZ : Hid (R = true) := hid (by rw [← HR.out]; exact List.any_eq_true.2 ⟨x, HMEM.out, by simp [h7, ho]⟩)
     clear h7 ho
     go_wp2_with fail
     go_ret
     exact ⟨ret_bool HZ.out.symm, rfl⟩
    ·have dd : (x.other == p) = false := beq_eq_false_iff_ne.2 ho
     have HZ : Hid ((decide (x.kind = 7) && decide (x.other = p)) = false) := hid (by simp [ho])
     clear h7 ho
     go_wp2_with fail
     go_roundg (C.length - (k + 1))
     case measure => omega
     case rel => exact ⟨k + 1, by omega, rfl, by go_num, hid (by rw [HST.out, HZ.out]), rfl⟩
   ·have d7 : (x.kind == 7) = false := beq_eq_false_iff_ne.2 h7
    have HZ : Hid ((decide (x.kind = 7) && decide (x.other = p)) = false) := hid (by simp [h7])
    clear h7
    go_wp2_with fail
    go_roundg (C.length - (k + 1))
    case measure => omega
    case rel => exact ⟨k + 1, by omega, rfl, by go_num, hid (by rw [HST.out, HZ.out]), rfl⟩
  ·obtain rfl : k = C.length := by omega
   have h2 := hno.out
   rw [List.take_of_length_le (by simp)] at h2
   have HN := hid h2
   clear h2
   go_wp2_with fail
   go_ret
   exact ⟨ret_bool (by rw [← HR.out]; exact HN.out.symm), rfl⟩
/-- The parcels that p became at once. -/
def sameG (x : Int) (r : Rep) : Option Int := if r.kind = 7 ∧ r.parcel = x then some r.other else none
set_option maxHeartbeats 16000000 in
theorem rbecame_any (A : Option Addr) (cap : Nat) (C : List Ent) (p : Int) (w : World) (hA : EntsAt w A C) (hl : C.length ≤ 900) :
  Calls Tryz.prog 116 #[.slice A C.length cap, .int .i64 p] w fun e w' => ∃ o v, e = .returned v ∧ w'.ownsRow w.heap.size 3 1 v o.length (ints o) ∧ Below w.heap.size w w' ∧ o.length ≤ C.length + 1 ∧ ∀ q, q ∈ o ↔ Reach (nxL (reps C) sameG) p q := by
 have HA := hid hA.rows
 have HLEN := hid (fun (o : List Int) (at_ : Nat) (h : Wl (nxL (reps C) sameG) p o at_) => Wl.len (f := Rep.other) (fun x a y h => by
  unfold sameG at h
  split at h
  ·exact Option.some.inj h
  ·cases h) h)
 clear hA
 go_enter Tryz.func116, Tryz.ntmps116
 go_upto_region 3 with fail
 go_loopg [5, 6] (C.length + 1) (fun g v i wr => ∃ (at_ : Nat) (o : List Int), at_ ≤ o.length ∧ g = C.length + 1 - at_ ∧ i = .int .i64 at_ ∧ Hid (wr.ownsRow w.heap.size 3 1 v o.length (ints o)) ∧ Hid (Wl (nxL (reps C) sameG) p o at_) ∧ Hid (Below w.heap.size w wr))
 case atStart => exact ⟨0, [p], by simp, by omega, rfl, hid (World.ownsRow_lit w #[.int .i64 p] 1 (Nat.le_refl _) (by decide) rfl), hid (Wl.start _ _), hid ((Below.refl _ _).alloc (Nat.le_refl _) _)⟩
 case round =>
  obtain ⟨at_, o, hat, hgk, rfl, hown, hwl, hbw⟩ := hrel
  have hol := HLEN.out o at_ hwl.out
  rw [List.length_map] at hol
  obtain ⟨gb, cp, rfl, hgb, hcp⟩ := own_slice hown.out (List.length_pos_of_mem hwl.out.head)
  by_cases hlt : at_ < o.length
  ·obtain ⟨V, hV⟩ : ∃ V, V = wr := ⟨_, rfl⟩
   subst hV
   have a0 : (0 : Int) ≤ at_ := by omega
   obtain ⟨x0, hx0⟩ : ∃ x, o[at_]? = some x := ⟨_, List.getElem?_eq_getElem hlt⟩
   have HWI := hid (hwl.out.begin hx0)
   have HX0 := hid hx0
   have HOW := hid hown.out
   clear hx0 hol
   go_upto_region 6 with fail
   go_loopg [5, 7] (C.length) (fun g v i wq => ∃ (m : Nat) (o' : List Int), m ≤ C.length ∧ g = C.length - m ∧ i = .int .i64 m ∧ Hid (wq.ownsRow w.heap.size 3 1 v o'.length (ints o')) ∧ Hid (Wi (nxL (reps C) sameG) p o' at_ x0 (nxL ((reps C).take m) sameG x0)) ∧ Hid (Below w.heap.size w wq))
   case atStart => exact ⟨0, o, by omega, by omega, rfl, HOW, HWI, hbw⟩
   case round =>
    obtain ⟨m, o2, hm, hgm, rfl, hown2, hwi, hbq⟩ := hrel
    have hol := HLEN.out o2 at_ hwi.out.wl
    rw [List.length_map] at hol
    have hat2 : at_ < o2.length := (List.getElem?_eq_some_iff.1 hwi.out.here).1
    obtain ⟨g2, cp2, rfl, hg2, hcp2⟩ := own_slice hown2.out (List.length_pos_of_mem hwi.out.wl.head)
    by_cases hml : m < C.length
    ·obtain ⟨b, off, hAe, hc⟩ := (HA.out.kept (Kept.of_below hbq.out)) (by omega)
     subst hAe
     obtain ⟨_, _, _, c3, c4, c13, _⟩ := range_at (hc m hml)
     have hmr : m < (reps C).length := by simpa using hml
     have hx2 : (reps C)[m] = C[m].1 := by simp
     have hn0 := fun h => nx_none (g := sameG) (x := x0) hmr h
     have hn1 := fun y h => nx_some (g := sameG) (x := x0) (y := y) hmr h
     have hn2 := fun y h => nx_mem (g := sameG) (x := x0) (y := y) hmr h
     rw [hx2] at hn0 hn1 hn2
     obtain ⟨r, hr⟩ : ∃ x, C[m].1 = x := ⟨_, rfl⟩
     rw [hr] at c3 c4 c13 hn0 hn1 hn2
     have HN0 := hid hn0
     have HN1 := hid hn1
     have HN2 := hid hn2
     have i0 : (0 : Int) ≤ m := by omega
     have i1 : (m : Int) < C.length := by omega
     have a1 : (at_ : Int) < o2.length := by omega
     have hI2 := ownsRow_ints hown2.out
     obtain ⟨b5, off5, hAe5, hc5⟩ := hI2 (by omega)
     cases hAe5
     have hca := hc5 at_ hat2
     have hxe : o2[at_] = x0 := by
      have := hwi.out.here
      rw [List.getElem?_eq_getElem hat2, Option.some.injEq] at this
      exact this
     rw [hxe, Nat.zero_add] at hca
     have HCA := hid hca
     have HI2 := hid hI2
     have HC3 := hid c3
     have HC4 := hid c4
     have HC13 := hid c13
     clear hc hmr hx2 hn0 hn1 hn2 hr hI2 hc5 hca hxe c3 c4 c13
     by_cases h7 : r.kind = 7
     ·have d7 : (r.kind == 7) = true := beq_iff_eq.2 h7
      by_cases hpx : r.parcel = x0
      ·have dx : (r.parcel == x0) = true := beq_iff_eq.2 hpx
       have HG : Hid (sameG x0 r = some r.other) := hid (by unfold sameG; rw [if_pos ⟨h7, hpx⟩])
       obtain ⟨t, ht⟩ : ∃ t, decide (r.other ∈ o2) = t := ⟨_, rfl⟩
       have hhas := has_any (some ⟨g2, 0, none⟩) cp2 o2 r.other wr.drew (by omega) (HI2.out.kept (Kept.of_below (Below.refl _ wr).drew))
       rw [ht] at hhas
       have HHAS := hid hhas
       have HT := hid ht
       clear h7 hpx ht hhas
       go_upto_region 8 with fail
       refine wp_region_noPanic ?_
       refine wp_region_held_drew (S := fun w' => w'.cell? ⟨b, off + m * 15 + 3, none⟩ = some (.int .u8 r.kind) ∧ w'.cell? ⟨b, off + m * 15 + 4, none⟩ = some (.int .i64 r.parcel) ∧ w'.cell? ⟨b, off + m * 15 + 13, none⟩ = some (.int .i64 r.other) ∧ w'.cell? ⟨g2, at_, none⟩ = some (.int .i64 x0)) (by kernel_rfl) (⟨HC3.out, HC4.out, HC13.out, HCA.out⟩) (fun hHeld => ?_)
       refine tk 0 (fun _ _ _ _ _ h => h) (by kernel_rfl) ‹_› ⟨_, ?_, by simp only [zz1, zz2]; rfl, .inl ⟨by rfl, ?_⟩, ?_⟩; rotate_left; · (intro w hSw; (try dsimp only at hSw); go_simp; all_goals with_reducible rfl)
       simp only [Act.put, zz4, zz5, zz6]
       refine tk 1 (fun _ _ _ _ _ h => h) (by kernel_rfl) ‹_› ⟨_, ?_, by simp only [zz1, zz2, zz3]; rfl, .inl ⟨by rfl, ?_⟩, ?_⟩; rotate_left; · (intro w hSw; (try dsimp only at hSw); go_simp; all_goals with_reducible rfl)
       simp only [Act.put, zz4, zz5, zz6]
       refine tk 2 (fun _ _ _ _ _ h => h) (by kernel_rfl) ‹_› ⟨_, ?_, by simp only [zz1, zz2, zz3]; rfl, .inl ⟨by rfl, ?_⟩, ?_⟩; rotate_left; · (intro w hSw; (try dsimp only at hSw); go_simp; all_goals with_reducible rfl)
       simp only [Act.put, zz4, zz5, zz6]
       refine tk 3 (fun _ _ _ _ _ h => h) (by kernel_rfl) ‹_› ⟨_, ?_, by simp only [zz1, zz2, zz3]; rfl, .inl ⟨by rfl, ?_⟩, ?_⟩; rotate_left; · (intro w hSw; (try dsimp only at hSw); go_simp; all_goals with_reducible rfl)
       simp only [Act.put, zz4, zz5, zz6]
       refine tk 4 (fun _ _ _ _ _ h => h) (by kernel_rfl) ‹_› ⟨_, ?_, by simp only [zz1, zz2, zz3]; rfl, .inl ⟨by rfl, ?_⟩, ?_⟩; rotate_left; · (intro w hSw; (try dsimp only at hSw); go_simp; all_goals with_reducible rfl)
       simp only [Act.put, zz4, zz5, zz6]
       refine tk 5 (fun _ _ _ _ _ h => h) (by kernel_rfl) ‹_› ⟨_, ?_, by simp only [zz1, zz2, zz3]; rfl, .inl ⟨by rfl, ?_⟩, ?_⟩; rotate_left; · (intro w hSw; (try dsimp only at hSw); go_simp; all_goals with_reducible rfl)
       simp only [Act.put, zz4, zz5, zz6]
       refine tk 6 (fun _ _ _ _ _ h => h) (by kernel_rfl) ‹_› ⟨_, ?_, by simp only [zz1, zz2, zz3]; rfl, .inl ⟨by rfl, ?_⟩, ?_⟩; rotate_left; · (intro w hSw; (try dsimp only at hSw); go_simp; all_goals with_reducible rfl)
       simp only [Act.put, zz4, zz5, zz6]
       refine tk 7 (fun _ _ _ _ _ h => h) (by kernel_rfl) ‹_› ⟨_, ?_, by simp only [zz1, zz2, zz3]; rfl, .inl ⟨by rfl, ?_⟩, ?_⟩; rotate_left; · (intro w hSw; (try dsimp only at hSw); go_simp; all_goals with_reducible rfl)
       simp only [Act.put, zz4, zz5, zz6]
       refine tk 8 (fun _ _ _ _ _ h => h) (by kernel_rfl) ‹_› ⟨_, ?_, by simp only [zz1, zz2, zz3]; rfl, .inl ⟨by rfl, ?_⟩, ?_⟩; rotate_left; · (intro w hSw; (try dsimp only at hSw); go_simp; all_goals with_reducible rfl)
       simp only [Act.put, zz4, zz5, zz6]
       refine tk 9 (fun _ _ _ _ _ h => h) (by kernel_rfl) ‹_› ⟨_, ?_, by simp only [zz1, zz2, zz3]; rfl, .inl ⟨by rfl, ?_⟩, ?_⟩; rotate_left; · (intro w hSw; (try dsimp only at hSw); go_simp; all_goals with_reducible rfl)
       simp only [Act.put, zz4, zz5, zz6]
       refine tk 10 (fun _ _ _ _ _ h => h) (by kernel_rfl) ‹_› ⟨_, ?_, by simp only [zz1, zz2, zz3]; rfl, .inl ⟨by rfl, ?_⟩, ?_⟩; rotate_left; · (intro w hSw; (try dsimp only at hSw); go_simp; all_goals with_reducible rfl)
       simp only [Act.put, zz4, zz5, zz6]
       refine tk 11 (fun _ _ _ _ _ h => h) (by kernel_rfl) ‹_› ⟨_, ?_, by simp only [zz1, zz2, zz3]; rfl, .inl ⟨by rfl, ?_⟩, ?_⟩; rotate_left; · (intro w hSw; (try dsimp only at hSw); go_simp; all_goals with_reducible rfl)
       simp only [Act.put, zz4, zz5, zz6]
       refine tk 12 (fun _ _ _ _ _ h => h) (by kernel_rfl) ‹_› ⟨_, ?_, by simp only [zz1, zz2, zz3]; rfl, .inl ⟨by rfl, ?_⟩, ?_⟩; rotate_left; · (intro w hSw; (try dsimp only at hSw); go_simp; all_goals with_reducible rfl)
       simp only [Act.put, zz4, zz5, zz6]
       refine tk 13 (fun _ _ _ _ _ h => h) (by kernel_rfl) ‹_› ⟨_, ?_, by simp only [zz1, zz2, zz3]; rfl, .inl ⟨by rfl, ?_⟩, ?_⟩; rotate_left; · (intro w hSw; (try dsimp only at hSw); go_simp; all_goals with_reducible rfl)
       simp only [Act.put, zz4, zz5, zz6]
       refine tk 14 (fun _ _ _ _ _ h => h) (by kernel_rfl) ‹_› ⟨_, ?_, by simp only [zz1, zz2, zz3]; rfl, .inl ⟨by rfl, ?_⟩, ?_⟩; rotate_left; · (intro w hSw; (try dsimp only at hSw); go_simp; all_goals with_reducible rfl)
       simp only [Act.put, zz4, zz5, zz6]
       refine tk 15 (fun _ _ _ _ _ h => h) (by kernel_rfl) ‹_› ⟨_, ?_, by simp only [zz1, zz2, zz3]; rfl, .inl ⟨by rfl, ?_⟩, ?_⟩; rotate_left; · (intro w hSw; (try dsimp only at hSw); go_simp; all_goals with_reducible rfl)
       simp only [Act.put, zz4, zz5, zz6]
       refine tk 16 (fun _ _ _ _ _ h => h) (by kernel_rfl) ‹_› ⟨_, ?_, by simp only [zz1, zz2, zz3]; rfl, .inl ⟨by rfl, ?_⟩, ?_⟩; rotate_left; · (intro w hSw; (try dsimp only at hSw); go_simp; all_goals with_reducible rfl)
       simp only [Act.put, zz4, zz5, zz6]
       refine tk 17 (fun _ _ _ _ _ h => h) (by kernel_rfl) ‹_› ⟨_, ?_, by simp only [zz1, zz2, zz3]; rfl, .inl ⟨by rfl, ?_⟩, ?_⟩; rotate_left; · (intro w hSw; (try dsimp only at hSw); go_simp; all_goals with_reducible rfl)
       simp only [Act.put, zz4, zz5, zz6]
       refine tk 18 (fun _ _ _ _ _ h => h) (by kernel_rfl) ‹_› ⟨_, ?_, by simp only [zz1, zz2, zz3]; rfl, .inl ⟨by rfl, ?_⟩, ?_⟩; rotate_left; · (intro w hSw; (try dsimp only at hSw); go_simp; all_goals with_reducible rfl)
       simp only [Act.put, zz4, zz5, zz6]
       refine tk 19 (fun _ _ _ _ _ h => h) (by kernel_rfl) ‹_› ⟨_, ?_, by simp only [zz1, zz2, zz3]; rfl, .inl ⟨by rfl, ?_⟩, ?_⟩; rotate_left; · (intro w hSw; (try dsimp only at hSw); go_simp; all_goals with_reducible rfl)
       simp only [Act.put, zz4, zz5, zz6]
       refine tk 20 (fun _ _ _ _ _ h => h) (by kernel_rfl) ‹_› ⟨_, ?_, by simp only [zz1, zz2, zz3]; rfl, .inl ⟨by rfl, ?_⟩, ?_⟩; rotate_left; · (intro w hSw; (try dsimp only at hSw); go_simp; all_goals with_reducible rfl)
       simp only [Act.put, zz4, zz5, zz6]
       refine tk 21 (fun _ _ _ _ _ h => h) (by kernel_rfl) ‹_› ⟨_, ?_, by simp only [zz1, zz2, zz3]; rfl, .inl ⟨by rfl, ?_⟩, ?_⟩; rotate_left; · (intro w hSw; (try dsimp only at hSw); go_simp; all_goals with_reducible rfl)
       simp only [Act.put, zz4, zz5, zz6]
       refine tk 22 (fun _ _ _ _ _ h => h) (by kernel_rfl) ‹_› ⟨_, ?_, by simp only [zz1, zz2, zz3]; rfl, .inl ⟨by rfl, ?_⟩, ?_⟩; rotate_left; · (intro w hSw; (try dsimp only at hSw); go_simp; all_goals with_reducible rfl)
       simp only [Act.put, zz4, zz5, zz6]
       refine tk 23 (fun _ _ _ _ _ h => h) (by kernel_rfl) ‹_› ⟨_, ?_, by simp only [zz1, zz2, zz3]; rfl, .inl ⟨by rfl, ?_⟩, ?_⟩; rotate_left; · (intro w hSw; (try dsimp only at hSw); go_simp; all_goals with_reducible rfl)
       simp only [Act.put, zz4, zz5, zz6]
       refine tk 24 (fun _ _ _ _ _ h => h) (by kernel_rfl) ‹_› ⟨_, ?_, by simp only [zz1, zz2, zz3]; rfl, .inl ⟨by rfl, ?_⟩, ?_⟩; rotate_left; · (intro w hSw; (try dsimp only at hSw); go_simp; all_goals with_reducible rfl)
       simp only [Act.put, zz4, zz5, zz6]
       refine wpAnyH_ready (rs := [25]) (by kernel_rfl) (by simp) ?_
       refine cons_one (i := 25) ⟨_, by simp only [zz1, zz2, zz3]; rfl, fun K hK => ?_⟩ ?_
       rotate_left
       ·exact AllReadyH.nil
       refine step_callg (by rfl) #[.tmp 41, .tmp 46] 21 _ rfl enters_rhas #[.slice (some ⟨g2, 0, none⟩) o2.length cp2, .int .i64 r.other] ?hs (fun u w' => u = .bool t ∧ w' = wr.drew) (HHAS.out.mono (fun e w' h => ⟨_, h.1, rfl, h.2⟩)) ?_
       case hs => simp [Act.eval]
       rintro _ _ ⟨rfl, rfl⟩
       clear hHeld
       refine hK.out _ _ (⟨HC3.out, HC4.out, HC13.out, HCA.out⟩) (fun hHeld => ?_)
       clear hK K
       try simp only [Act.put, zz4, zz5, zz6]
       refine tk 26 (fun _ _ _ _ _ h => h) (by kernel_rfl) ‹_› ⟨_, ?_, by simp only [zz1, zz2, zz3]; rfl, .inl ⟨by rfl, ?_⟩, ?_⟩; rotate_left; · (intro w hSw; (try dsimp only at hSw); go_simp; all_goals with_reducible rfl)
       simp only [Act.put, zz4, zz5, zz6]
       refine tk 27 (fun _ _ _ _ _ h => h) (by kernel_rfl) ‹_› ⟨_, ?_, by simp only [zz1, zz2, zz3]; rfl, .inl ⟨by rfl, ?_⟩, ?_⟩; rotate_left; · (intro w hSw; (try dsimp only at hSw); go_simp; all_goals with_reducible rfl)
       simp only [Act.put, zz4, zz5, zz6]
       refine wpAnyH_done (by kernel_rfl) ?_ _
       refine NoPanic.normal ?_
       rcases t with _ | _
       ·obtain ⟨v4, w4, hrn, ho4, hb4⟩ := app_big r.other (w := wr.drew) hown2.out (by omega) (show w.heap.size ≤ wr.drew.heap.size from hbq.out.size)
        have HRN := hid hrn
        have HO4 := hid ho4
        have HB4 := hid (hbq.out.drew.trans hb4)
        have c13 := HC13.out
        have HNEW := hid (hwi.out.new (of_decide_eq_false HT.out) (HN2.out _ HG.out))
        clear hrn ho4 hb4
        go_wp2_with (first | (at_builtin; refine wpList_app rfl rfl rfl rfl rfl HRN.out ?_))
        go_roundg (C.length - (m + 1))
        case measure => omega
        case rel => exact ⟨m + 1, o2 ++ [r.other], by omega, rfl, by go_num, HO4, hid (by rw [HN1.out _ HG.out]; exact HNEW.out), HB4⟩
       ·go_wp2_with fail
        go_roundg (C.length - (m + 1))
        case measure => omega
        case rel => exact ⟨m + 1, o2, by omega, rfl, by go_num, hown2, hid (by rw [HN1.out _ HG.out]; exact hwi.out.old (of_decide_eq_true HT.out)), hid hbq.out.drew⟩
      ·have dx : (r.parcel == x0) = false := beq_eq_false_iff_ne.2 hpx
       have HG : Hid (sameG x0 r = none) := hid (by unfold sameG; rw [if_neg (fun h => hpx h.2)])
       clear h7 hpx
       go_upto_region 8 with fail
       refine wp_region_noPanic ?_
       refine wp_region_held_drew (S := fun w' => w'.cell? ⟨b, off + m * 15 + 3, none⟩ = some (.int .u8 r.kind) ∧ w'.cell? ⟨b, off + m * 15 + 4, none⟩ = some (.int .i64 r.parcel) ∧ w'.cell? ⟨b, off + m * 15 + 13, none⟩ = some (.int .i64 r.other) ∧ w'.cell? ⟨g2, at_, none⟩ = some (.int .i64 x0)) (by kernel_rfl) (⟨HC3.out, HC4.out, HC13.out, HCA.out⟩) (fun hHeld => ?_)
       refine tk 0 (fun _ _ _ _ _ h => h) (by kernel_rfl) ‹_› ⟨_, ?_, by simp only [zz1, zz2]; rfl, .inl ⟨by rfl, ?_⟩, ?_⟩; rotate_left; · (intro w hSw; (try dsimp only at hSw); go_simp; all_goals with_reducible rfl)
       simp only [Act.put, zz4, zz5, zz6]
       refine tk 1 (fun _ _ _ _ _ h => h) (by kernel_rfl) ‹_› ⟨_, ?_, by simp only [zz1, zz2, zz3]; rfl, .inl ⟨by rfl, ?_⟩, ?_⟩; rotate_left; · (intro w hSw; (try dsimp only at hSw); go_simp; all_goals with_reducible rfl)
       simp only [Act.put, zz4, zz5, zz6]
       refine tk 2 (fun _ _ _ _ _ h => h) (by kernel_rfl) ‹_› ⟨_, ?_, by simp only [zz1, zz2, zz3]; rfl, .inl ⟨by rfl, ?_⟩, ?_⟩; rotate_left; · (intro w hSw; (try dsimp only at hSw); go_simp; all_goals with_reducible rfl)
       simp only [Act.put, zz4, zz5, zz6]
       refine tk 3 (fun _ _ _ _ _ h => h) (by kernel_rfl) ‹_› ⟨_, ?_, by simp only [zz1, zz2, zz3]; rfl, .inl ⟨by rfl, ?_⟩, ?_⟩; rotate_left; · (intro w hSw; (try dsimp only at hSw); go_simp; all_goals with_reducible rfl)
       simp only [Act.put, zz4, zz5, zz6]
       refine tk 4 (fun _ _ _ _ _ h => h) (by kernel_rfl) ‹_› ⟨_, ?_, by simp only [zz1, zz2, zz3]; rfl, .inl ⟨by rfl, ?_⟩, ?_⟩; rotate_left; · (intro w hSw; (try dsimp only at hSw); go_simp; all_goals with_reducible rfl)
       simp only [Act.put, zz4, zz5, zz6]
       refine tk 5 (fun _ _ _ _ _ h => h) (by kernel_rfl) ‹_› ⟨_, ?_, by simp only [zz1, zz2, zz3]; rfl, .inl ⟨by rfl, ?_⟩, ?_⟩; rotate_left; · (intro w hSw; (try dsimp only at hSw); go_simp; all_goals with_reducible rfl)
       simp only [Act.put, zz4, zz5, zz6]
       refine tk 6 (fun _ _ _ _ _ h => h) (by kernel_rfl) ‹_› ⟨_, ?_, by simp only [zz1, zz2, zz3]; rfl, .inl ⟨by rfl, ?_⟩, ?_⟩; rotate_left; · (intro w hSw; (try dsimp only at hSw); go_simp; all_goals with_reducible rfl)
       simp only [Act.put, zz4, zz5, zz6]
       refine tk 7 (fun _ _ _ _ _ h => h) (by kernel_rfl) ‹_› ⟨_, ?_, by simp only [zz1, zz2, zz3]; rfl, .inl ⟨by rfl, ?_⟩, ?_⟩; rotate_left; · (intro w hSw; (try dsimp only at hSw); go_simp; all_goals with_reducible rfl)
       simp only [Act.put, zz4, zz5, zz6]
       refine tk 8 (fun _ _ _ _ _ h => h) (by kernel_rfl) ‹_› ⟨_, ?_, by simp only [zz1, zz2, zz3]; rfl, .inl ⟨by rfl, ?_⟩, ?_⟩; rotate_left; · (intro w hSw; (try dsimp only at hSw); go_simp; all_goals with_reducible rfl)
       simp only [Act.put, zz4, zz5, zz6]
       refine tk 9 (fun _ _ _ _ _ h => h) (by kernel_rfl) ‹_› ⟨_, ?_, by simp only [zz1, zz2, zz3]; rfl, .inl ⟨by rfl, ?_⟩, ?_⟩; rotate_left; · (intro w hSw; (try dsimp only at hSw); go_simp; all_goals with_reducible rfl)
       simp only [Act.put, zz4, zz5, zz6]
       refine tk 10 (fun _ _ _ _ _ h => h) (by kernel_rfl) ‹_› ⟨_, ?_, by simp only [zz1, zz2, zz3]; rfl, .inl ⟨by rfl, ?_⟩, ?_⟩; rotate_left; · (intro w hSw; (try dsimp only at hSw); go_simp; all_goals with_reducible rfl)
       simp only [Act.put, zz4, zz5, zz6]
       refine tk 11 (fun _ _ _ _ _ h => h) (by kernel_rfl) ‹_› ⟨_, ?_, by simp only [zz1, zz2, zz3]; rfl, .inl ⟨by rfl, ?_⟩, ?_⟩; rotate_left; · (intro w hSw; (try dsimp only at hSw); go_simp; all_goals with_reducible rfl)
       simp only [Act.put, zz4, zz5, zz6]
       refine tk 12 (fun _ _ _ _ _ h => h) (by kernel_rfl) ‹_› ⟨_, ?_, by simp only [zz1, zz2, zz3]; rfl, .inl ⟨by rfl, ?_⟩, ?_⟩; rotate_left; · (intro w hSw; (try dsimp only at hSw); go_simp; all_goals with_reducible rfl)
       simp only [Act.put, zz4, zz5, zz6]
       refine tk 13 (fun _ _ _ _ _ h => h) (by kernel_rfl) ‹_› ⟨_, ?_, by simp only [zz1, zz2, zz3]; rfl, .inl ⟨by rfl, ?_⟩, ?_⟩; rotate_left; · (intro w hSw; (try dsimp only at hSw); go_simp; all_goals with_reducible rfl)
       simp only [Act.put, zz4, zz5, zz6]
       refine tk 14 (fun _ _ _ _ _ h => h) (by kernel_rfl) ‹_› ⟨_, ?_, by simp only [zz1, zz2, zz3]; rfl, .inl ⟨by rfl, ?_⟩, ?_⟩; rotate_left; · (intro w hSw; (try dsimp only at hSw); go_simp; all_goals with_reducible rfl)
       simp only [Act.put, zz4, zz5, zz6]
       refine tk 15 (fun _ _ _ _ _ h => h) (by kernel_rfl) ‹_› ⟨_, ?_, by simp only [zz1, zz2, zz3]; rfl, .inl ⟨by rfl, ?_⟩, ?_⟩; rotate_left; · (intro w hSw; (try dsimp only at hSw); go_simp; all_goals with_reducible rfl)
       simp only [Act.put, zz4, zz5, zz6]
       refine tk 16 (fun _ _ _ _ _ h => h) (by kernel_rfl) ‹_› ⟨_, ?_, by simp only [zz1, zz2, zz3]; rfl, .inl ⟨by rfl, ?_⟩, ?_⟩; rotate_left; · (intro w hSw; (try dsimp only at hSw); go_simp; all_goals with_reducible rfl)
       simp only [Act.put, zz4, zz5, zz6]
       refine tk 17 (fun _ _ _ _ _ h => h) (by kernel_rfl) ‹_› ⟨_, ?_, by simp only [zz1, zz2, zz3]; rfl, .inl ⟨by rfl, ?_⟩, ?_⟩; rotate_left; · (intro w hSw; (try dsimp only at hSw); go_simp; all_goals with_reducible rfl)
       simp only [Act.put, zz4, zz5, zz6]
       refine tk 18 (fun _ _ _ _ _ h => h) (by kernel_rfl) ‹_› ⟨_, ?_, by simp only [zz1, zz2, zz3]; rfl, .inl ⟨by rfl, ?_⟩, ?_⟩; rotate_left; · (intro w hSw; (try dsimp only at hSw); go_simp; all_goals with_reducible rfl)
       simp only [Act.put, zz4, zz5, zz6]
       refine tk 19 (fun _ _ _ _ _ h => h) (by kernel_rfl) ‹_› ⟨_, _, by simp only [zz1, zz2, zz3]; rfl, Or.inr ⟨by rfl, rfl⟩, ?_⟩
       simp only [Act.put, zz4, zz5, zz6]
       refine tk 20 (fun _ _ _ _ _ h => h) (by kernel_rfl) ‹_› ⟨_, _, by simp only [zz1, zz2, zz3]; rfl, Or.inr ⟨by rfl, rfl⟩, ?_⟩
       simp only [Act.put, zz4, zz5, zz6]
       refine tk 21 (fun _ _ _ _ _ h => h) (by kernel_rfl) ‹_› ⟨_, _, by simp only [zz1, zz2, zz3]; rfl, Or.inr ⟨by rfl, rfl⟩, ?_⟩
       simp only [Act.put, zz4, zz5, zz6]
       refine tk 22 (fun _ _ _ _ _ h => h) (by kernel_rfl) ‹_› ⟨_, _, by simp only [zz1, zz2, zz3]; rfl, Or.inr ⟨by rfl, rfl⟩, ?_⟩
       simp only [Act.put, zz4, zz5, zz6]
       refine tk 23 (fun _ _ _ _ _ h => h) (by kernel_rfl) ‹_› ⟨_, _, by simp only [zz1, zz2, zz3]; rfl, Or.inr ⟨by rfl, rfl⟩, ?_⟩
       simp only [Act.put, zz4, zz5, zz6]
       refine tk 24 (fun _ _ _ _ _ h => h) (by kernel_rfl) ‹_› ⟨_, _, by simp only [zz1, zz2, zz3]; rfl, Or.inr ⟨by rfl, rfl⟩, ?_⟩
       simp only [Act.put, zz4, zz5, zz6]
       refine tk 25 (fun _ _ _ _ _ h => h) (by kernel_rfl) ‹_› ⟨_, _, by simp only [zz1, zz2, zz3]; rfl, Or.inr ⟨by rfl, rfl⟩, ?_⟩
       simp only [Act.put, zz4, zz5, zz6]
       refine tk 26 (fun _ _ _ _ _ h => h) (by kernel_rfl) ‹_› ⟨_, _, by simp only [zz1, zz2, zz3]; rfl, Or.inr ⟨by rfl, rfl⟩, ?_⟩
       simp only [Act.put, zz4, zz5, zz6]
       refine tk 27 (fun _ _ _ _ _ h => h) (by kernel_rfl) ‹_› ⟨_, ?_, by simp only [zz1, zz2, zz3]; rfl, .inl ⟨by rfl, ?_⟩, ?_⟩; rotate_left; · (intro w hSw; (try dsimp only at hSw); go_simp; all_goals with_reducible rfl)
       simp only [Act.put, zz4, zz5, zz6]
       refine wpAnyH_done (by kernel_rfl) ?_ _
       refine NoPanic.normal ?_
       go_wp2_with fail
       go_roundg (C.length - (m + 1))
       case measure => omega
       case rel => exact ⟨m + 1, o2, by omega, rfl, by go_num, hown2, hid (by rw [HN0.out HG.out]; exact hwi.out), hid hbq.out.drew⟩
     ·have d7 : (r.kind == 7) = false := beq_eq_false_iff_ne.2 h7
      have HG : Hid (sameG x0 r = none) := hid (by unfold sameG; rw [if_neg (fun h => h7 h.1)])
      clear h7
      go_upto_region 8 with fail
      refine wp_region_noPanic ?_
      refine wp_region_held_drew (S := fun w' => w'.cell? ⟨b, off + m * 15 + 3, none⟩ = some (.int .u8 r.kind) ∧ w'.cell? ⟨b, off + m * 15 + 4, none⟩ = some (.int .i64 r.parcel) ∧ w'.cell? ⟨b, off + m * 15 + 13, none⟩ = some (.int .i64 r.other) ∧ w'.cell? ⟨g2, at_, none⟩ = some (.int .i64 x0)) (by kernel_rfl) (⟨HC3.out, HC4.out, HC13.out, HCA.out⟩) (fun hHeld => ?_)
      refine tk 0 (fun _ _ _ _ _ h => h) (by kernel_rfl) ‹_› ⟨_, ?_, by simp only [zz1, zz2]; rfl, .inl ⟨by rfl, ?_⟩, ?_⟩; rotate_left; · (intro w hSw; (try dsimp only at hSw); go_simp; all_goals with_reducible rfl)
      simp only [Act.put, zz4, zz5, zz6]
      refine tk 1 (fun _ _ _ _ _ h => h) (by kernel_rfl) ‹_› ⟨_, ?_, by simp only [zz1, zz2, zz3]; rfl, .inl ⟨by rfl, ?_⟩, ?_⟩; rotate_left; · (intro w hSw; (try dsimp only at hSw); go_simp; all_goals with_reducible rfl)
      simp only [Act.put, zz4, zz5, zz6]
      refine tk 2 (fun _ _ _ _ _ h => h) (by kernel_rfl) ‹_› ⟨_, ?_, by simp only [zz1, zz2, zz3]; rfl, .inl ⟨by rfl, ?_⟩, ?_⟩; rotate_left; · (intro w hSw; (try dsimp only at hSw); go_simp; all_goals with_reducible rfl)
      simp only [Act.put, zz4, zz5, zz6]
      refine tk 3 (fun _ _ _ _ _ h => h) (by kernel_rfl) ‹_› ⟨_, ?_, by simp only [zz1, zz2, zz3]; rfl, .inl ⟨by rfl, ?_⟩, ?_⟩; rotate_left; · (intro w hSw; (try dsimp only at hSw); go_simp; all_goals with_reducible rfl)
      simp only [Act.put, zz4, zz5, zz6]
      refine tk 4 (fun _ _ _ _ _ h => h) (by kernel_rfl) ‹_› ⟨_, ?_, by simp only [zz1, zz2, zz3]; rfl, .inl ⟨by rfl, ?_⟩, ?_⟩; rotate_left; · (intro w hSw; (try dsimp only at hSw); go_simp; all_goals with_reducible rfl)
      simp only [Act.put, zz4, zz5, zz6]
      refine tk 5 (fun _ _ _ _ _ h => h) (by kernel_rfl) ‹_› ⟨_, ?_, by simp only [zz1, zz2, zz3]; rfl, .inl ⟨by rfl, ?_⟩, ?_⟩; rotate_left; · (intro w hSw; (try dsimp only at hSw); go_simp; all_goals with_reducible rfl)
      simp only [Act.put, zz4, zz5, zz6]
      refine tk 6 (fun _ _ _ _ _ h => h) (by kernel_rfl) ‹_› ⟨_, ?_, by simp only [zz1, zz2, zz3]; rfl, .inl ⟨by rfl, ?_⟩, ?_⟩; rotate_left; · (intro w hSw; (try dsimp only at hSw); go_simp; all_goals with_reducible rfl)
      simp only [Act.put, zz4, zz5, zz6]
      refine tk 7 (fun _ _ _ _ _ h => h) (by kernel_rfl) ‹_› ⟨_, _, by simp only [zz1, zz2, zz3]; rfl, Or.inr ⟨by rfl, rfl⟩, ?_⟩
      simp only [Act.put, zz4, zz5, zz6]
      refine tk 8 (fun _ _ _ _ _ h => h) (by kernel_rfl) ‹_› ⟨_, _, by simp only [zz1, zz2, zz3]; rfl, Or.inr ⟨by rfl, rfl⟩, ?_⟩
      simp only [Act.put, zz4, zz5, zz6]
      refine tk 9 (fun _ _ _ _ _ h => h) (by kernel_rfl) ‹_› ⟨_, _, by simp only [zz1, zz2, zz3]; rfl, Or.inr ⟨by rfl, rfl⟩, ?_⟩
      simp only [Act.put, zz4, zz5, zz6]
      refine tk 10 (fun _ _ _ _ _ h => h) (by kernel_rfl) ‹_› ⟨_, _, by simp only [zz1, zz2, zz3]; rfl, Or.inr ⟨by rfl, rfl⟩, ?_⟩
      simp only [Act.put, zz4, zz5, zz6]
      refine tk 11 (fun _ _ _ _ _ h => h) (by kernel_rfl) ‹_› ⟨_, _, by simp only [zz1, zz2, zz3]; rfl, Or.inr ⟨by rfl, rfl⟩, ?_⟩
      simp only [Act.put, zz4, zz5, zz6]
      refine tk 12 (fun _ _ _ _ _ h => h) (by kernel_rfl) ‹_› ⟨_, _, by simp only [zz1, zz2, zz3]; rfl, Or.inr ⟨by rfl, rfl⟩, ?_⟩
      simp only [Act.put, zz4, zz5, zz6]
      refine tk 13 (fun _ _ _ _ _ h => h) (by kernel_rfl) ‹_› ⟨_, _, by simp only [zz1, zz2, zz3]; rfl, Or.inr ⟨by rfl, rfl⟩, ?_⟩
      simp only [Act.put, zz4, zz5, zz6]
      refine tk 14 (fun _ _ _ _ _ h => h) (by kernel_rfl) ‹_› ⟨_, _, by simp only [zz1, zz2, zz3]; rfl, Or.inr ⟨by rfl, rfl⟩, ?_⟩
      simp only [Act.put, zz4, zz5, zz6]
      refine tk 15 (fun _ _ _ _ _ h => h) (by kernel_rfl) ‹_› ⟨_, _, by simp only [zz1, zz2, zz3]; rfl, Or.inr ⟨by rfl, rfl⟩, ?_⟩
      simp only [Act.put, zz4, zz5, zz6]
      refine tk 16 (fun _ _ _ _ _ h => h) (by kernel_rfl) ‹_› ⟨_, _, by simp only [zz1, zz2, zz3]; rfl, Or.inr ⟨by rfl, rfl⟩, ?_⟩
      simp only [Act.put, zz4, zz5, zz6]
      refine tk 17 (fun _ _ _ _ _ h => h) (by kernel_rfl) ‹_› ⟨_, ?_, by simp only [zz1, zz2, zz3]; rfl, .inl ⟨by rfl, ?_⟩, ?_⟩; rotate_left; · (intro w hSw; (try dsimp only at hSw); go_simp; all_goals with_reducible rfl)
      simp only [Act.put, zz4, zz5, zz6]
      refine tk 18 (fun _ _ _ _ _ h => h) (by kernel_rfl) ‹_› ⟨_, ?_, by simp only [zz1, zz2, zz3]; rfl, .inl ⟨by rfl, ?_⟩, ?_⟩; rotate_left; · (intro w hSw; (try dsimp only at hSw); go_simp; all_goals with_reducible rfl)
      simp only [Act.put, zz4, zz5, zz6]
      refine tk 19 (fun _ _ _ _ _ h => h) (by kernel_rfl) ‹_› ⟨_, _, by simp only [zz1, zz2, zz3]; rfl, Or.inr ⟨by rfl, rfl⟩, ?_⟩
      simp only [Act.put, zz4, zz5, zz6]
      refine tk 20 (fun _ _ _ _ _ h => h) (by kernel_rfl) ‹_› ⟨_, _, by simp only [zz1, zz2, zz3]; rfl, Or.inr ⟨by rfl, rfl⟩, ?_⟩
      simp only [Act.put, zz4, zz5, zz6]
      refine tk 21 (fun _ _ _ _ _ h => h) (by kernel_rfl) ‹_› ⟨_, _, by simp only [zz1, zz2, zz3]; rfl, Or.inr ⟨by rfl, rfl⟩, ?_⟩
      simp only [Act.put, zz4, zz5, zz6]
      refine tk 22 (fun _ _ _ _ _ h => h) (by kernel_rfl) ‹_› ⟨_, _, by simp only [zz1, zz2, zz3]; rfl, Or.inr ⟨by rfl, rfl⟩, ?_⟩
      simp only [Act.put, zz4, zz5, zz6]
      refine tk 23 (fun _ _ _ _ _ h => h) (by kernel_rfl) ‹_› ⟨_, _, by simp only [zz1, zz2, zz3]; rfl, Or.inr ⟨by rfl, rfl⟩, ?_⟩
      simp only [Act.put, zz4, zz5, zz6]
      refine tk 24 (fun _ _ _ _ _ h => h) (by kernel_rfl) ‹_› ⟨_, _, by simp only [zz1, zz2, zz3]; rfl, Or.inr ⟨by rfl, rfl⟩, ?_⟩
      simp only [Act.put, zz4, zz5, zz6]
      refine tk 25 (fun _ _ _ _ _ h => h) (by kernel_rfl) ‹_› ⟨_, _, by simp only [zz1, zz2, zz3]; rfl, Or.inr ⟨by rfl, rfl⟩, ?_⟩
      simp only [Act.put, zz4, zz5, zz6]
      refine tk 26 (fun _ _ _ _ _ h => h) (by kernel_rfl) ‹_› ⟨_, _, by simp only [zz1, zz2, zz3]; rfl, Or.inr ⟨by rfl, rfl⟩, ?_⟩
      simp only [Act.put, zz4, zz5, zz6]
      refine tk 27 (fun _ _ _ _ _ h => h) (by kernel_rfl) ‹_› ⟨_, ?_, by simp only [zz1, zz2, zz3]; rfl, .inl ⟨by rfl, ?_⟩, ?_⟩; rotate_left; · (intro w hSw; (try dsimp only at hSw); go_simp; all_goals with_reducible rfl)
      simp only [Act.put, zz4, zz5, zz6]
      refine wpAnyH_done (by kernel_rfl) ?_ _
      refine NoPanic.normal ?_
      go_wp2_with fail
      go_roundg (C.length - (m + 1))
      case measure => omega
      case rel => exact ⟨m + 1, o2, by omega, rfl, by go_num, hown2, hid (by rw [HN0.out HG.out]; exact hwi.out), hid hbq.out.drew⟩
    ·obtain rfl : m = C.length := by omega
     have hw9 := hwi.out.next (by rw [List.take_of_length_le (by simp)])
     have HW9 := hid hw9
     have hgg : at_ ≤ C.length := by omega
     clear hw9
     go_wp2_with fail
     go_roundg (C.length + 1 - (at_ + 1))
     case measure => omega
     case rel => exact ⟨at_ + 1, o2, by omega, rfl, by go_num, hown2, HW9, hbq⟩
  ·obtain rfl : at_ = o.length := by omega
   go_wp2_with fail
   go_ret
   exact ⟨o, _, rfl, hown.out, hbw.out, hol, hwl.out.done⟩
end Go.Proofs.YtfaoillnakhejaaGreat
