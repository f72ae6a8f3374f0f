/- The reference's chains, by length and then element by element, are the first of the shortest ones; and its check of a chain (plain); The reference: less, move, Moves; The reference: pair, chains, Chain. -/
import Derived.Test.YtfaoillnakhejaaGreatH32
import Derived.Test.YtfaoillnakhejaaGreatH16
import Derived.Test.YtfaoillnakhejaaGreatH10
import Derived.Test.YtfaoillnakhejaaGreatH12
import Derived.Deep.CutRange
import Derived.BigQuiet
namespace Go.Proofs.YtfaoillnakhejaaGreat
set_option maxRecDepth 100000
open Go.RowKit
def ltL : List Int → List Int → Bool
 | a :: l, b :: m => if a = b then ltL l m else decide (a < b)
 | _, _ => false
def lessB (a b : List Int) : Bool := if a.length = b.length then ltL a b else decide (a.length < b.length)
theorem lex_trans : ∀ {l m n : List Int}, l.length = m.length → m.length = n.length → lexL l m → lexL m n → lexL l n
 | [], _, _, _, _, _, _ => by unfold lexL; trivial
 | _ :: _, [], _, h, _, _, _ => by simp at h
 | _ :: _, _ :: _, [], _, h, _, _ => by simp at h
 | a :: l, b :: m, c :: n, h1, h2, h3, h4 => by
  rcases h3 with h3 | ⟨rfl, h3⟩
  ·rcases h4 with h4 | ⟨rfl, _⟩
   ·exact .inl (by omega)
   ·exact .inl h3
  ·rcases h4 with h4 | ⟨rfl, h4⟩
   ·exact .inl h4
   ·exact .inr ⟨rfl, lex_trans (by simpa using h1) (by simpa using h2) h3 h4⟩
theorem ltL_true : ∀ {l m : List Int}, l.length = m.length → ltL l m = true → lexL l m
 | [], _, _, _ => by unfold lexL; trivial
 | _ :: _, [], h, _ => by simp at h
 | a :: l, b :: m, h, h1 => by
  unfold ltL at h1
  by_cases e : a = b
  ·rw [if_pos e] at h1
   exact .inr ⟨e, ltL_true (by simpa using h) h1⟩
  ·rw [if_neg e] at h1
   exact .inl (of_decide_eq_true h1)
theorem ltL_false : ∀ {l m : List Int}, l.length = m.length → ltL l m = false → lexL m l
 | _, [], _, _ => by unfold lexL; trivial
 | [], _ :: _, h, _ => by simp at h
 | a :: l, b :: m, h, h1 => by
  unfold ltL at h1
  by_cases e : a = b
  ·rw [if_pos e] at h1
   exact .inr ⟨e.symm, ltL_false (by simpa using h) h1⟩
  ·rw [if_neg e] at h1
   have := of_decide_eq_false h1
   exact .inl (by omega)
/-- What chains hands back for a parcel and at most so many moves. -/
def RCh (C : List Ent) (t : Int) (m : Nat) (p : Int) (xs : List Int) (f : Bool) : Prop :=
 (f = true ∧ Best C t xs p ∧ xs.length ≤ m) ∨ (f = false ∧ xs.length ≤ 1 ∧ ∀ l, Ch C t l p → m < l.length)
/-- What its loop has of the parcels that it has looked at. -/
def RLp (C : List Ent) (t : Int) (m : Nat) (S : List Int) (best : List Int) (f : Bool) : Prop :=
 (f = false ∧ best = [] ∧ ∀ q ∈ S, ∀ l, Ch C t l q → m < l.length) ∨
  (f = true ∧ (∃ q ∈ S, Ch C t best q) ∧ best.length ≤ m ∧ ∀ q ∈ S, ∀ l, Ch C t l q → best.length ≤ l.length ∧ (l.length = best.length → lexL best l))
theorem RLp.start (C : List Ent) (t : Int) (m : Nat) : RLp C t m [] [] false := .inl ⟨rfl, rfl, by simp⟩
theorem RLp.len {C : List Ent} {t : Int} {m : Nat} {S best : List Int} {f : Bool} (h : RLp C t m S best f) : best.length ≤ m := by
 rcases h with ⟨_, rfl, _⟩ | ⟨_, _, h, _⟩
 ·simp
 ·exact h
theorem RCh.len {C : List Ent} {t p : Int} {m : Nat} {xs : List Int} {f : Bool} (h : RCh C t m p xs f) : xs.length ≤ m + 1 := by
 rcases h with ⟨_, _, h⟩ | ⟨_, h, _⟩ <;> omega
/-- A parcel without a better list. -/
theorem RLp.keep {C : List Ent} {t q : Int} {m : Nat} {S best rest : List Int} {f ok : Bool} (h : RLp C t m S best f) (k : RCh C t m q rest ok) (hn : ok = false ∨ (f = true ∧ lessB rest best = false)) : RLp C t m (S ++ [q]) best f := by
 rcases h with ⟨rfl, rfl, h⟩ | ⟨rfl, ⟨y, hy, hyc⟩, hl, h⟩
 ·rcases k with ⟨rfl, _⟩ | ⟨rfl, _, k⟩
  ·rcases hn with hn | ⟨hn, _⟩ <;> cases hn
  ·refine .inl ⟨rfl, rfl, fun x hx l hc => ?_⟩
   rcases List.mem_append.1 hx with hx | hx
   ·exact h x hx l hc
   ·rw [List.mem_singleton] at hx
    subst hx
    exact k l hc
 ·refine .inr ⟨rfl, ⟨y, by simp [hy], hyc⟩, hl, fun x hx l hc => ?_⟩
  rcases List.mem_append.1 hx with hx | hx
  ·exact h x hx l hc
  ·rw [List.mem_singleton] at hx
   subst hx
   rcases k with ⟨rfl, k, _⟩ | ⟨rfl, _, k⟩
   ·rcases hn with hn | ⟨_, hn⟩
    ·cases hn
    have h1 := k.short l hc
    unfold lessB at hn
    by_cases e : rest.length = best.length
    ·rw [if_pos e] at hn
     have h2 := ltL_false e hn
     refine ⟨by omega, fun he => lex_trans e.symm (by omega) h2 (k.first l hc (by omega))⟩
    ·rw [if_neg e] at hn
     have := of_decide_eq_false hn
     exact ⟨by omega, fun he => by omega⟩
   ·have := k l hc
    exact ⟨by omega, fun he => by omega⟩
/-- A parcel with a better list. -/
theorem RLp.take {C : List Ent} {t q : Int} {m : Nat} {S best rest : List Int} {f : Bool} (h : RLp C t m S best f) (k : RCh C t m q rest true) (hn : f = false ∨ lessB rest best = true) : RLp C t m (S ++ [q]) rest true := by
 rcases k with ⟨_, k, hkl⟩ | ⟨k, _⟩
 ·refine .inr ⟨rfl, ⟨q, by simp, k.ch⟩, hkl, fun x hx l hc => ?_⟩
  rcases List.mem_append.1 hx with hx | hx
  ·rcases h with ⟨rfl, rfl, h⟩ | ⟨rfl, _, hl, h⟩
   ·have := h x hx l hc
    exact ⟨by omega, fun he => by omega⟩
   ·obtain ⟨h1, h2⟩ := h x hx l hc
    rcases hn with hn | hn
    ·cases hn
    unfold lessB at hn
    by_cases e : rest.length = best.length
    ·rw [if_pos e] at hn
     exact ⟨by omega, fun he => lex_trans e (by omega) (ltL_true e hn) (h2 (by omega))⟩
    ·rw [if_neg e] at hn
     have := of_decide_eq_true hn
     exact ⟨by omega, fun he => by omega⟩
  ·rw [List.mem_singleton] at hx
   subst hx
   exact ⟨k.short l hc, fun he => k.first l hc he⟩
 ·cases k
/-- The end of its loop. -/
theorem RLp.ends {C : List Ent} {t p : Int} {m : Nat} {S best : List Int} {f : Bool} (h : RLp C t m S best f) (hp : p ≠ t) (hS : ∀ q, q ∈ S ↔ q ∈ onL C p) : RCh C t (m + 1) p (uidF C p :: best) f := by
 have hl : ∀ l, Ch C t l p → ∃ l2 q, l = uidF C p :: l2 ∧ q ∈ S ∧ Ch C t l2 q := fun l hc => by
  rcases l with _ | ⟨a, l⟩
  ·exact absurd hc hp
  ·obtain ⟨rfl, q, hq, hc⟩ := hc
   exact ⟨l, q, rfl, (hS q).2 hq, hc⟩
 rcases h with ⟨rfl, rfl, h⟩ | ⟨rfl, ⟨y, hy, hyc⟩, hlen, h⟩
 ·refine .inr ⟨rfl, by simp, fun l hc => ?_⟩
  obtain ⟨l2, q, rfl, hq, hc2⟩ := hl l hc
  have := h q hq l2 hc2
  simp only [List.length_cons]
  omega
 ·refine .inl ⟨rfl, ⟨⟨rfl, y, (hS y).1 hy, hyc⟩, fun l hc => ?_, fun l hc he => ?_⟩, by simp only [List.length_cons]; omega⟩
  ·obtain ⟨l2, q, rfl, hq, hc2⟩ := hl l hc
   have := (h q hq l2 hc2).1
   simp only [List.length_cons]
   omega
  ·obtain ⟨l2, q, rfl, hq, hc2⟩ := hl l hc
   simp only [List.length_cons] at he
   exact .inr ⟨rfl, (h q hq l2 hc2).2 (by omega)⟩
theorem RCh.here (C : List Ent) (t : Int) (m : Nat) : RCh C t m t [] true :=
 .inl ⟨rfl, ⟨rfl, fun l _ => by simp, fun l _ _ => by unfold lexL; trivial⟩, by simp⟩
theorem RCh.no {C : List Ent} {t p : Int} (m : Nat) (hp : p ≠ t) (h : m = 0 ∨ userE C p = none) : RCh C t m p [] false := by
 refine .inr ⟨rfl, by simp, fun l hc => ?_⟩
 rcases l with _ | ⟨a, l⟩
 ·exact absurd hc hp
 ·rcases h with rfl | h
  ·simp
  ·obtain ⟨_, q, hq, _⟩ := hc
   unfold onL at hq
   rw [h] at hq
   simp at hq
/-- The parcels that a report made, by their numbers. -/
def fromL (D : List Pcl) (c : Int) : List Int := (D.filter fun q => decide (q.from_ = c)).map (·.id)
theorem fromL_snoc (D : List Pcl) (q : Pcl) (c : Int) : fromL (D ++ [q]) c = fromL D c ++ if q.from_ = c then [q.id] else [] := by
 unfold fromL
 rw [List.filter_append, List.map_append]
 congr 1
 by_cases h : q.from_ = c <;> simp [h]
theorem mem_fromL {D : List Pcl} {c x : Int} : x ∈ fromL D c ↔ ∃ q ∈ D, q.id = x ∧ q.from_ = c := by
 unfold fromL
 simp only [List.mem_map, List.mem_filter, decide_eq_true_eq]
 constructor
 ·rintro ⟨q, ⟨h1, h2⟩, h3⟩
  exact ⟨q, h1, h3, h2⟩
 ·rintro ⟨q, h1, h3, h2⟩
  exact ⟨q, ⟨h1, h2⟩, h3⟩
theorem from_on {C : List Ent} (hs : Sound (reps C)) {D : List Pcl} (hD : PclsOf C D) {p : Int} {u : Ent} (hu : userE C p = some u) (x : Int) : x ∈ fromL D u.1.id ↔ x ∈ onL C p := by
 obtain ⟨hu1, hu2⟩ := userE_some hu
 have hol : onL C p = u.1.makes := by unfold onL; rw [hu]
 rw [mem_fromL]
 constructor
 ·rintro ⟨q, hq, rfl, hf⟩
  rw [(pcl_is hs hD hq).from_] at hf
  have hmade := ((rkeep_same hs q.id).1 ((hD.mem q.id).1 (List.mem_map_of_mem hq))).1
  obtain ⟨e, he⟩ := Option.isSome_iff_exists.1 hmade
  obtain ⟨he1, he2⟩ := makerE_some he
  rw [he] at hf
  have h3 := hs.ids (is_rep he1) (is_rep hu1) hf
  rw [hol, ← h3]
  exact he2
 ·intro hx
  obtain ⟨q, hq, rfl⟩ := List.mem_map.1 (on_kept hs hD hx)
  refine ⟨q, hq, rfl, ?_⟩
  rw [(pcl_is hs hD hq).from_]
  rw [hol] at hx
  rcases he : makerE C q.id with _ | e
  ·exact absurd hx (makerE_none he u hu1)
  ·obtain ⟨he1, he2⟩ := makerE_some he
   have h3 := hs.maker (is_rep he1) (is_rep hu1) he2 hx
   show e.1.id = u.1.id
   rw [h3]
theorem into_uid {C : List Ent} (hs : Sound (reps C)) {D : List Pcl} (hD : PclsOf C D) {q : Pcl} (hq : q ∈ D) : q.into = uidF C q.id := (pcl_is hs hD hq).into
theorem uid_some {C : List Ent} {p : Int} (h : uidF C p ≠ 0) : ∃ u, userE C p = some u ∧ uidF C p = u.1.id := by
 rcases hu : userE C p with _ | u
 ·exact absurd (by unfold uidF; rw [hu]; rfl) h
 ·exact ⟨u, rfl, by unfold uidF; rw [hu]; rfl⟩
/-- The nodes of a list of moves. -/
theorem ch_nodes {C : List Ent} (hs : Sound (reps C)) {D : List Pcl} (hD : PclsOf C D) {t : Int} : ∀ {l : List Int} {p : Int}, Ch C t l p → p ∈ D.map (·.id) →
  ∃ ns : List Int, ns.length = l.length + 1 ∧ ns.Pairwise (· ≠ ·) ∧ (∀ x ∈ ns, x ∈ D.map (·.id)) ∧ ∀ x ∈ ns, rankO C x ≤ rankO C p
 | [], p, _, hp => ⟨[p], rfl, by simp, by simpa using hp, by simp⟩
 | _ :: l, p, ⟨_, q, hq, h⟩, hp => by
  obtain ⟨ns, h1, h2, h3, h4⟩ := ch_nodes hs hD h (on_kept hs hD hq)
  have hr := rank_on hs p q hq
  refine ⟨p :: ns, by simp [h1], List.pairwise_cons.2 ⟨fun x hx e => ?_, h2⟩, fun x hx => ?_, fun x hx => ?_⟩
  ·subst e
   have := h4 _ hx
   omega
  ·rcases List.mem_cons.1 hx with rfl | hx
   ·exact hp
   ·exact h3 x hx
  ·rcases List.mem_cons.1 hx with rfl | hx
   ·exact Nat.le_refl _
   ·have := h4 x hx
    omega
theorem ch_short {C : List Ent} (hs : Sound (reps C)) {D : List Pcl} (hD : PclsOf C D) {t p : Int} {l : List Int} (h : Ch C t l p) (hp : p ∈ D.map (·.id)) : l.length < D.length := by
 obtain ⟨ns, h1, h2, h3, _⟩ := ch_nodes hs hD h hp
 have := nodup_le h2 h3
 rw [List.length_map] at this
 omega
/-- The moves of counting reports. -/
def MovesOf (C : List Ent) (o : List Int) : Prop := o.Pairwise (· < ·) ∧ ∀ m, m ∈ o ↔ ∃ e ∈ C, e.1.id = m ∧ (e.1.kind = 2 ∨ e.1.kind = 3)
theorem here_nil (C : List Ent) : ∀ l : List Int, hereF C l [] = []
 | [] => rfl
 | _ :: l => here_nil C l
theorem here_cons (C : List Ent) (c : Int) (l hl : List Int) : hereF C (c :: l) hl = hereF C l (nextH C hl c) := rfl
theorem mem_nextH {C : List Ent} {hl : List Int} {c x : Int} : x ∈ nextH C hl c ↔ ∃ p ∈ hl, uidF C p = c ∧ x ∈ onL C p := by
 unfold nextH
 simp only [List.mem_flatMap, List.mem_filter, decide_eq_true_eq]
 constructor
 ·rintro ⟨p, ⟨h1, h2⟩, h3⟩
  exact ⟨p, h1, h2, h3⟩
 ·rintro ⟨p, h1, h2, h3⟩
  exact ⟨p, ⟨h1, h2⟩, h3⟩
/-- A step of the reference's check: some parcel is used up by the move. -/
theorem step_yes {C : List Ent} (hs : Sound (reps C)) {D : List Pcl} (hD : PclsOf C D) {o : List Int} (ho : MovesOf C o) {c : Int} {here hl : List Int} (hh : ∀ x, x ∈ here ↔ x ∈ hl) (hc : c ∈ o) (hq : ∃ q ∈ D, q.into = c ∧ q.id ∈ here) (x : Int) :
  x ∈ fromL D c ↔ x ∈ nextH C hl c := by
 obtain ⟨e, he, rfl, _⟩ := (ho.2 _).1 hc
 obtain ⟨q, hqD, hqi, hqh⟩ := hq
 have hpos := rep_pos hs he
 rw [into_uid hs hD hqD] at hqi
 obtain ⟨u, hu, hui⟩ := uid_some (C := C) (p := q.id) (by omega)
 have hue : u.1.id = e.1.id := by rw [← hui, hqi]
 rw [mem_nextH, ← hue, from_on hs hD hu]
 constructor
 ·exact fun h => ⟨q.id, (hh _).1 hqh, hui, h⟩
 ·rintro ⟨p, _, hpu, hx⟩
  obtain ⟨u2, hu2, _⟩ := uid_some (C := C) (p := p) (by omega)
  have e2 : uidF C p = u2.1.id := by unfold uidF; rw [hu2]; rfl
  have h3 := hs.ids (is_rep (userE_some hu2).1) (is_rep (userE_some hu).1) (by omega)
  unfold onL at hx ⊢
  rw [hu2] at hx
  rw [hu]
  have hx : x ∈ u2.1.makes := hx
  rw [h3] at hx
  exact hx
/-- A step of the reference's check: no parcel is. -/
theorem step_no {C : List Ent} (hs : Sound (reps C)) {D : List Pcl} (hD : PclsOf C D) {o : List Int} (ho : MovesOf C o) {c : Int} {here hl : List Int} (hh : ∀ x, x ∈ here ↔ x ∈ hl) (hsub : ∀ x ∈ here, x ∈ D.map (·.id)) (hn : c ∉ o ∨ ∀ q ∈ D, q.into = c → q.id ∉ here) :
  nextH C hl c = [] := by
 rcases hx : nextH C hl c with _ | ⟨x, xs⟩
 ·rfl
 ·exfalso
  have hx : x ∈ nextH C hl c := by rw [hx]; simp
  obtain ⟨p, hp, hpu, hxo⟩ := mem_nextH.1 hx
  obtain ⟨u, hu, hu1, hu2, hu3, hue⟩ := onL_some hxo
  have hk := uses_kinds hu2
  have h7 : u.1.kind ≠ 7 := fun h7 => by rw [seven_makes h7] at hu3; simp at hu3
  have hph := (hh p).2 hp
  obtain ⟨q, hq, rfl⟩ := List.mem_map.1 (hsub p hph)
  rcases hn with hn | hn
  ·exact hn ((ho.2 c).2 ⟨u, hu1, by omega, by omega⟩)
  ·exact hn q hq ((into_uid hs hD hq).trans hpu) hph
theorem ltL_at : ∀ {xs ys : List Int} {k : Nat} (hx : k < xs.length) (hy : k < ys.length), xs.take k = ys.take k → xs[k] ≠ ys[k] → ltL xs ys = decide (xs[k] < ys[k])
 | [], _, _, hx, _, _, _ => by simp at hx
 | _ :: _, [], _, _, hy, _, _ => by simp at hy
 | a :: l, b :: m, 0, _, _, _, h => by
  have h : a ≠ b := h
  unfold ltL
  rw [if_neg h]
  rfl
 | a :: l, b :: m, k + 1, hx, hy, ht, h => by
  simp only [List.take_succ_cons, List.cons.injEq] at ht
  unfold ltL
  rw [if_pos ht.1]
  exact ltL_at (by simpa using hx) (by simpa using hy) ht.2 h
theorem ltL_self : ∀ xs : List Int, ltL xs xs = false
 | [] => rfl
 | a :: l => by
  unfold ltL
  rw [if_pos rfl]
  exact ltL_self l
set_option maxHeartbeats 4000000 in
theorem less_any (A : Option Addr) (cap : Nat) (xs : List Int) (B : Option Addr) (cb : Nat) (ys : List Int) (w : World) (hm : xs.length ≤ 1000000) (hm2 : ys.length ≤ 1000000) (hA : IntsAt w A xs) (hB : IntsAt w B ys) :
  Calls Tryz.prog 96 #[.slice A xs.length cap, .slice B ys.length cb] w fun e w' => e = .returned (.bool (lessB xs ys)) ∧ Below w.heap.size w w' := by
 have HA := hid hA
 have HB := hid hB
 obtain ⟨t, ht⟩ : ∃ t, lessB xs ys = t := ⟨_, rfl⟩
 rw [ht]
 have HT := hid ht
 clear hA hB ht
 by_cases hl : xs.length = ys.length
 ·have htl : ltL xs ys = t := by
   have := HT.out
   unfold lessB at this
   rwa [if_pos hl] at this
  have HTL := hid htl
  obtain ⟨m, hm3⟩ : ∃ m, m = xs.length := ⟨_, rfl⟩
  rw [← hm3] at hl hm ⊢
  rw [← hl] at hm2 ⊢
  have HX := hid hm3
  have HY := hid hl
  clear hm3 hl htl
  go_enter Tryz.func96, Tryz.ntmps96
  go_upto_region 4 with fail
  go_loopg [5] (m) (fun g i wr => ∃ k : Nat, k ≤ m ∧ g = m - k ∧ i = .int .i64 k ∧ Hid (xs.take k = ys.take k) ∧ Hid (Below w.heap.size w wr))
  case atStart => exact ⟨0, by omega, by omega, rfl, hid (by simp), hid (Below.refl _ _)⟩
  case round =>
   obtain ⟨k, hk, hgk, rfl, heq, hbw⟩ := hrel
   by_cases hlt : k < m
   ·have hx : k < xs.length := by have := HX.out; omega
    have hy : k < ys.length := by have := HY.out; omega
    obtain ⟨b, off, hAe, hc⟩ := (HA.out.kept (Kept.of_below hbw.out)) (by omega)
    subst hAe
    obtain ⟨b2, off2, hBe, hc2⟩ := (HB.out.kept (Kept.of_below hbw.out)) (by omega)
    subst hBe
    have hck := hc k hx
    have hck2 := hc2 k hy
    have i0 : (0 : Int) ≤ k := by omega
    have i1 : (k : Int) < m := by omega
    have hsn : xs.take (k + 1) = xs.take k ++ [xs[k]] := List.take_succ_eq_append_getElem hx
    have hsn2 : ys.take (k + 1) = ys.take k ++ [ys[k]] := List.take_succ_eq_append_getElem hy
    have hat := ltL_at hx hy heq.out
    obtain ⟨v, hv⟩ : ∃ v, xs[k] = v := ⟨_, rfl⟩
    obtain ⟨u, hu⟩ : ∃ u, ys[k] = u := ⟨_, rfl⟩
    rw [hv] at hck hsn hat
    rw [hu] at hck2 hsn2 hat
    have HSN := hid hsn
    have HSN2 := hid hsn2
    have HAT := hid hat
    clear hc hc2 hsn hsn2 hv hu hat
    by_cases he : v = u
    ·have de : (v != u) = false := by rw [he]; simp
     have HE := hid he
     clear he
     go_upto_region 6 with fail
     go_quiet (fail)
     go_wp2_with fail
     go_roundg (m - (k + 1))
     case measure => omega
     case rel => exact ⟨k + 1, by omega, rfl, by go_num, hid (by rw [HSN.out, HSN2.out, heq.out, HE.out]), hid (Below.drewN' hbw.out _)⟩
    ·have de : (v != u) = true := bne_iff_ne.2 he
     have hd : decide (v < u) = t := by rw [← HAT.out he]; exact HTL.out
     clear he
     go_upto_region 6 with fail
     go_quiet (fail)
     go_upto_region 7 with fail
     go_quiet (fail)
     go_wp2_with fail
     go_ret
     exact ⟨rfl, Below.drewN' (Below.drewN' hbw.out _) _⟩
   ·obtain rfl : k = m := by omega
    have hxy : xs = ys := by
     have h2 := heq.out
     rw [List.take_of_length_le (by have := HX.out; omega), List.take_of_length_le (by have := HY.out; omega)] at h2
     exact h2
    have htf : false = t := by rw [← HTL.out, hxy, ltL_self]
    have HTF := hid htf
    clear hxy htf
    go_wp2_with fail
    go_ret
    exact ⟨ret_bool HTF.out, hbw.out⟩
 ·have hd : decide (xs.length < ys.length) = t := by
   have := HT.out
   unfold lessB at this
   rwa [if_neg hl] at this
  have dl0 : ((xs.length : Int) != (ys.length : Int)) = true := bne_iff_ne.2 (by omega)
  have HD := hid hd
  clear hl hd
  go_enter Tryz.func96, Tryz.ntmps96
  go_wp2_with fail
  go_ret
  exact ⟨ret_bool HD.out, Below.refl _ _⟩
theorem moveB_is (r : Rep) : moveB r = (decide (r.kind = 2) || decide (r.kind = 3)) := by unfold moveB; by_cases h : r.kind = 2 <;> simp [h]
set_option maxHeartbeats 4000000 in
theorem rmove_any (r : Rep) (A : Option Addr) (c : Nat) (w : World) :
  Calls Tryz.prog 97 #[r.val A c] w fun e w' => e = .returned (.bool (moveB r)) ∧ Below w.heap.size w w' := by
 obtain ⟨W, hW, hbx, hbW, hlt⟩ := boxC r A c w
 have HBW := hid hbW
 obtain ⟨c0, _, _, c3, _, c5, _⟩ := hbx.at_
 obtain ⟨t, ht⟩ : ∃ t, moveB r = t := ⟨_, rfl⟩
 have HT := hid ht
 rw [moveB_is] at ht
 rw [HT.out]
 clear hbW hbx
 go_enter Tryz.func97, Tryz.ntmps97
 by_cases h2 : r.kind = 2
 ·have d2 : (r.kind == 2) = true := beq_iff_eq.2 h2
  rw [decide_eq_true h2, Bool.true_or] at ht
  subst ht
  clear h2
  go_wp2_with fail
  go_ret
  exact ⟨rfl, HBW.out⟩
 ·have d2 : (r.kind == 2) = false := beq_eq_false_iff_ne.2 h2
  rw [decide_eq_false h2, Bool.false_or] at ht
  clear h2
  have HT3 : Hid ((r.kind == 3) = t) := hid (by rw [← ht]; by_cases h : r.kind = 3 <;> simp [h])
  clear ht
  go_wp2_with fail
  go_ret
  exact ⟨ret_bool HT3.out, HBW.out⟩
def movesL (C : List Ent) : List Int := (C.filter fun e => moveB e.1).map fun e => e.1.id
theorem movesL_snoc (C : List Ent) (k : Nat) (h : k < C.length) : movesL (C.take (k + 1)) = movesL (C.take k) ++ if moveB C[k].1 then [C[k].1.id] else [] := by
 unfold movesL
 rw [List.take_succ_eq_append_getElem h, List.filter_append, List.map_append]
 cases hq : moveB C[k].1 <;> simp [hq]
theorem movesL_len (C : List Ent) : (movesL C).length ≤ C.length := by
 unfold movesL
 rw [List.length_map]
 exact List.length_filter_le _ _
theorem movesL_mem {C : List Ent} {m : Int} : m ∈ movesL C ↔ ∃ e ∈ C, e.1.id = m ∧ (e.1.kind = 2 ∨ e.1.kind = 3) := by
 unfold movesL
 simp only [List.mem_map, List.mem_filter, moveB_is, Bool.or_eq_true, decide_eq_true_eq]
 constructor
 ·rintro ⟨e, ⟨h1, h2⟩, h3⟩
  exact ⟨e, h1, h3, h2⟩
 ·rintro ⟨e, h1, h3, h2⟩
  exact ⟨e, ⟨h1, h2⟩, h3⟩
set_option maxHeartbeats 16000000 in
theorem rmoves_any (A : Option Addr) (cap : Nat) (L : List Ent) (K : Int) (w : World) (hA : EntsAt w A L) (hl : L.length ≤ 210) :
  Calls Tryz.prog 59 #[.slice A L.length cap, .int .i64 K] w fun e w' => ∃ o v, MovesOf (countE L K) o ∧ e = .returned v ∧ w'.ownsRow w.heap.size 3 1 v o.length (ints o) ∧ Below w.heap.size w w' := by
 have HCO := hid (rcounting_any A cap L K w hA (by omega))
 have hcl := countE_len L K
 obtain ⟨C, hC⟩ : ∃ C, countE L K = C := ⟨_, rfl⟩
 rw [hC] at HCO hcl ⊢
 clear hA hC
 go_enter Tryz.func59, Tryz.ntmps59
 go_wp2_with fail
 refine HCO.out.mono ?_
 rintro e w1 ⟨v, rfl, ho, hb1⟩
 obtain ⟨A1, k1, rfl, hx1⟩ := ownsRow.form ho
 have HR1 : Hid (RowsAt w1 A1 C) := hid (rows_of_cells hx1.1)
 have HB1 := hid hb1
 have hb1s := hb1.size
 clear hx1 ho hb1 HCO
 go_upto_region 4 with fail
 go_loopg [6, 7] (C.length) (fun g v i wr => ∃ k : Nat, k ≤ C.length ∧ g = C.length - k ∧ i = .int .i64 k ∧ Hid (wr.ownsRow w1.heap.size 3 1 v (movesL (C.take k)).length (ints (movesL (C.take k)))) ∧ Hid (Below w1.heap.size w1 wr))
 case atStart => exact ⟨0, by omega, by omega, rfl, hid (World.ownsRow_nil _ _ _ _), hid (Below.refl _ _)⟩
 case round =>
  obtain ⟨k, hk, hgk, rfl, hown, hbw⟩ := hrel
  by_cases hkl : k < C.length
  ·obtain ⟨b, off, hAe, hc⟩ := (HR1.out.kept (Kept.of_below hbw.out)) (by omega)
   subst hAe
   have hrange := hc k hkl
   have hsn := movesL_snoc C k hkl
   obtain ⟨⟨x, P, c⟩, hx⟩ : ∃ y, C[k] = y := ⟨_, rfl⟩
   rw [hx] at hrange hsn
   dsimp only at hrange hsn
   have hml : (movesL (C.take k)).length ≤ 210 := by
    have h1 := movesL_len (C.take k)
    rw [List.length_take] at h1
    omega
   obtain ⟨ms, hms⟩ : ∃ l, movesL (C.take k) = l := ⟨_, rfl⟩
   rw [hms] at hsn hown hml
   have HR := hid hrange
   have HMV := hid (rmove_any x P c wr)
   have i0 : (0 : Int) ≤ k := by omega
   have i1 : (k : Int) < C.length := by omega
   clear hc hrange hx hms
   go_wp2_with (refine load_rep_mid rfl _ rfl _ _ rfl HR.out ?_)
   refine HMV.out.mono ?_
   rintro e w3 ⟨rfl, hb3⟩
   have HB3 := hid (hbw.out.trans (hb3.mono hbw.out.size))
   have HO3 := hid (own_below hown.out hb3)
   rcases hmv : moveB x with _ | _
   ·rw [hmv] at hsn
    have HSN := hid hsn
    clear hb3 hsn hmv HR HMV
    go_wp2_with fail
    go_roundg (C.length - (k + 1))
    case measure => omega
    case rel => exact ⟨k + 1, by omega, rfl, by go_num, hid (by rw [HSN.out]; simpa using HO3.out), HB3⟩
   ·rw [hmv] at hsn
    have HSN := hid hsn
    have hid0 : w3.cell? ⟨b, off + k * 15, none⟩ = some (.int .i64 x.id) := Kept.of_below hb3 _ _ (HR.out 0 _ rfl)
    obtain ⟨v4, w4, hr4, ho4, hb4⟩ := app_one x.id HO3.out (by omega) HB3.out.size
    have HR4 := hid hr4
    have HO4 := hid ho4
    have HB4 := hid (HB3.out.trans hb4)
    clear hb3 hsn hmv HR HMV hr4 ho4 hb4
    go_wp2_with (first | (at_builtin; refine wpList_app rfl rfl rfl rfl rfl HR4.out ?_))
    go_roundg (C.length - (k + 1))
    case measure => omega
    case rel => exact ⟨k + 1, by omega, rfl, by go_num, hid (by rw [HSN.out]; exact HO4.out), HB4⟩
  ·obtain rfl : k = C.length := by omega
   have hown2 := hown.out
   rw [List.take_length] at hown2
   have hml := movesL_len C
   have hmem := fun m => movesL_mem (C := C) (m := m)
   obtain ⟨ms, hms⟩ : ∃ l, movesL C = l := ⟨_, rfl⟩
   rw [hms] at hown2 hml
   simp only [hms] at hmem
   obtain ⟨A2, k2, rfl, hx2⟩ := ownsRow.form hown2
   have HSR := hid (rsorted_any A2 k2 ms wr (ownsRow_ints hown2) (by omega))
   have HB2 := hid (HB1.out.trans (hbw.out.mono HB1.out.size))
   have HMEM := hid hmem
   clear hms hown2 hx2 hown hmem
   go_wp2_with fail
   refine HSR.out.mono ?_
   rintro e w3 ⟨o, v3, rfl, ho3, hb3, hps, hmem3⟩
   have HB3 := hid (HB2.out.trans (hb3.mono HB2.out.size))
   have HO3 := hid (own_lo (base' := w.heap.size) ho3 HB2.out.size)
   have HMO : Hid (MovesOf C o) := hid ⟨hps, fun m => (hmem3 m).trans (HMEM.out m)⟩
   clear hb3 ho3 hps hmem3 HSR
   go_wp2_with fail
   go_ret
   exact ⟨o, _, HMO.out, rfl, HO3.out, HB3.out⟩
theorem fails_same {L : List Ent} {K : Int} {ps : List Int} {e f : Int} (h : FailsBy L K ps e) (k : FailsBy L K ps f) : e = f := by
 rcases h with ⟨i, h1, h2⟩ | ⟨hv, ids, h1, ⟨p, hp, hn⟩, rfl⟩
 ·rcases k with ⟨j, k1, k2⟩ | ⟨hv, _⟩
  ·exact h1.same k1
  ·exact absurd hv (h1.not_valid h2)
 ·rcases k with ⟨j, k1, k2⟩ | ⟨_, _, _, _, rfl⟩
  ·exact absurd hv (k1.not_valid k2)
  ·rfl
theorem pcls_ids {C : List Ent} (hs : Sound (reps C)) {D : List Pcl} (hD : PclsOf C D) : IdsOf C (D.map (·.id)) := ⟨hD.ids, fun p => (hD.mem p).trans (rkeep_same hs p)⟩
def RPairPost (L : List Ent) (K a b : Int) (w : World) (e : Ending) (w' : World) : Prop :=
 Below w.heap.size w w' ∧ ((∃ en, FailsBy L K [a, b] en ∧ e = .returned (.tuple #[.slice none 0 0, .int .i64 en])) ∨
  (Valid (reps L) ∧ ∃ D v, PclsOf (countE L K) D ∧ a ∈ D.map (·.id) ∧ b ∈ D.map (·.id) ∧ e = .returned (.tuple #[v, .int .i64 0]) ∧ w'.ownsRow w.heap.size 38 12 v D.length (flatP D)))
theorem of_in {D : List Pcl} {p i : Int} (h : OfIs D p i) : (i < 0 ∧ p ∉ D.map (·.id)) ∨ (¬ i < 0 ∧ p ∈ D.map (·.id)) := by
 rcases h with ⟨rfl, hno⟩ | ⟨k, hk, rfl, hyes⟩
 ·refine .inl ⟨by omega, fun h => ?_⟩
  obtain ⟨q, hq, he⟩ := List.mem_map.1 h
  exact hno q hq he
 ·exact .inr ⟨by omega, List.mem_map.2 ⟨_, List.getElem_mem hk, hyes⟩⟩
set_option maxHeartbeats 16000000 in
theorem rpair_any (A : Option Addr) (cap : Nat) (L : List Ent) (K a b : Int) (w : World) (hA : EntsAt w A L) (hl : L.length ≤ 210) (hcap : L.length ≤ cap) (hz : ∀ e ∈ L, e.1.mark.size ≤ 1000000 ∧ e.1.goods.size ≤ 1000000) :
  Calls Tryz.prog 56 #[.slice A L.length cap, .int .i64 K, .int .i64 a, .int .i64 b] w (RPairPost L K a b w) := by
 have HPA := hid (rparcels_any A cap L K w hA hl hcap hz)
 clear hA hz
 go_enter Tryz.func56, Tryz.ntmps56
 go_wp2_with fail
 refine HPA.out.mono ?_
 rintro e w1 ⟨hb1, hcase⟩
 have HB1 := hid hb1
 rcases hcase with ⟨i, en, hck, hne, rfl⟩ | ⟨hv, D, v, hpo, rfl, ho⟩
 ·have d0 : (en != 0) = true := bne_iff_ne.2 hne
  have HF : Hid (FailsBy L K [a, b] en) := hid (.inl ⟨i, hck, hne⟩)
  clear hb1 hck hne
  go_wp2_with fail
  go_ret2
  unfold RPairPost
  exact ⟨HB1.out, .inl ⟨en, HF.out, rfl⟩⟩
 obtain ⟨A1, k1, rfl, hx1⟩ := ownsRow.form ho
 have HPC : Hid (PclsAt w1 A1 D) := hid (pcls_of_cells hx1.1)
 have hdl : D.length ≤ 1680 := by have := hpo.len; have := countE_len L K; omega
 have HFA : Hid (∀ x, x ∈ [a, b] → x ∉ D.map (·.id) → FailsBy L K [a, b] 30) := hid (fun x hx hn => .inr ⟨hv, D.map (·.id), pcls_ids (by rw [countE_reps]; exact hv.sound K) hpo, ⟨x, hx, hn⟩, rfl⟩)
 have HPO := hid hpo
 have HV := hid hv
 have HO := hid ho
 clear hx1 ho hb1 hpo hv HPA
 have HOA := hid (rof_any A1 k1 D a w1 HPC.out (by omega))
 have HOB := hid (rof_any A1 k1 D b w1 HPC.out (by omega))
 go_wp2_with fail
 refine HOA.out.mono ?_
 rintro e w1 ⟨⟨i, rfl, hi⟩, rfl⟩
 rcases of_in hi with ⟨h1, h2⟩ | ⟨h1, h2⟩
 ·have HF := hid (HFA.out a (by simp) h2)
  clear h2 hi HOA
  go_wp2_with fail
  go_ret2
  unfold RPairPost
  exact ⟨HB1.out, .inl ⟨30, HF.out, rfl⟩⟩
 have HIA := hid h2
 have d1 : decide (i < 0) = false := decide_eq_false h1
 clear h1 h2 hi HOA
 go_wp2_with fail
 refine HOB.out.mono ?_
 rintro e w1 ⟨⟨j, rfl, hj⟩, rfl⟩
 rcases of_in hj with ⟨h1, h2⟩ | ⟨h1, h2⟩
 ·have HF := hid (HFA.out b (by simp) h2)
  clear h2 hj HOB
  go_wp2_with fail
  go_ret2
  unfold RPairPost
  exact ⟨HB1.out, .inl ⟨30, HF.out, rfl⟩⟩
 have HIB := hid h2
 have d2 : decide (j < 0) = false := decide_eq_false h1
 clear h1 h2 hj HOB
 go_wp2_with fail
 go_ret2
 unfold RPairPost
 exact ⟨HB1.out, .inr ⟨HV.out, D, _, HPO.out, HIA.out, HIB.out, rfl, HO.out⟩⟩
def ChainsPost (C : List Ent) (t : Int) (m : Nat) (p : Int) (w : World) (e : Ending) (w' : World) : Prop :=
 Below w.heap.size w w' ∧ ∃ xs f v, e = .returned (.tuple #[v, .bool f]) ∧ w'.ownsRow w.heap.size 3 1 v xs.length (ints xs) ∧ RCh C t m p xs f
set_option maxHeartbeats 32000000 in
theorem chains_step {C : List Ent} (hs : Sound (reps C)) {D : List Pcl} (hD : PclsOf C D) (hdl : D.length ≤ 1680) (A : Option Addr) (cap : Nat) (t : Int) (m : Nat)
  (IH : ∀ m', m = m' + 1 → ∀ (M p : Int) (w : World), M = m' → M ≤ 1680 → p ∈ D.map (·.id) → PclsAt w A D → Calls Tryz.prog 57 #[.slice A D.length cap, .int .i64 p, .int .i64 t, .int .i64 M] w (ChainsPost C t m' p w))
  (M p : Int) (w : World) (hM : M = m) (hM2 : M ≤ 1680) (hp : p ∈ D.map (·.id)) (hA : PclsAt w A D) :
  Calls Tryz.prog 57 #[.slice A D.length cap, .int .i64 p, .int .i64 t, .int .i64 M] w (ChainsPost C t m p w) := by
 have HA := hid hA
 have HIN := hid hp
 have HM := hid hM
 have HIH := hid IH
 have HSO := hid hs
 have HD := hid hD
 have hM0 : 0 ≤ M := by omega
 clear hA hp hM IH
 go_enter Tryz.func57, Tryz.ntmps57
 by_cases hpt : p = t
 ·have dpt : (p == t) = true := beq_iff_eq.2 hpt
  have HRC : Hid (RCh C t m p [] true) := hid (by rw [hpt]; exact RCh.here C t m)
  clear hpt
  go_wp2_with fail
  go_ret2
  unfold ChainsPost
  exact ⟨Below.refl _ _, [], true, _, rfl, World.ownsRow_nil _ _ _ _, HRC.out⟩
 have dpt : (p == t) = false := beq_eq_false_iff_ne.2 hpt
 have HPT := hid hpt
 clear hpt
 have HOF := hid (rof_any A cap D p w HA.out (by omega))
 go_wp2_with fail
 refine HOF.out.mono ?_
 rintro e w ⟨⟨i, rfl, hi⟩, rfl⟩
 rcases hi with ⟨_, hno⟩ | ⟨k0, hk0, rfl, hyes⟩
 ·obtain ⟨q, hq, he⟩ := List.mem_map.1 HIN.out
  exact absurd he (hno q hq)
 obtain ⟨b, off, hAe, hc⟩ := HA.out (by omega)
 subst hAe
 have hrange := hc k0 hk0
 have hpf := into_uid hs hD (List.getElem_mem hk0)
 rw [hyes] at hpf
 obtain ⟨q0, hq0⟩ : ∃ q, D[k0] = q := ⟨_, rfl⟩
 rw [hq0] at hrange hpf
 have HR := hid hrange
 have HCC := hid hc
 have i0 : (0 : Int) ≤ k0 := by omega
 have i1 : (k0 : Int) < D.length := by omega
 clear hc hrange hyes hq0 HOF hs hD
 go_upto_region 4 with (first | refine load_pcl_mid rfl _ rfl _ _ rfl HR.out ?_ | (refine store_pcl_new rfl _ _ rfl rfl rfl (q := q0) rfl rfl ?_; intro W2 hbx2 hb2 hlt2; have HX2 := hid hbx2; have HB2 := hid hb2; have hb2s := hb2.size; clear hbx2 hb2))
 have p2 := HX2.out.at_.2.2.1
 obtain ⟨into, hinto⟩ : ∃ x, q0.into = x := ⟨_, rfl⟩
 have HINTO := hid hinto
 rw [hinto] at p2 hpf
 have HPF := hid hpf
 clear hinto hpf i0 i1
 by_cases hz : into = 0
 ·have d0 : (into == 0) = true := beq_iff_eq.2 hz
  have HRC : Hid (RCh C t m p [] false) := hid (RCh.no m HPT.out (.inr ((user_id HSO.out p).2.1 (HPF.out.symm.trans hz))))
  clear hz
  go_wp2_with fail
  go_ret2
  unfold ChainsPost
  exact ⟨HB2.out, [], false, _, rfl, World.ownsRow_nil _ _ _ _, HRC.out⟩
 have d0 : (into == 0) = false := beq_eq_false_iff_ne.2 hz
 by_cases hm : M = 0
 ·have dm : (M == 0) = true := beq_iff_eq.2 hm
  have HRC : Hid (RCh C t m p [] false) := hid (RCh.no m HPT.out (.inl (by have := HM.out; omega)))
  clear hm hz
  go_wp2_with fail
  go_ret2
  unfold ChainsPost
  exact ⟨HB2.out, [], false, _, rfl, World.ownsRow_nil _ _ _ _, HRC.out⟩
 have dm : (M == 0) = false := beq_eq_false_iff_ne.2 hm
 obtain ⟨m', hm'⟩ : ∃ m', m = m' + 1 := ⟨m - 1, by have := HM.out; omega⟩
 have HIH2 := hid (HIH.out m' hm')
 have HM1 : Hid (M - 1 = m') := hid (by have := HM.out; omega)
 have hM1 : 1 ≤ M := by omega
 obtain ⟨u, hu, hui⟩ := uid_some (C := C) (p := p) (by rw [← HPF.out]; exact hz)
 have HFR : Hid (∀ x, x ∈ fromL D into ↔ x ∈ onL C p) := hid (fun x => by
  have := from_on HSO.out HD.out hu x
  rwa [← hui, ← HPF.out] at this)
 subst hm'
 clear hz hm hu hui HIH
 go_upto_region 9 with fail
 clear p2 d0 dm
 go_loopg [11, 12, 13] (D.length) (fun g v fv iv wr => ∃ (k : Nat) (best : List Int) (f : Bool), k ≤ D.length ∧ g = D.length - k ∧ iv = .int .i64 k ∧ fv = .bool f ∧ Hid (wr.ownsRow W2.heap.size 3 1 v best.length (ints best)) ∧ Hid (RLp C t m' (fromL (D.take k) into) best f) ∧ Hid (Below W2.heap.size W2 wr))
 case atStart => exact ⟨0, [], false, by omega, by omega, rfl, rfl, hid (World.ownsRow_nil _ _ _ _), hid (RLp.start C t m'), hid (Below.refl _ _)⟩
 case round =>
  obtain ⟨k, best, f, hk, hgk, rfl, rfl, hown, hlp, hbw⟩ := hrel
  have hbl := hlp.out.len
  have hml : m' ≤ 1680 := by have := HM1.out; omega
  obtain ⟨Ab, kb, rfl, hxb⟩ := ownsRow.form hown.out
  have HBW := hid (HB2.out.trans (hbw.out.mono HB2.out.size))
  clear hxb
  by_cases hkl : k < D.length
  ·have hrange := rangeAt_kept (HCC.out k hkl) (Kept.of_below HBW.out)
   obtain ⟨r0, r1, _, _⟩ := prange_at hrange
   have hsn : fromL (D.take (k + 1)) into = fromL (D.take k) into ++ if D[k].from_ = into then [D[k].id] else [] := by rw [List.take_succ_eq_append_getElem hkl, fromL_snoc]
   have hri : D[k].id ∈ D.map (·.id) := List.mem_map_of_mem (List.getElem_mem hkl)
   have x2 := (HX2.out.below hbw.out).at_.2.2.1
   rw [HINTO.out] at x2
   obtain ⟨r, hr⟩ : ∃ r, D[k] = r := ⟨_, rfl⟩
   rw [hr] at r0 r1 hsn hri
   have i0 : (0 : Int) ≤ k := by omega
   have i1 : (k : Int) < D.length := by omega
   have HRI := hid hri
   clear hrange hr hri
   by_cases he : r.from_ = into
   rotate_left
   ·have de : (r.from_ != into) = true := bne_iff_ne.2 he
    rw [if_neg he, List.append_nil] at hsn
    have HSN := hid hsn
    clear he hsn r0
    go_upto_region 11 with fail
    go_quiet (fail)
    go_wp2_with fail
    go_roundg (D.length - (k + 1))
    case measure => omega
    case rel => exact ⟨k + 1, best, f, by omega, rfl, by go_num, rfl, hid (own_below hown.out (Below.drewN' (Below.refl _ wr) _)), hid (by rw [HSN.out]; exact hlp.out), hid (Below.drewN' hbw.out _)⟩
   have de : (r.from_ != into) = false := by rw [he]; simp
   rw [if_pos he] at hsn
   have HSN := hid hsn
   have HC : Hid (∀ n, Calls Tryz.prog 57 #[.slice (some ⟨b, off, none⟩) D.length cap, .int .i64 r.id, .int .i64 t, .int .i64 (M - 1)] (wr.drewN n) (ChainsPost C t m' r.id (wr.drewN n))) := hid (fun n => HIH2.out (M - 1) r.id (wr.drewN n) HM1.out (by omega) HRI.out (HA.out.kept (Kept.of_below (Below.drewN' HBW.out n))))
   have HR0 : Hid (∀ n, (wr.drewN n).cell? ⟨b, off + k * 12, none⟩ = some (.int .i64 r.id)) := hid (fun n => Kept.of_below (Below.drewN' (Below.refl _ wr) n) _ _ r0)
   clear he hsn r0
   go_upto_region 11 with fail
   go_quiet (fail)
   have hr0 := HR0.out nq
   have HC1 := hid (HC.out nq)
   clear HC HR0 r1 x2
   go_wp2_with fail
   refine HC1.out.mono ?_
   rintro e w5 ⟨hb5, xs, ok, v5, rfl, ho5, hrc⟩
   obtain ⟨A5, k5, rfl, hx5⟩ := ownsRow.form ho5
   have HB5 := hid ((Below.drewN' hbw.out nq).trans (hb5.mono (Below.drewN' hbw.out nq).size))
   have HO5 := hid (own_lo (base' := W2.heap.size) ho5 (Below.drewN' hbw.out nq).size)
   have HOB := hid (own_below (own_below hown.out (Below.drewN' (Below.refl _ wr) nq)) hb5)
   have hxl := hrc.len
   clear hb5 ho5 hx5 HC1
   rcases ok with _ | _
   ·have HLP := hid (hlp.out.keep hrc (.inl rfl))
    clear hrc
    go_wp2_with fail
    go_roundg (D.length - (k + 1))
    case measure => omega
    case rel => exact ⟨k + 1, best, f, by omega, rfl, by go_num, rfl, HOB, hid (by rw [HSN.out]; exact HLP.out), HB5⟩
   rcases f with _ | _
   ·have HLP := hid (hlp.out.take hrc (.inl rfl))
    clear hrc
    go_wp2_with fail
    go_roundg (D.length - (k + 1))
    case measure => omega
    case rel => exact ⟨k + 1, xs, true, by omega, rfl, by go_num, rfl, HO5, hid (by rw [HSN.out]; exact HLP.out), HB5⟩
   have HLS := hid (less_any A5 k5 xs Ab kb best w5 (by omega) (by omega) (ownsRow_ints HO5.out) (ownsRow_ints HOB.out))
   rcases hlb : lessB xs best with _ | _
   ·have HLP := hid (hlp.out.keep hrc (.inr ⟨rfl, hlb⟩))
    rw [hlb] at HLS
    clear hrc hlb
    go_wp2_with fail
    refine HLS.out.mono ?_
    rintro e w6 ⟨rfl, hb6⟩
    have HB6 := hid (HB5.out.trans (hb6.mono HB5.out.size))
    have HOB6 := hid (own_below HOB.out hb6)
    clear hb6 HLS
    go_wp2_with fail
    go_roundg (D.length - (k + 1))
    case measure => omega
    case rel => exact ⟨k + 1, best, true, by omega, rfl, by go_num, rfl, HOB6, hid (by rw [HSN.out]; exact HLP.out), HB6⟩
   ·have HLP := hid (hlp.out.take hrc (.inr hlb))
    rw [hlb] at HLS
    clear hrc hlb
    go_wp2_with fail
    refine HLS.out.mono ?_
    rintro e w6 ⟨rfl, hb6⟩
    have HB6 := hid (HB5.out.trans (hb6.mono HB5.out.size))
    have HO6 := hid (own_below HO5.out hb6)
    clear hb6 HLS
    go_wp2_with fail
    go_roundg (D.length - (k + 1))
    case measure => omega
    case rel => exact ⟨k + 1, xs, true, by omega, rfl, by go_num, rfl, HO6, hid (by rw [HSN.out]; exact HLP.out), HB6⟩
  ·obtain rfl : k = D.length := by omega
   have hl2 := hlp.out
   rw [List.take_length] at hl2
   have HRC : Hid (RCh C t (m' + 1) p (into :: best) f) := hid (by
    have := hl2.ends HPT.out HFR.out
    rwa [← HPF.out] at this)
   have x2 := (HX2.out.below hbw.out).at_.2.2.1
   rw [HINTO.out] at x2
   obtain ⟨v9, w9, hr9, ho9, hg9⟩ := app_ints (base := wr.heap.size) (xs := [into]) (ys := best) (A := Ab) (c := kb) (World.ownsRow_lit wr #[.int .i64 into] 1 (Nat.le_refl _) (by decide) rfl) ((ownsRow_ints hown.out).kept (Kept.of_below ((Below.refl _ wr).alloc (Nat.le_refl _) _))) (by simp only [List.length_singleton]; omega) (by simp)
   have HR9 := hid hr9
   have HO9 := hid (own_lo (base' := w.heap.size) ho9 HBW.out.size)
   have HB9 := hid (HBW.out.trans ((((Below.refl _ wr).alloc (Nat.le_refl _) (.cells #[.int .i64 into] 3)).grown hg9 (by simp) (fun j e => by cases e; exact Nat.le_refl _)).mono HBW.out.size))
   clear hl2 hr9 ho9 hg9
   go_wp2_with (first | (at_builtin; refine wpList_app rfl rfl rfl rfl rfl HR9.out ?_))
   go_ret2
   unfold ChainsPost
   exact ⟨HB9.out, into :: best, f, _, rfl, HO9.out, HRC.out⟩
theorem chains_any {C : List Ent} (hs : Sound (reps C)) {D : List Pcl} (hD : PclsOf C D) (hdl : D.length ≤ 1680) (A : Option Addr) (cap : Nat) (t : Int) (m : Nat) : ∀ (M p : Int) (w : World), M = m → M ≤ 1680 → p ∈ D.map (·.id) → PclsAt w A D →
  Calls Tryz.prog 57 #[.slice A D.length cap, .int .i64 p, .int .i64 t, .int .i64 M] w (ChainsPost C t m p w) := by
 induction m with
 | zero => exact chains_step hs hD hdl A cap t 0 (fun m' h => by omega)
 | succ m ih => exact chains_step hs hD hdl A cap t (m + 1) (fun m' h => by
   obtain rfl : m = m' := by omega
   exact ih)
def RChainPost (L : List Ent) (K a b : Int) (w : World) (e : Ending) (w' : World) : Prop :=
 Below w.heap.size w w' ∧ ((∃ en, FailsBy L K [a, b] en ∧ e = .returned (.tuple #[.slice none 0 0, .int .i64 en])) ∨
  (Valid (reps L) ∧ ∃ D, PclsOf (countE L K) D ∧ a ∈ D.map (·.id) ∧ b ∈ D.map (·.id) ∧ (((¬ ∃ l, Ch (countE L K) b l a) ∧ e = .returned (.tuple #[.slice none 0 0, .int .i64 5])) ∨
   ∃ xs v, Best (countE L K) b xs a ∧ e = .returned (.tuple #[v, .int .i64 0]) ∧ w'.ownsRow w.heap.size 3 1 v xs.length (ints xs))))
set_option maxHeartbeats 16000000 in
theorem rchain_any (A : Option Addr) (cap : Nat) (L : List Ent) (K a b : Int) (w : World) (hA : EntsAt w A L) (hl : L.length ≤ 210) (hcap : L.length ≤ cap) (hz : ∀ e ∈ L, e.1.mark.size ≤ 1000000 ∧ e.1.goods.size ≤ 1000000) :
  Calls Tryz.prog 17 #[.slice A L.length cap, .int .i64 K, .int .i64 a, .int .i64 b] w (RChainPost L K a b w) := by
 have HPA := hid (rpair_any A cap L K a b w hA hl hcap hz)
 clear hA hz
 go_enter Tryz.func17, Tryz.ntmps17
 go_wp2_with fail
 refine HPA.out.mono ?_
 rintro e w1 ⟨hb1, hcase⟩
 have HB1 := hid hb1
 rcases hcase with ⟨en, hf, rfl⟩ | ⟨hv, D, v, hpo, hia, hib, rfl, ho⟩
 ·have d0 : (en != 0) = true := bne_iff_ne.2 hf.ne
  have HF := hid hf
  clear hb1 hf
  go_wp2_with fail
  go_ret2
  unfold RChainPost
  exact ⟨HB1.out, .inl ⟨en, HF.out, rfl⟩⟩
 obtain ⟨A1, k1, rfl, hx1⟩ := ownsRow.form ho
 have hsound : Sound (reps (countE L K)) := by rw [countE_reps]; exact hv.sound K
 have hdl : D.length ≤ 1680 := by have := hpo.len; have := countE_len L K; omega
 have HCH := hid (chains_any hsound hpo hdl A1 k1 b D.length D.length a w1 rfl (by omega) hia (pcls_of_cells hx1.1))
 have HPO := hid hpo
 have HV := hid hv
 have HIA := hid (And.intro hia hib)
 have HSO := hid hsound
 clear hx1 ho hb1 hpo hv hia hib hsound HPA
 go_wp2_with fail
 refine HCH.out.mono ?_
 rintro e w2 ⟨hb2, xs, f, v2, rfl, ho2, hrc⟩
 have HB2 := hid (HB1.out.trans (hb2.mono HB1.out.size))
 have HO2 := hid (own_lo (base' := w.heap.size) ho2 HB1.out.size)
 rcases hrc with ⟨rfl, hbest, _⟩ | ⟨rfl, _, hno⟩
 ·have HBE := hid hbest
  clear hb2 ho2 hbest HCH
  go_wp2_with fail
  go_ret2
  unfold RChainPost
  exact ⟨HB2.out, .inr ⟨HV.out, D, HPO.out, HIA.out.1, HIA.out.2, .inr ⟨xs, _, HBE.out, rfl, HO2.out⟩⟩⟩
 ·have HNO : Hid (¬ ∃ l, Ch (countE L K) b l a) := hid (fun ⟨l, hl⟩ => by
   have h1 := hno l hl
   have h2 := ch_short HSO.out HPO.out hl HIA.out.1
   omega)
  clear hb2 ho2 hno HCH
  go_wp2_with fail
  go_ret2
  unfold RChainPost
  exact ⟨HB2.out, .inr ⟨HV.out, D, HPO.out, HIA.out.1, HIA.out.2, .inl ⟨HNO.out, rfl⟩⟩⟩
end Go.Proofs.YtfaoillnakhejaaGreat
