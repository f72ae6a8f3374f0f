/- Lists of moves: what they lead to, and that Chain's reckoning finds the first shortest one (plain); CheckChain; Origins, remains and lists of moves agree (plain). -/
import Derived.Test.YtfaoillnakhejaaGreatH24
import Derived.Test.YtfaoillnakhejaaGreatH9
import Derived.Test.YtfaoillnakhejaaGreatH29
namespace Go.Proofs.YtfaoillnakhejaaGreat
set_option maxRecDepth 100000
open Go.RowKit
/-- A list of moves leads from a parcel to another one. -/
def Ch (C : List Ent) (t : Int) : List Int → Int → Prop
 | [], p => p = t
 | m :: l, p => uidF C p = m ∧ ∃ q ∈ onL C p, Ch C t l q
theorem onL_some {C : List Ent} {p q : Int} (h : q ∈ onL C p) : ∃ u, userE C p = some u ∧ u ∈ C ∧ p ∈ u.1.uses ∧ q ∈ u.1.makes ∧ uidF C p = u.1.id := by
 unfold onL at h
 rcases hu : userE C p with _ | u
 ·rw [hu] at h
  simp at h
 ·rw [hu] at h
  obtain ⟨h1, h2⟩ := userE_some hu
  exact ⟨u, rfl, h1, h2, h, by unfold uidF; rw [hu]; rfl⟩
theorem in_reps {C : List Ent} {e : Ent} (h : e ∈ C) : e.1 ∈ reps C := List.mem_map_of_mem (f := Prod.fst) h
theorem no_uses {r : Rep} (h : r.kind = 1) : r.uses = [] := by unfold Rep.uses; rw [if_neg (by omega), if_neg (by omega), if_neg (by omega)]
theorem back_on {C : List Ent} (hs : Sound (reps C)) {p q : Int} : q ∈ backL C p ↔ p ∈ onL C q := by
 constructor
 ·intro h
  unfold backL at h
  split at h
  ·simp at h
  ·rcases hm : makerE C p with _ | e
   ·rw [hm] at h
    simp [entOr, zr, Rep.uses] at h
   ·rw [hm] at h
    have h : q ∈ e.1.uses := h
    obtain ⟨h1, h2⟩ := makerE_some hm
    unfold onL
    rcases hu : userE C q with _ | u
    ·exact absurd h (userE_none hu e h1)
    ·obtain ⟨h3, h4⟩ := userE_some hu
     show p ∈ u.1.makes
     rw [hs.user (in_reps h3) (in_reps h1) h4 h]
     exact h2
 ·intro h
  obtain ⟨u, hu, h1, h2, h3, _⟩ := onL_some h
  unfold backL
  rcases hm : makerE C p with _ | e
  ·exact absurd h3 (makerE_none hm u h1)
  ·obtain ⟨h4, h5⟩ := makerE_some hm
   have h6 := hs.maker (in_reps h4) (in_reps h1) h5 h3
   show q ∈ if e.1.kind = 1 then [] else e.1.uses
   rw [h6, if_neg (fun h7 => by rw [no_uses h7] at h2; simp at h2)]
   exact h2
theorem ch_rank {C : List Ent} (hs : Sound (reps C)) {t : Int} : ∀ {l : List Int} {p : Int}, Ch C t l p → l.length + rankO C t ≤ rankO C p
 | [], p, h => by
  have h : p = t := h
  subst h
  simp
 | m :: l, p, ⟨_, q, hq, h⟩ => by
  have h1 := ch_rank hs h
  have h2 := rank_on hs p q hq
  simp only [List.length_cons]
  omega
theorem ch_len {C : List Ent} (hs : Sound (reps C)) {t : Int} {l : List Int} {p : Int} (h : Ch C t l p) : l.length ≤ C.length := by
 have h1 := ch_rank hs h
 have h2 : rankO C p ≤ C.length := Nat.sub_le _ _
 omega
theorem reach_more {nx : Int → List Int} {p x q : Int} (h : Reach nx p x) : q ∈ nx x → Reach nx p q := by
 induction h with
 | refl => exact fun hq => .step hq (.refl _)
 | step hx _ ih => exact fun hq => .step hx (ih hq)
theorem ch_reach {C : List Ent} {t p : Int} : (∃ l, Ch C t l p) ↔ Reach (onL C) p t := by
 constructor
 ·rintro ⟨l, h⟩
  induction l generalizing p with
  | nil =>
   have h : p = t := h
   subst h
   exact .refl _
  | cons m l ih =>
   obtain ⟨_, q, hq, h⟩ := h
   exact .step hq (ih h)
 ·intro h
  induction h with
  | refl => exact ⟨[], rfl⟩
  | step hx _ ih =>
   obtain ⟨l, hl⟩ := ih
   exact ⟨_ :: l, rfl, _, hx, hl⟩
theorem reach_back {C : List Ent} (hs : Sound (reps C)) {f p : Int} : Reach (onL C) f p ↔ Reach (backL C) p f := by
 constructor
 ·intro h
  induction h with
  | refl => exact .refl _
  | step hx _ ih => exact reach_more ih ((back_on hs).2 hx)
 ·intro h
  induction h with
  | refl => exact .refl _
  | step hx _ ih => exact reach_more ih ((back_on hs).1 hx)
/-! ### The search for how far a parcel is -/
/-- While what lies behind p is looked at. -/
structure Bp (C : List Ent) (t p : Int) (seen row : List Int) (far : Much) : Prop where
 start : far t = some 0
 chain : ∀ q d, far q = some d → ∃ l : List Int, (l.length : Int) = d ∧ Ch C t l q
 here : (far p).isSome = true
 inrow : ∀ q ∈ row, (far q).isSome = true
 near : ∀ x, (far x).isSome = true → x ∉ row → x ≠ p → ∀ q ∈ backL C x, ∃ d, far q = some d ∧ d ≤ mAt far x + 1
 nearp : ∀ q ∈ seen, ∃ d, far q = some d ∧ d ≤ mAt far p + 1
 sorted : row.Pairwise fun a b => mAt far a ≤ mAt far b
 lo : ∀ q ∈ row, mAt far p ≤ mAt far q
 last : ∀ q, (far q).isSome = true → mAt far q ≤ mAt far p + 1
/-- Between two parcels. -/
structure Bf (C : List Ent) (t : Int) (row : List Int) (far : Much) : Prop where
 start : far t = some 0
 chain : ∀ q d, far q = some d → ∃ l : List Int, (l.length : Int) = d ∧ Ch C t l q
 inrow : ∀ q ∈ row, (far q).isSome = true
 near : ∀ x, (far x).isSome = true → x ∉ row → ∀ q ∈ backL C x, ∃ d, far q = some d ∧ d ≤ mAt far x + 1
 sorted : row.Pairwise fun a b => mAt far a ≤ mAt far b
 last : ∀ p r, row = p :: r → ∀ q, (far q).isSome = true → mAt far q ≤ mAt far p + 1
theorem some_of {f : Much} {q : Int} (h : (f q).isSome = true) : f q = some (mAt f q) := by
 obtain ⟨d, hd⟩ := Option.isSome_iff_exists.1 h
 unfold mAt
 rw [hd]
 rfl
theorem mAt_of {f : Much} {q d : Int} (h : f q = some d) : mAt f q = d := by unfold mAt; rw [h]; rfl
theorem Bf.pop {C : List Ent} {t p : Int} {row : List Int} {far : Much} (h : Bf C t (p :: row) far) : Bp C t p [] row far where
 start := h.start
 chain := h.chain
 here := h.inrow p (by simp)
 inrow := fun q hq => h.inrow q (by simp [hq])
 near := fun x hx hr hp q hq => h.near x hx (by simp [hr, hp]) q hq
 nearp := by simp
 sorted := (List.pairwise_cons.1 h.sorted).2
 lo := (List.pairwise_cons.1 h.sorted).1
 last := h.last p row rfl
theorem Bp.done {C : List Ent} {t p : Int} {row : List Int} {far : Much} (h : Bp C t p (backL C p) row far) : Bf C t row far where
 start := h.start
 chain := h.chain
 inrow := h.inrow
 near := fun x hx hr q hq => by
  by_cases e : x = p
  ·subst e
   exact h.nearp q hq
  ·exact h.near x hx hr e q hq
 sorted := h.sorted
 last := fun a r e q hq => by
  have h1 := h.last q hq
  have h2 := h.lo a (by rw [e]; simp)
  omega
theorem Bp.old {C : List Ent} {t p q : Int} {seen row : List Int} {far : Much} (h : Bp C t p seen row far) (hq : (far q).isSome = true) : Bp C t p (seen ++ [q]) row far :=
 { h with
  nearp := fun y hy => by
   rcases List.mem_append.1 hy with hy | hy
   ·exact h.nearp y hy
   ·rw [List.mem_singleton] at hy
    subst hy
    exact ⟨_, some_of hq, h.last y hq⟩ }
theorem Bp.new {C : List Ent} (hs : Sound (reps C)) {t p q : Int} {seen row : List Int} {far : Much} (h : Bp C t p seen row far) (hq : far q = none) (hb : q ∈ backL C p) :
  Bp C t p (seen ++ [q]) (row ++ [q]) (setAt far q (mAt far p + 1)) := by
 have hne : ∀ x, (far x).isSome = true → x ≠ q := fun x hx e => by rw [e, hq] at hx; cases hx
 have hsame : ∀ x, x ≠ q → setAt far q (mAt far p + 1) x = far x := fun x hx => by unfold setAt; rw [if_neg hx]
 have hset : setAt far q (mAt far p + 1) q = some (mAt far p + 1) := by unfold setAt; rw [if_pos rfl]
 have hm : ∀ x, x ≠ q → mAt (setAt far q (mAt far p + 1)) x = mAt far x := fun x hx => by
  show (setAt far q (mAt far p + 1) x).getD 0 = (far x).getD 0
  rw [hsame x hx]
 have hmq : mAt (setAt far q (mAt far p + 1)) q = mAt far p + 1 := mAt_of hset
 have hp := hne p h.here
 have hkeep : ∀ x d, far x = some d → setAt far q (mAt far p + 1) x = some d := fun x d hx => by rw [hsame x (hne x (by rw [hx]; rfl)), hx]
 have hin : ∀ x, (setAt far q (mAt far p + 1) x).isSome = true → x ≠ q → (far x).isSome = true := fun x hx e => by rwa [hsame x e] at hx
 refine ⟨hkeep _ _ h.start, fun x d hx => ?_, ?_, fun x hx => ?_, fun x hx hr hxp y hy => ?_, fun y hy => ?_, ?_, fun x hx => ?_, fun x hx => ?_⟩
 ·by_cases e : x = q
  ·subst e
   rw [hset] at hx
   cases hx
   obtain ⟨l, hl, hc⟩ := h.chain p _ (some_of h.here)
   exact ⟨uidF C x :: l, by simp only [List.length_cons]; omega, rfl, p, (back_on hs).1 hb, hc⟩
  ·rw [hsame x e] at hx
   exact h.chain x d hx
 ·rw [hsame p hp]
  exact h.here
 ·rcases List.mem_append.1 hx with hx | hx
  ·rw [hsame x (hne x (h.inrow x hx))]
   exact h.inrow x hx
  ·rw [List.mem_singleton] at hx
   subst hx
   rw [hset]
   rfl
 ·have hxq : x ≠ q := fun e => hr (by simp [e])
  obtain ⟨d, h1, h2⟩ := h.near x (hin x hx hxq) (fun h2 => hr (by simp [h2])) hxp y hy
  exact ⟨d, hkeep _ _ h1, by rw [hm x hxq]; exact h2⟩
 ·rw [hm p hp]
  rcases List.mem_append.1 hy with hy | hy
  ·obtain ⟨d, h1, h2⟩ := h.nearp y hy
   exact ⟨d, hkeep _ _ h1, h2⟩
  ·rw [List.mem_singleton] at hy
   subst hy
   exact ⟨_, hset, Int.le_refl _⟩
 ·rw [List.pairwise_append]
  refine ⟨h.sorted.imp_of_mem (fun ha hb hab => by rw [hm _ (hne _ (h.inrow _ ha)), hm _ (hne _ (h.inrow _ hb))]; exact hab), by simp, fun a ha b hb2 => ?_⟩
  rw [List.mem_singleton] at hb2
  subst hb2
  rw [hm a (hne a (h.inrow a ha)), hmq]
  exact h.last a (h.inrow a ha)
 ·rw [hm p hp]
  rcases List.mem_append.1 hx with hx | hx
  ·rw [hm x (hne x (h.inrow x hx))]
   exact h.lo x hx
  ·rw [List.mem_singleton] at hx
   subst hx
   rw [hmq]
   omega
 ·rw [hm p hp]
  by_cases e : x = q
  ·subst e
   rw [hmq]
   exact Int.le_refl _
  ·rw [hm x e]
   exact h.last x (hin x hx e)
abbrev allP (C : List Ent) : List Int := C.flatMap fun e => e.1.makes
/-- How many parcels are not reached. -/
def leftN (C : List Ent) (far : Much) : Nat := ((allP C).filter fun q => !(far q).isSome).length
theorem left_less {C : List Ent} {far : Much} {q d : Int} (hq : far q = none) (hin : q ∈ allP C) : leftN C (setAt far q d) + 1 ≤ leftN C far := by
 have key : ∀ (l : List Int), (l.filter fun x => !(setAt far q d x).isSome).length ≤ (l.filter fun x => !(far x).isSome).length ∧ (q ∈ l → (l.filter fun x => !(setAt far q d x).isSome).length + 1 ≤ (l.filter fun x => !(far x).isSome).length) := by
  intro l
  induction l with
  | nil => simp
  | cons a l ih =>
   by_cases e : a = q
   ·subst e
    have e1 : (setAt far a d a).isSome = true := by unfold setAt; rw [if_pos rfl]; rfl
    have f1 : ((a :: l).filter fun x => !(setAt far a d x).isSome) = l.filter fun x => !(setAt far a d x).isSome := by rw [List.filter_cons, e1]; rfl
    have f2 : ((a :: l).filter fun x => !(far x).isSome) = a :: l.filter fun x => !(far x).isSome := by rw [List.filter_cons, hq]; rfl
    rw [f1, f2]
    simp only [List.length_cons]
    have := ih.1
    exact ⟨by omega, fun _ => by omega⟩
   ·have e1 : (setAt far q d a) = far a := by unfold setAt; rw [if_neg e]
    simp only [List.filter_cons, e1]
    have e2 : ¬ q = a := fun e2 => e e2.symm
    by_cases e3 : (!(far a).isSome) = true
    ·rw [if_pos e3, if_pos e3]
     simp only [List.length_cons, List.mem_cons, e2, false_or]
     have := ih.1
     exact ⟨by omega, fun h => by have := ih.2 h; omega⟩
    ·rw [if_neg e3, if_neg e3]
     simp only [List.mem_cons, e2, false_or]
     exact ih
 exact (key (allP C)).2 hin
theorem back_all {C : List Ent} (hs : Sound (reps C)) {p q : Int} (hp : p ∈ allP C) (hq : q ∈ backL C p) : q ∈ allP C :=
 made_isSome.1 (back_made hs (.step hq (.refl _)) (made_isSome.2 hp))
theorem far_few {C : List Ent} (hs : Sound (reps C)) {t q d : Int} {far : Much} (h : ∀ q d, far q = some d → ∃ l : List Int, (l.length : Int) = d ∧ Ch C t l q) (hq : far q = some d) : 0 ≤ d ∧ d ≤ C.length := by
 obtain ⟨l, hl, hc⟩ := h q d hq
 have := ch_len hs hc
 omega
theorem push_ok {C : List Ent} (hs : Sound (reps C)) (hC : C.length ≤ 100) {t p : Int} (hp : p ∈ allP C) {N : Nat} (hN : N ≤ 1000) : ∀ (qs seen row : List Int) (far : Much), (∀ q ∈ qs, q ∈ backL C p) → Bp C t p seen row far → (∀ x ∈ row, x ∈ allP C) → row.length + leftN C far ≤ N →
  ∃ row' far', pushF p qs row far = some (row', far') ∧ Bp C t p (seen ++ qs) row' far' ∧ (∀ x ∈ row', x ∈ allP C) ∧ row'.length + leftN C far' ≤ N
 | [], seen, row, far, _, h, hr, hn => ⟨row, far, rfl, by simpa using h, hr, hn⟩
 | q :: qs, seen, row, far, hq, h, hr, hn => by
  have hqb := hq q (by simp)
  unfold pushF
  by_cases hf : (far q).isSome = true
  ·rw [if_pos hf]
   have := push_ok hs hC hp hN qs (seen ++ [q]) row far (fun x hx => hq x (by simp [hx])) (h.old hf) hr hn
   simpa using this
  ·have hnone : far q = none := by simpa using hf
   have hqa := back_all hs hp hqb
   have hl := left_less (d := mAt far p + 1) hnone hqa
   have hd := far_few hs h.chain (some_of h.here)
   rw [if_neg hf, if_pos ⟨by omega, hd.1, by omega⟩]
   have := push_ok hs hC hp hN qs (seen ++ [q]) (row ++ [q]) (setAt far q (mAt far p + 1)) (fun x hx => hq x (by simp [hx])) (h.new hs hnone hqb) (fun x hx => by
    rcases List.mem_append.1 hx with hx | hx
    ·exact hr x hx
    ·rw [List.mem_singleton] at hx
     subst hx
     exact hqa) (by simp only [List.length_append, List.length_singleton]; omega)
   simpa using this
theorem bfs_ok {C : List Ent} (hs : Sound (reps C)) (hC : C.length ≤ 100) {t : Int} : ∀ (n : Nat) (row : List Int) (far : Much), Bf C t row far → (∀ x ∈ row, x ∈ allP C) → row.length + leftN C far ≤ n → n ≤ 1000 → ∀ k, n ≤ k → ∃ F, bfsF C k row far = some F ∧ Bf C t [] F
 | n, [], far, h, _, _, _, k, _ => ⟨far, by cases k <;> rfl, h⟩
 | 0, p :: row, far, _, _, hn, _, _, _ => by simp only [List.length_cons] at hn; omega
 | n + 1, p :: row, far, h, hr, hn, hk, k, hnk => by
  obtain ⟨k, rfl⟩ : ∃ j, k = j + 1 := ⟨k - 1, by omega⟩
  simp only [List.length_cons] at hn
  obtain ⟨row', far', e, h1, h2, h3⟩ := push_ok hs hC (hr p (by simp)) (N := n) (by omega) (backL C p) [] row far (fun _ h => h) h.pop (fun x hx => hr x (by simp [hx])) (by omega)
  obtain ⟨F, hF, hb⟩ := bfs_ok hs hC n row' far' (by simpa using h1.done) h2 h3 (by omega) k (by omega)
  refine ⟨F, ?_, hb⟩
  show (match pushF p (backL C p) row far with | none => none | some (row', far') => bfsF C k row' far') = _
  rw [e]
  exact hF
/-- How far each parcel is from the last one. -/
structure Far (C : List Ent) (t : Int) (F : Much) : Prop where
 ok : ∀ q d, F q = some d → ∃ l : List Int, (l.length : Int) = d ∧ Ch C t l q
 le : ∀ (l : List Int) q, Ch C t l q → ∃ d, F q = some d ∧ d ≤ l.length
theorem Bf.far {C : List Ent} (hs : Sound (reps C)) {t : Int} {F : Much} (h : Bf C t [] F) : Far C t F := ⟨h.chain, fun l => by
 induction l with
 | nil =>
  intro q hq
  have hq : q = t := hq
  subst hq
  exact ⟨0, h.start, by simp⟩
 | cons m l ih =>
  rintro q ⟨_, x, hx, hc⟩
  obtain ⟨d, hd, hle⟩ := ih x hc
  obtain ⟨d2, hd2, hle2⟩ := h.near x (by rw [hd]; rfl) (by simp) q ((back_on hs).2 hx)
  rw [mAt_of hd] at hle2
  exact ⟨d2, hd2, by simp only [List.length_cons]; omega⟩⟩
theorem allP_len {C : List Ent} (hs : Sound (reps C)) : (allP C).length ≤ 8 * C.length := by
 have : ∀ L : List Ent, (∀ e ∈ L, e.1.Wf) → (L.flatMap fun e => e.1.makes).length ≤ 8 * L.length := by
  intro L
  induction L with
  | nil => simp
  | cons a L ih =>
   intro h
   have h1 := makes_len _ (h a (by simp))
   have h2 := ih (fun e he => h e (by simp [he]))
   simp only [List.flatMap_cons, List.length_append, List.length_cons]
   omega
 exact this C fun e he => hs.wfs e.1 (in_reps he)
theorem far_ok {C : List Ent} (hs : Sound (reps C)) (hC : C.length ≤ 100) {t : Int} (ht : t ∈ allP C) : ∃ F, bfsF C 2000 [t] (fun q => if q = t then some 0 else none) = some F ∧ Far C t F := by
 have h0 : Bf C t [t] (fun q => if q = t then some 0 else none) := by
  have hs : ∀ q, ((fun q => if q = t then some (0 : Int) else none) q).isSome = true → q = t := fun q hq => by
   by_cases e : q = t
   ·exact e
   ·simp [e] at hq
  refine ⟨by simp, fun q d hq => ?_, fun q hq => ?_, fun x hx hr => ?_, by simp, fun p r e q hq => ?_⟩
  ·by_cases e : q = t
   ·subst e
    simp at hq
    subst hq
    exact ⟨[], rfl, rfl⟩
   ·simp [e] at hq
  ·rw [List.mem_singleton] at hq
   subst hq
   simp
  ·exact absurd (List.mem_singleton.2 (hs x hx)) hr
  ·cases e
   rw [hs q hq]
   omega
 have hlen : leftN C (fun q => if q = t then some 0 else none) ≤ (allP C).length := List.length_filter_le _ _
 have h1 := allP_len hs
 obtain ⟨F, hF, hb⟩ := bfs_ok hs hC 1000 [t] _ h0 (fun x hx => by rw [List.mem_singleton] at hx; subst hx; exact ht) (by simp only [List.length_singleton]; omega) (Nat.le_refl _) 2000 (by omega)
 exact ⟨F, hF, hb.far hs⟩
/-! ### The first of the shortest lists -/
/-- Of two lists that are as long the first one. -/
def lexL : List Int → List Int → Prop
 | a :: l, b :: m => a < b ∨ (a = b ∧ lexL l m)
 | [], _ => True
 | _ :: _, [] => False
theorem lex_anti : ∀ {l m : List Int}, l.length = m.length → lexL l m → lexL m l → l = m
 | [], [], _, _, _ => rfl
 | [], _ :: _, h, _, _ => by simp at h
 | _ :: _, [], h, _, _ => by simp at h
 | a :: l, b :: m, h, h1, h2 => by
  rcases h1 with h1 | ⟨rfl, h1⟩
  ·rcases h2 with h2 | ⟨rfl, _⟩
   ·omega
   ·omega
  ·rcases h2 with h2 | ⟨_, h2⟩
   ·omega
   ·rw [lex_anti (by simpa using h) h1 h2]
structure Best (C : List Ent) (t : Int) (l : List Int) (p : Int) : Prop where
 ch : Ch C t l p
 short : ∀ l', Ch C t l' p → l.length ≤ l'.length
 first : ∀ l', Ch C t l' p → l'.length = l.length → lexL l l'
theorem Best.same {C : List Ent} {t p : Int} {l m : List Int} (h : Best C t l p) (k : Best C t m p) : l = m := by
 have e : l.length = m.length := by have := h.short m k.ch; have := k.short l h.ch; omega
 exact lex_anti e (h.first m k.ch e.symm) (k.first l h.ch e)
theorem Far.next {C : List Ent} {t : Int} {F : Much} (h : Far C t F) {p q : Int} {d : Nat} (hp : F p = some ((d : Int) + 1)) (hq : q ∈ onL C p) {l : List Int} (hl : Ch C t l q) (he : l.length = d) : F q = some (d : Int) := by
 obtain ⟨d1, h1, h2⟩ := h.le l q hl
 obtain ⟨l2, h3, h4⟩ := h.ok q d1 h1
 obtain ⟨d3, h5, h6⟩ := h.le (uidF C p :: l2) p ⟨rfl, q, hq, h4⟩
 rw [hp] at h5
 cases h5
 simp only [List.length_cons] at h6
 rw [h1]
 congr 1
 omega
theorem steps_ok {C : List Ent} (hs : Sound (reps C)) {t : Int} {F : Much} (h : Far C t F) : ∀ (d n : Nat) (hl ol : List Int), d < n → hl ≠ [] → (∀ p ∈ hl, F p = some (d : Int)) → ol.length + d ≤ 1000 → d ≤ 1000 →
  ∃ m, stepsF C F n hl ol = some (ol ++ m) ∧ m.length = d ∧ (∃ p ∈ hl, Ch C t m p) ∧ ∀ p ∈ hl, ∀ l', Ch C t l' p → l'.length = d → lexL m l'
 | 0, n, hl, ol, hn, hne, hF, _, _ => by
  obtain ⟨n, rfl⟩ : ∃ k, n = k + 1 := ⟨n - 1, by omega⟩
  obtain ⟨p, hp⟩ := List.exists_mem_of_ne_nil hl hne
  have h0 := hF p hp
  refine ⟨[], ?_, rfl, ⟨p, hp, ?_⟩, fun _ _ l' _ he => ?_⟩
  ·unfold stepsF
   rw [if_pos (List.any_eq_true.2 ⟨p, hp, by rw [mAt_of h0]; rfl⟩), List.append_nil]
  ·obtain ⟨l, h1, h2⟩ := h.ok p _ h0
   have : l = [] := List.length_eq_zero_iff.1 (by simpa using h1)
   subst this
   exact h2
  ·unfold lexL
   trivial
 | d + 1, n, hl, ol, hn, hne, hF, hol, hd => by
  obtain ⟨n, rfl⟩ : ∃ k, n = k + 1 := ⟨n - 1, by omega⟩
  have hF : ∀ p ∈ hl, F p = some ((d : Int) + 1) := fun p hp => by have := hF p hp; simpa using this
  have hstep : ∀ p ∈ hl, ∃ l, l.length = d + 1 ∧ Ch C t l p := fun p hp => by
   obtain ⟨l, h1, h2⟩ := h.ok p _ (hF p hp)
   exact ⟨l, by omega, h2⟩
  have huid : ∀ p ∈ hl, 1 ≤ uidF C p := fun p hp => by
   obtain ⟨l, h1, h2⟩ := hstep p hp
   rcases l with _ | ⟨m, l⟩
   ·simp at h1
   ·obtain ⟨_, q, hq, _⟩ := h2
    obtain ⟨u, _, hu, _, _, he⟩ := onL_some hq
    rw [he]
    exact (hs.wfs _ (in_reps hu)).id.1
  obtain ⟨b1, b2, _, _, _⟩ := best_is hl 0 (Int.le_refl _) huid
  have hbp : ∃ p ∈ hl, bestF C hl = uidF C p := by
   rcases b1 with e | h1
   ·obtain ⟨p, hp⟩ := List.exists_mem_of_ne_nil hl hne
    have h1 := b2 p hp
    have := (best_is hl 0 (Int.le_refl _) huid).2.2.2.1 rfl hne
    omega
   ·exact h1
  have hnx : ∀ p ∈ hl, uidF C p = bestF C hl → ∀ q ∈ onL C p, ∀ l', Ch C t l' q → l'.length = d → q ∈ nextF C F hl (bestF C hl) := fun p hp hu q hq l' hl' he => by
   unfold nextF
   rw [List.mem_flatMap]
   refine ⟨p, List.mem_filter.2 ⟨hp, decide_eq_true hu⟩, ?_⟩
   unfold onNext
   rw [List.mem_filter]
   refine ⟨hq, decide_eq_true ?_⟩
   rw [mAt_of (hF p hp), h.next (hF p hp) hq hl' he]
   congr 1
   omega
  have hne2 : nextF C F hl (bestF C hl) ≠ [] := by
   obtain ⟨p, hp, hb⟩ := hbp
   obtain ⟨l, h1, h2⟩ := hstep p hp
   rcases l with _ | ⟨m, l⟩
   ·simp at h1
   ·obtain ⟨_, q, hq, h3⟩ := h2
    exact List.ne_nil_of_mem (hnx p hp hb.symm q hq l h3 (by simpa using h1))
  have hnp : ∀ q ∈ nextF C F hl (bestF C hl), F q = some (d : Int) ∧ ∃ p ∈ hl, uidF C p = bestF C hl ∧ q ∈ onL C p := fun q hq => by
   unfold nextF at hq
   rw [List.mem_flatMap] at hq
   obtain ⟨p, hp, hq⟩ := hq
   obtain ⟨hp, hu⟩ := List.mem_filter.1 hp
   unfold onNext at hq
   obtain ⟨hq, hf⟩ := List.mem_filter.1 hq
   have hf := of_decide_eq_true hf
   rw [mAt_of (hF p hp)] at hf
   exact ⟨by rw [hf]; congr 1; omega, p, hp, of_decide_eq_true hu, hq⟩
  obtain ⟨m, e1, e2, ⟨q, hq, e3⟩, e4⟩ := steps_ok hs h d n (nextF C F hl (bestF C hl)) (ol ++ [bestF C hl]) (by omega) hne2 (fun q hq => (hnp q hq).1) (by simp only [List.length_append, List.length_singleton]; omega) (by omega)
  refine ⟨bestF C hl :: m, ?_, by simp [e2], ?_, ?_⟩
  ·unfold stepsF
   have hany : hl.any (fun p => decide (mAt F p = 0)) = false := List.any_eq_false.2 (fun p hp => by rw [mAt_of (hF p hp)]; simp; omega)
   have hall : hl.all (goodH C F) = true := List.all_eq_true.2 (fun p hp => by
    unfold goodH
    rw [mAt_of (hF p hp)]
    simp only [Bool.and_eq_true, decide_eq_true_eq]
    exact ⟨⟨huid p hp, by omega⟩, by omega⟩)
   rw [if_neg (by rw [hany]; decide), if_pos ⟨hall, by omega⟩, e1]
   simp
  ·obtain ⟨_, p, hp, hu, hqp⟩ := hnp q hq
   exact ⟨p, hp, hu, q, hqp, e3⟩
  ·intro p hp l' hl' he
   rcases l' with _ | ⟨a, l'⟩
   ·simp at he
   ·obtain ⟨ha, x, hx, hc⟩ := hl'
    subst ha
    rcases Int.lt_or_eq_of_le (b2 p hp) with h1 | h1
    ·exact .inl h1
    ·exact .inr ⟨h1, e4 x (hnx p hp h1.symm x hx l' hc (by simpa using he)) l' hc (by simpa using he)⟩
/-- Chain's reckoning: the first of the shortest lists, if there is one. -/
theorem chain_ok {C : List Ent} (hs : Sound (reps C)) (hC : C.length ≤ 100) {a t : Int} (ht : t ∈ allP C) : ∃ R, chainF C a t = some R ∧ ((R = none ∧ ¬ ∃ l, Ch C t l a) ∨ ∃ l, R = some l ∧ Best C t l a) := by
 obtain ⟨F, hF, h⟩ := far_ok hs hC ht
 unfold chainF
 rw [hF]
 dsimp only
 by_cases ha : (F a).isSome = true
 ·rw [if_pos ha]
  obtain ⟨d, hd⟩ := Option.isSome_iff_exists.1 ha
  obtain ⟨l, hl, hc⟩ := h.ok a d hd
  have hlen := ch_len hs hc
  obtain ⟨m, e1, e2, ⟨p, hp, e3⟩, e4⟩ := steps_ok hs h l.length 2000 [a] [] (by omega) (by simp) (fun p hp => by rw [List.mem_singleton] at hp; subst hp; rw [hd, hl]) (by simp; omega) (by omega)
  rw [List.mem_singleton] at hp
  subst hp
  rw [e1]
  refine ⟨_, rfl, .inr ⟨m, by simp, e3, fun l' h' => ?_, fun l' h' he => e4 p (by simp) l' h' (by omega)⟩⟩
  obtain ⟨d2, h2, h3⟩ := h.le l' p h'
  rw [hd] at h2
  cases h2
  omega
 ·rw [if_neg ha]
  refine ⟨_, rfl, .inl ⟨rfl, fun ⟨l, hl⟩ => ?_⟩⟩
  obtain ⟨d, hd, _⟩ := h.le l a hl
  rw [hd] at ha
  exact ha rfl
/-- Where a list of moves can lead to, from some parcels. -/
def hereF (C : List Ent) : List Int → List Int → List Int
 | [], hl => hl
 | m :: l, hl => hereF C l ((hl.filter fun p => decide (uidF C p = m)).flatMap (onL C))
theorem here_iff {C : List Ent} {t : Int} : ∀ (l hl : List Int), t ∈ hereF C l hl ↔ ∃ p ∈ hl, Ch C t l p
 | [], hl => by
  constructor
  ·exact fun h => ⟨t, h, rfl⟩
  ·rintro ⟨p, hp, h⟩
   have h : p = t := h
   subst h
   exact hp
 | m :: l, hl => by
  show t ∈ hereF C l _ ↔ _
  rw [here_iff l]
  constructor
  ·rintro ⟨q, hq, hc⟩
   obtain ⟨p, hp, hq⟩ := List.mem_flatMap.1 hq
   obtain ⟨hp, hu⟩ := List.mem_filter.1 hp
   exact ⟨p, hp, of_decide_eq_true hu, q, hq, hc⟩
  ·rintro ⟨p, hp, hu, q, hq, hc⟩
   exact ⟨q, List.mem_flatMap.2 ⟨p, List.mem_filter.2 ⟨hp, decide_eq_true hu⟩, hq⟩, hc⟩
def nextH (C : List Ent) (l : List Int) (m : Int) : List Int := (l.filter fun p => decide (uidF C p = m)).flatMap (onL C)
theorem nextH_snoc (C : List Ent) (l : List Int) (p m : Int) : nextH C (l ++ [p]) m = nextH C l m ++ if uidF C p = m then onL C p else [] := by
 unfold nextH
 rw [List.filter_append, List.flatMap_append]
 congr 1
 by_cases h : uidF C p = m <;> simp [h]
theorem nextH_same {C : List Ent} {l m : List Int} (h : ∀ p, p ∈ l ↔ p ∈ m) (b x : Int) : x ∈ nextH C l b ↔ x ∈ nextH C m b := by
 unfold nextH
 simp only [List.mem_flatMap, List.mem_filter, h]
theorem here_same {C : List Ent} {t : Int} (c : List Int) {l m : List Int} (h : ∀ p, p ∈ l ↔ p ∈ m) : t ∈ hereF C c l ↔ t ∈ hereF C c m := by
 rw [here_iff, here_iff]
 simp only [h]
theorem memF_look {w : World} {r : Nat} {l : List Int} (h : MapOf w r Value.bool (memF l)) (p : Int) : (Instr.lookup 69 (.map (some r)) (.int .i64 p) false).run Tryz.prog w = .ok (.bool (decide (p ∈ l))) w := by
 have := h.look mapB_u (.bool false) (bool_zeroV _) p
 rw [this]
 unfold memF
 by_cases hp : p ∈ l
 ·rw [if_pos hp, decide_eq_true hp]
  rfl
 ·rw [if_neg hp, decide_eq_false hp]
  rfl
def CChainPost (L : List Ent) (K a b : Int) (chain : List Int) (w : World) (e : Ending) (w' : World) : Prop :=
 Below w.heap.size w w' ∧ ((∃ er, FailsBy L K [a, b] er ∧ e = .returned (.tuple #[.bool false, .int .i64 er])) ∨ (Valid (reps L) ∧ ∃ ids, IdsOf (countE L K) ids ∧ a ∈ ids ∧ b ∈ ids ∧ e = .returned (.tuple #[.bool (decide (b ∈ hereF (countE L K) chain [a])), .int .i64 0])))
set_option maxHeartbeats 16000000 in
theorem checkChain_any (A : Option Addr) (cap : Nat) (L : List Ent) (K p1 p2 : Int) (PA : Option Addr) (pc : Nat) (chain : List Int) (w : World) (hA : EntsAt w A L) (hl : L.length ≤ 210) (hcap : L.length ≤ cap) (hP : IntsAt w PA chain) (hcl : chain.length ≤ 1000) :
  Calls Tryz.prog 18 #[.slice A L.length cap, .int .i64 K, .int .i64 p1, .int .i64 p2, .slice PA chain.length pc] w (CChainPost L K p1 p2 chain w) := by
 have HLK := hid (looks_later hA hl hcap K [p1, p2] (by simp) 2)
 have HPA := hid hP
 have i9 : (chain.length : Int) ≤ 1000 := by omega
 clear hA hP
 go_enter Tryz.func18, Tryz.ntmps18
 go_wp2_with fail
 refine (HLK.out _ _ ((Below.refl _ _).alloc (Nat.le_refl _) _) (ints_two w p1 p2)).mono ?_
 rintro e w2 hpost
 obtain ⟨hb2, hcase⟩ := looks_two hpost
 have HB2 := hid (((Below.refl _ w).alloc (Nat.le_refl _) (.cells #[.int .i64 p1, .int .i64 p2] 3)).trans (hb2.mono (by simp)))
 clear hpost hb2
 rcases hcase with ⟨er, hf, rfl⟩ | ⟨hv, ids, hids, hin, bb, s, r1, r2, r3, r4, A2, cap2, rfl, hla⟩
 ·have hne : (er != 0) = true := bne_iff_ne.2 hf.ne
  have HF := hid hf
  clear hf HLK
  go_wp2_with fail
  go_ret2
  exact ⟨HB2.out, .inl ⟨er, HF.out, rfl⟩⟩
 have HI := hid hids
 have HIN := hid (And.intro (hin p1 (by simp)) (hin p2 (by simp)))
 have HV := hid hv
 have HSO := hid hla.sound
 have HLA := hid hla
 have HPB := hid (HPA.out.kept (Kept.of_below HB2.out))
 obtain ⟨C, hC⟩ : ∃ C, countE L K = C := ⟨_, rfl⟩
 rw [hC] at HI HSO HLA
 have HCE := hid hC
 have hb2s := HB2.out.size
 obtain ⟨T, hT⟩ : ∃ T, decide (p2 ∈ hereF C chain [p1]) = T := ⟨_, rfl⟩
 have hfin : ∀ (e : Ending) (w' : World), Below w2.heap.size w2 w' → e = .returned (.tuple #[.bool T, .int .i64 0]) → CChainPost L K p1 p2 chain w e w' := fun e w' hb h =>
  ⟨HB2.out.trans (hb.mono HB2.out.size), .inr ⟨HV.out, ids, by rw [HCE.out]; exact HI.out, HIN.out.1, HIN.out.2, by rw [h, HCE.out, hT]⟩⟩
 have HFIN := hid hfin
 have HT0 := hid hT
 clear hids hin hv hla hC HLK hfin hT
 have hmm := @run_makeMap Tryz.prog
 obtain ⟨W3, hput3, hm3, hb3⟩ := one_map (ev := Value.bool) (t := 69) mapB_u w2 p1 true
 have HM3 : Hid (MapOf W3 w2.heap.size Value.bool (memF [p1])) := hid (by
  have : memF [p1] = fun q => if q = p1 then some true else none := by funext q; simp [memF]
  rw [this]
  exact hm3)
 have HB3 := hid hb3
 clear hm3 hb3
 go_upto_region 5 with (fail)
 clear hmm hput3
 go_upto_region 6 with (fail)
 go_loopg [14, 40] (chain.length) (fun g hv iv wr => ∃ (k rh : Nat) (hl : List Int), k ≤ chain.length ∧ g = chain.length - k ∧ hv = .map (some rh) ∧ iv = .int .i64 k ∧ Hid (MapOf wr rh Value.bool (memF hl)) ∧ Hid (Below w2.heap.size w2 wr) ∧ Hid (decide (p2 ∈ hereF C (chain.drop k) hl) = T))
 case atStart => exact ⟨0, w2.heap.size, [p1], by omega, by omega, rfl, rfl, HM3, HB3, HT0⟩
 case round =>
  obtain ⟨k, rh, hl, hk, hgk, rfl, rfl, HMH, HBV, HTK⟩ := hrel
  obtain ⟨V, hV⟩ : ∃ V, V = wr := ⟨_, rfl⟩
  subst hV
  by_cases hkl : k < chain.length
  ·obtain ⟨b9, off9, hA9, hc9⟩ := (HPB.out.kept (Kept.of_below HBV.out)) (by omega)
   subst hA9
   have hck := hc9 k hkl
   have htk := HTK.out
   rw [List.drop_eq_getElem_cons hkl] at htk
   obtain ⟨c, hc⟩ : ∃ c, chain[k] = c := ⟨_, rfl⟩
   rw [hc] at hck htk
   have HTC : Hid (decide (p2 ∈ hereF C (chain.drop (k + 1)) (nextH C hl c)) = T) := hid htk
   have j0 : (0 : Int) ≤ k := by omega
   have j1 : (k : Int) < chain.length := by omega
   clear hc9 hc htk HTK
   obtain ⟨m, hma, hmn, hmg⟩ := HMH.out
   have hmem : ∀ p, p ∈ m.map (·.1) ↔ p ∈ hl := fun p => by
    have h1 := hmg p
    unfold memF at h1
    constructor
    ·intro h
     refine Classical.byContradiction fun hn => ?_
     rw [if_neg hn] at h1
     exact get_none.1 h1 h
    ·intro h
     refine Classical.byContradiction fun hn => ?_
     rw [if_pos h, get_none.2 hn] at h1
     cases h1
   have HMEM := hid hmem
   have hrhl := HMH.out.lt
   have hbv := HBV.out.size
   clear hmem hmn hmg
   have hmm := @run_makeMap Tryz.prog
   obtain ⟨W5, hW5⟩ : ∃ W, V.alloc (.map #[] 0) = W := ⟨_, rfl⟩
   have hm5 : MapOf W5 V.heap.size Value.bool (memF []) := by rw [← hW5, memF_nil]; exact MapOf.new _
   have hb5 : Below V.heap.size V W5 := by rw [← hW5]; exact (Below.refl _ _).alloc (Nat.le_refl _) _
   obtain ⟨w6, hrun6, hrg6, hb6, hs6⟩ := run_range mapB_u (hma.below hb5)
   have hrnl := hm5.lt
   have HM6 := hid (hm5.below hb6)
   have HB6 := hid (hb5.trans (hb6.mono hb5.size))
   have HRUN6 := hid hrun6
   have HRG6 := hid hrg6
   have HMA := hid hma
   clear hm5 hb5 hrun6 hrg6 hb6 hma
   go_upto_region 9 with (fail)
   clear hmm
   go_upto_region 10 with (first | refine range_op rfl _ rfl rfl HRUN6.out ?_)
   clear hW5
   obtain ⟨rn, hrn⟩ : ∃ r, V.heap.size = r := ⟨_, rfl⟩
   obtain ⟨qi, hqi⟩ : ∃ r, W5.heap.size = r := ⟨_, rfl⟩
   rw [hrn] at HM6 hrnl hrhl hbv HB6 ⊢
   rw [hqi] at HRG6 hrnl hs6 ⊢
   have HRN := hid hrn
   clear hrn hqi
   go_frame
   go_loopg [] (m.length) (fun g wq => ∃ (done L' : List (Int × Bool)), g = L'.length ∧ Hid ((done ++ L').Perm m) ∧ Hid (Ranging wq rh qi Value.bool L') ∧ Hid (MapOf wq rn Value.bool (memF (nextH C (done.map (·.1)) c))) ∧ Hid (Below rn V wq))
   case atStart => exact ⟨[], m, rfl, hid (List.Perm.refl _), HRG6, HM6, HB6⟩
   case round =>
    obtain ⟨done, L', hgL, hpm, hrg, hmn, hbq⟩ := hrel
    rcases hrg.out.next (P := Tryz.prog) 0 (by omega) with ⟨rfl, hrun⟩ | ⟨L1, a, L2, w5, rfl, hrun, hrg2, hgb, hsz, hent⟩
    ·rw [List.append_nil] at hpm
     have HRUN := hid hrun
     have hmd : ∀ p, p ∈ done.map (·.1) ↔ p ∈ hl := fun p => by rw [← HMEM.out p]; exact (hpm.out.map _).mem_iff
     have HMN : Hid (MapOf wr rn Value.bool (memF (nextH C hl c))) := hid (by
      have := hmn.out
      rwa [memF_same (nextH_same hmd c)] at this)
     have HB7 := hid (HBV.out.trans (hbq.out.mono hbv))
     clear hmd hrun
     go_upto_region 19 with (first | refine next_op rfl _ rfl rfl rfl HRUN.out ?_)
     go_wp2_with fail
     go_roundg (chain.length - (k + 1))
     case measure => omega
     case rel => exact ⟨k + 1, rn, nextH C hl c, by omega, rfl, rfl, by go_num, HMN, HB7, HTC⟩
    ·obtain ⟨p, hp⟩ : ∃ p, a.1 = p := ⟨_, rfl⟩
     have HPERM : Hid (((done ++ [a]) ++ (L1 ++ L2)).Perm m) := hid (by
      refine List.Perm.trans ?_ hpm.out
      rw [List.append_assoc]
      exact List.Perm.append_left done (by simpa using (List.perm_middle (l₁ := L1) (l₂ := L2) (a := a)).symm))
     have HNX := hid (nextH_snoc C (done.map (·.1)) a.1 c)
     have hmap : (done ++ [a]).map (·.1) = done.map (·.1) ++ [a.1] := by simp
     have HMAP := hid hmap
     have HRUN := hid hrun
     have HENT := hid hent
     have HRG2 := hid hrg2
     have hb5 : Below rn V w5 := hbq.out.grown hgb (Nat.le_trans (Nat.le_of_eq HRN.out.symm) hbq.out.size) (fun k e => by cases e; omega)
     have HMN5 := hid (hmn.out.same (hgb.block rn hmn.out.lt (fun e => by cases e; omega)))
     have HBQ5 := hid hb5
     have HLAV := hid ((HLA.out.below HBV.out).below (hb5.mono (Nat.le_of_eq HRN.out)))
     have hlu := HLAV.out.store.user.lookR2 a.1
     rw [hp] at hlu HNX HMAP
     have HAP := hid hp
     obtain ⟨s0, s1, s2, s3⟩ := HLAV.out.store.cell
     have hb0 := HLAV.out.cells.1
     clear hgb hrun hent hrg2 hrg hmn hmap hb5 hpm hsz s0 s1 s3 hbq
     rcases hu : userE C p with _ | ⟨u, Pu, cu⟩
     ·rw [hu] at hlu
      have HN8 : Hid (nextH C ((done ++ [a]).map (·.1)) c = nextH C (done.map (·.1)) c) := hid (by
       have hon : onL C p = [] := by unfold onL; rw [hu]
       rw [HMAP.out, HNX.out, hon, ite_self, List.append_nil])
      dsimp only [entOr, Option.getD_none, Option.isSome_none] at hlu
      clear hu HNX
      go_upto_region 11 with (first | refine next_op rfl _ rfl rfl rfl HRUN.out ?_)
      go_upto_region 12 with (first | refine entry_op rfl _ rfl rfl HENT.out ?_)
      try rw [HAP.out]
      go_wp2_with (refine store_rep_new rfl _ _ rfl rfl rfl rfl rfl ?_; intro W2 hbx2 hb2 hlt2; have HB2 := hid hb2; clear hbx2 hb2)
      go_roundg (L1 ++ L2).length
      case measure => (simp at hgL ⊢ <;> omega)
      case rel => exact ⟨done ++ [a], L1 ++ L2, rfl, HPERM, hid (HRG2.out.below HB2.out), hid (by rw [HN8.out]; exact HMN5.out.below HB2.out), hid (HBQ5.out.trans (HB2.out.mono (Nat.le_trans (Nat.le_of_eq HRN.out.symm) HBQ5.out.size)))⟩
     ·rw [hu] at hlu
      have hon : onL C p = u.makes := by unfold onL; rw [hu]
      have hui : uidF C p = u.id := by unfold uidF; rw [hu]; rfl
      rw [hon, hui] at HNX
      have HW := hid (HSO.out.wfs u (in_reps (userE_some hu).1))
      dsimp only [entOr, Option.getD_some, Option.isSome_some] at hlu
      clear hu hon hui
      by_cases huc : u.id = c
      rotate_left
      ·have duc : (u.id == c) = false := beq_eq_false_iff_ne.2 huc
       have HN8 : Hid (nextH C ((done ++ [a]).map (·.1)) c = nextH C (done.map (·.1)) c) := hid (by rw [HMAP.out, HNX.out, if_neg huc, List.append_nil])
       clear huc HNX
       go_upto_region 11 with (first | refine next_op rfl _ rfl rfl rfl HRUN.out ?_)
       go_upto_region 12 with (first | refine entry_op rfl _ rfl rfl HENT.out ?_)
       try rw [HAP.out]
       go_wp2_with (refine store_rep_new rfl _ _ rfl rfl rfl rfl rfl ?_; intro W2 hbx2 hb2 hlt2; have HB2 := hid hb2; obtain ⟨c0, c1, c2, c3, _⟩ := hbx2.at_; clear hbx2 hb2 c1 c2 c3)
       go_roundg (L1 ++ L2).length
       case measure => (simp at hgL ⊢ <;> omega)
       case rel => exact ⟨done ++ [a], L1 ++ L2, rfl, HPERM, hid (HRG2.out.below HB2.out), hid (by rw [HN8.out]; exact HMN5.out.below HB2.out), hid (HBQ5.out.trans (HB2.out.mono (Nat.le_trans (Nat.le_of_eq HRN.out.symm) HBQ5.out.size)))⟩
      have duc : (u.id == c) = true := beq_iff_eq.2 huc
      have hml := makes_len u HW.out
      have HMO := hid (fun W => makes_own u Pu cu W HW.out)
      obtain ⟨ms, hms⟩ : ∃ l, u.makes = l := ⟨_, rfl⟩
      rw [hms] at HNX hml
      have HN8 : Hid (nextH C ((done ++ [a]).map (·.1)) c = nextH C (done.map (·.1)) c ++ ms) := hid (by rw [HMAP.out, HNX.out, if_pos huc])
      have HMS := hid hms
      obtain ⟨NL, hNL⟩ : ∃ l, nextH C (done.map (·.1)) c = l := ⟨_, rfl⟩
      rw [hNL] at HMN5 HN8
      clear huc HNX hms hNL
      go_upto_region 11 with (first | refine next_op rfl _ rfl rfl rfl HRUN.out ?_)
      go_upto_region 12 with (first | refine entry_op rfl _ rfl rfl HENT.out ?_)
      try rw [HAP.out]
      go_wp2_with (first | (refine store_rep_new rfl _ _ rfl rfl rfl rfl rfl ?_; intro W2 hbx2 hb2 hlt2; have HB2 := hid hb2; have HX2 := hid hbx2; obtain ⟨c0, c1, c2, c3, _⟩ := hbx2.at_; clear hbx2 hb2 c1 c2 c3) | refine load_rep rfl _ rfl _ rfl HX2.out ?_)
      refine (HMO.out W2).mono ?_
      rintro e w8 ⟨v3, rfl, ho3, hb8⟩
      obtain ⟨A8, k8, rfl, hx8⟩ := ownsRow.form ho3
      clear hx8
      have hI8 := ownsRow_ints ho3
      rw [HMS.out] at hI8 ⊢
      have HI8 := hid hI8
      have hb58 := HB2.out.trans (hb8.mono HB2.out.size)
      have HB8 := hid (HBQ5.out.trans (hb58.mono (Nat.le_trans (Nat.le_of_eq HRN.out.symm) HBQ5.out.size)))
      have HRG8 := hid (HRG2.out.below hb58)
      have HMN8 := hid (HMN5.out.below hb58)
      have i8 : (ms.length : Int) ≤ 1000 := by omega
      clear hb8 hI8 ho3 hb58 HMO HRG2 HMN5 HX2 c0
      go_upto_region 15 with (fail)
      go_loopg [73] (ms.length) (fun g iv wx => ∃ k2 : Nat, k2 ≤ ms.length ∧ g = ms.length - k2 ∧ iv = .int .i64 k2 ∧ Hid (MapOf wx rn Value.bool (memF (NL ++ ms.take k2))) ∧ Hid (Ranging wx rh qi Value.bool (L1 ++ L2)) ∧ Hid (IntsAt wx A8 ms) ∧ Hid (Below rn V wx))
      case atStart => exact ⟨0, by omega, by omega, rfl, hid (by simpa using HMN8.out), HRG8, HI8, HB8⟩
      case round =>
       obtain ⟨k2, hk2, hgk2, rfl, HMX, HRX, HIX, HBX⟩ := hrel
       by_cases hk2l : k2 < ms.length
       ·obtain ⟨b7, off7, hA7, hc7⟩ := HIX.out (by omega)
        subst hA7
        have hck2 := hc7 k2 hk2l
        have htake : ms.take (k2 + 1) = ms.take k2 ++ [ms[k2]] := List.take_succ_eq_append_getElem hk2l
        obtain ⟨q, hq⟩ : ∃ q, ms[k2] = q := ⟨_, rfl⟩
        rw [hq] at hck2 htake
        have HTAKE := hid htake
        have j2 : (0 : Int) ≤ k2 := by omega
        have j3 : (k2 : Int) < ms.length := by omega
        obtain ⟨w9, hup, hm9, hg9⟩ := HMX.out.put mapB_u q true
        rw [memF_put] at hm9
        have HM9 := hid hm9
        have HI9 := hid (HIX.out.grown HMX.out hg9)
        have hrx := HRX.out.lt
        have HR9 := hid (HRX.out.same (hg9.block rh hrx.1 (fun e => by cases e; omega)) (hg9.block qi hrx.2 (fun e => by cases e; omega)))
        have HB9 := hid (HBX.out.grown hg9 (Nat.le_trans (Nat.le_of_eq HRN.out.symm) HBX.out.size) (fun k e => by cases e; omega))
        clear hc7 htake hq hm9 hg9 hrx
        go_wp2_with fail
        go_roundg (ms.length - (k2 + 1))
        case measure => omega
        case rel => exact ⟨k2 + 1, by omega, rfl, by go_num, hid (by rw [HTAKE.out, ← List.append_assoc]; exact HM9.out), HR9, HI9, HB9⟩
       ·obtain rfl : k2 = ms.length := by omega
        have HM0 := hid HMX.out
        rw [List.take_length] at HM0
        go_wp2_with fail
        go_roundg (L1 ++ L2).length
        case measure => (simp at hgL ⊢ <;> omega)
        case rel => exact ⟨done ++ [a], L1 ++ L2, rfl, HPERM, HRX, hid (by rw [HN8.out]; exact HM0.out), HBX⟩
  ·obtain rfl : k = chain.length := by omega
   have htk := HTK.out
   rw [List.drop_length] at htk
   have htk : decide (p2 ∈ hl) = T := htk
   have hlk := memF_look HMH.out p2
   rw [htk] at hlk
   clear htk HTK
   go_wp2_with fail
   go_ret2
   exact HFIN.out _ _ HBV.out rfl
theorem seven_makes {r : Rep} (h : r.kind = 7) : r.makes = [] := by unfold Rep.makes; rw [if_neg (by omega), if_neg (by omega)]
theorem seven_uses {r : Rep} (h : r.kind = 7) : r.uses = [r.other] := by unfold Rep.uses; rw [if_neg (by omega), if_neg (by omega), if_pos h]
theorem uses_kinds {r : Rep} {p : Int} (h : p ∈ r.uses) : r.kind = 2 ∨ r.kind = 3 ∨ r.kind = 7 := by
 unfold Rep.uses at h
 by_cases h2 : r.kind = 2
 ·exact .inl h2
 ·rw [if_neg h2] at h
  by_cases h3 : r.kind = 3
  ·exact .inr (.inl h3)
  ·rw [if_neg h3] at h
   by_cases h7 : r.kind = 7
   ·exact .inr (.inr h7)
   ·rw [if_neg h7] at h
    simp at h
theorem makes_some {r : Rep} (hw : r.Wf) (h : r.kind = 2 ∨ r.kind = 3) : ∃ q, q ∈ r.makes := by
 unfold Rep.makes
 rcases h with h | h
 ·rw [if_neg (by omega), if_pos h]
  have := (hw.count h).1
  exact ⟨10 * r.id, List.mem_map.2 ⟨0, List.mem_range.2 (by omega), by simp⟩⟩
 ·rw [if_pos (by omega)]
  exact ⟨10 * r.id, by simp⟩
theorem back_keep {C : List Ent} (hs : Sound (reps C)) {x y : Int} (h : y ∈ backL C x) : (makerE C y).isSome = true ∧ keepB C y = true := by
 have h1 := (back_on hs).1 h
 obtain ⟨u, hu, hu1, hu2, hu3, _⟩ := onL_some h1
 obtain ⟨j, hj, hje⟩ := List.getElem_of_mem (in_reps hu1)
 have hok := hs.at_ j hj
 rw [hje] at hok
 constructor
 ·obtain ⟨z, hz, hzy⟩ := hok.made y (uses_touches hok.wf hu2)
  rw [made_isSome, List.mem_flatMap]
  obtain ⟨e2, he2, rfl⟩ := List.mem_map.1 (List.mem_of_mem_take hz)
  exact ⟨e2, he2, hzy⟩
 ·unfold keepB
  rw [hu]
  have : u.1.kind ≠ 7 := fun h7 => by rw [seven_makes h7] at hu3; simp at hu3
  simp [entOr, this]
theorem on_keep {C : List Ent} (hs : Sound (reps C)) {x y : Int} (h : y ∈ onL C x) : (makerE C y).isSome = true ∧ keepB C y = true := by
 obtain ⟨u, hu, hu1, hu2, hu3, _⟩ := onL_some h
 constructor
 ·rw [made_isSome, List.mem_flatMap]
  exact ⟨u, hu1, hu3⟩
 ·unfold keepB
  rcases hz : userE C y with _ | z
  ·rfl
  ·obtain ⟨hz1, hz2⟩ := userE_some hz
   have : z.1.kind ≠ 7 := fun h7 => by
    obtain ⟨j, hj, hje⟩ := List.getElem_of_mem (in_reps hz1)
    have hok := hs.at_ j hj
    rw [hje] at hok
    obtain ⟨v, hv, hvy, hvk⟩ := hok.same h7 y (uses_touches hok.wf hz2)
    have h3 := hs.maker (List.mem_of_mem_take hv) (in_reps hu1) hvy hu3
    rw [h3] at hvk
    rw [no_uses hvk] at hu2
    simp at hu2
   simp [entOr, this]
theorem back_reach_in {C : List Ent} (hs : Sound (reps C)) {ids : List Int} (hi : IdsOf C ids) {p x : Int} (h : Reach (backL C) p x) : p ∈ ids → x ∈ ids := by
 induction h with
 | refl => exact id
 | step hx _ ih => exact fun _ => ih ((hi.2 _).2 (back_keep hs hx))
theorem on_reach_in {C : List Ent} (hs : Sound (reps C)) {ids : List Int} (hi : IdsOf C ids) {p x : Int} (h : Reach (onL C) p x) : p ∈ ids → x ∈ ids := by
 induction h with
 | refl => exact id
 | step hx _ ih => exact fun _ => ih ((hi.2 _).2 (on_keep hs hx))
theorem found_is (C : List Ent) (p : Int) : (parcelF C p).found = decide ((entOr (makerE C p)).1.kind = 1) := rfl
theorem into_is (C : List Ent) (p : Int) : (parcelF C p).into = (entOr (userE C p)).1.id := rfl
/-- Each parcel comes from some find. -/
theorem origin_some {C : List Ent} (hs : Sound (reps C)) {ids : List Int} (hi : IdsOf C ids) : ∀ (n : Nat) (p : Int), rankB C p ≤ n → p ∈ ids → ∃ x, Reach (backL C) p x ∧ x ∈ ids ∧ (parcelF C x).found = true := by
 have key : ∀ p ∈ ids, (parcelF C p).found = true ∨ ∃ q, q ∈ backL C p := fun p hp => by
  obtain ⟨e, he⟩ := Option.isSome_iff_exists.1 ((hi.2 p).1 hp).1
  rw [found_is, he]
  by_cases k1 : e.1.kind = 1
  ·exact .inl (decide_eq_true k1)
  ·have h1 := uses_some hs (x := e.1) (p := p) (by rw [maker_same hs, he]; rfl) k1
   have hbl : backL C p = e.1.uses := by unfold backL; rw [he]; exact if_neg k1
   rw [hbl]
   exact .inr ⟨e.1.uses[0], List.getElem_mem h1⟩
 intro n
 induction n with
 | zero =>
  intro p hn hp
  rcases key p hp with h | ⟨q, hq⟩
  ·exact ⟨p, .refl _, hp, h⟩
  ·have := rank_back hs p q hq
   omega
 | succ n ih =>
  intro p hn hp
  rcases key p hp with h | ⟨q, hq⟩
  ·exact ⟨p, .refl _, hp, h⟩
  ·have := rank_back hs p q hq
   obtain ⟨x, h1, h2, h3⟩ := ih q (by omega) ((hi.2 q).2 (back_keep hs hq))
   exact ⟨x, .step hq h1, h2, h3⟩
/-- Each parcel leads to some that is there. -/
theorem remain_some {C : List Ent} (hs : Sound (reps C)) {ids : List Int} (hi : IdsOf C ids) : ∀ (n : Nat) (p : Int), rankO C p ≤ n → p ∈ ids → ∃ x, Reach (onL C) p x ∧ x ∈ ids ∧ (parcelF C x).into ≤ 0 := by
 have key : ∀ p ∈ ids, (parcelF C p).into ≤ 0 ∨ ∃ q, q ∈ onL C p := fun p hp => by
  have hk := ((hi.2 p).1 hp).2
  unfold keepB at hk
  rw [into_is]
  rcases hu : userE C p with _ | u
  ·exact .inl (Int.le_refl _)
  ·obtain ⟨h1, h2⟩ := userE_some hu
   rw [hu] at hk
   have h7 : u.1.kind ≠ 7 := by
    simp only [entOr, Option.getD_some, Option.isSome_some, Bool.not_true, Bool.false_or] at hk
    exact of_decide_eq_true hk
   obtain ⟨q, hq⟩ := makes_some (hs.wfs _ (in_reps h1)) (by have := uses_kinds h2; omega)
   exact .inr ⟨q, by unfold onL; rw [hu]; exact hq⟩
 intro n
 induction n with
 | zero =>
  intro p hn hp
  rcases key p hp with h | ⟨q, hq⟩
  ·exact ⟨p, .refl _, hp, h⟩
  ·have := rank_on hs p q hq
   omega
 | succ n ih =>
  intro p hn hp
  rcases key p hp with h | ⟨q, hq⟩
  ·exact ⟨p, .refl _, hp, h⟩
  ·have := rank_on hs p q hq
   obtain ⟨x, h1, h2, h3⟩ := ih q (by omega) ((hi.2 q).2 (on_keep hs hq))
   exact ⟨x, .step hq h1, h2, h3⟩
/-- What the law FindWays asks. -/
theorem ways_hold {C : List Ent} (hs : Sound (reps C)) {ids : List Int} (hi : IdsOf C ids) {f p : Int} (hf : f ∈ ids) (hp : p ∈ ids) {ys zs : List Int} {R : Option (List Int)}
  (hy : ∀ x, x ∈ ys ↔ (Reach (backL C) p x ∧ (pclOr C ids x).found = true)) (hz : ∀ x, x ∈ zs ↔ (Reach (onL C) f x ∧ (pclOr C ids x).into ≤ 0))
  (hR : (R = none ∧ ¬ ∃ l, Ch C p l f) ∨ ∃ l, R = some l ∧ Best C p l f) :
  ys ≠ [] ∧ zs ≠ [] ∧ ((parcelF C f).found = true → (parcelF C p).into = 0 → decide (f ∈ ys) = decide (p ∈ zs) ∧ decide (f ∈ ys) = R.isSome) := by
 refine ⟨?_, ?_, fun h1 h2 => ?_⟩
 ·obtain ⟨x, a, b, c⟩ := origin_some hs hi _ p (Nat.le_refl _) hp
  exact List.ne_nil_of_mem ((hy x).2 ⟨a, by rw [pclOr_in b]; exact c⟩)
 ·obtain ⟨x, a, b, c⟩ := remain_some hs hi _ f (Nat.le_refl _) hf
  exact List.ne_nil_of_mem ((hz x).2 ⟨a, by rw [pclOr_in b]; exact c⟩)
 ·have e1 : f ∈ ys ↔ Reach (onL C) f p := by
   rw [hy, reach_back hs, pclOr_in hf]
   exact ⟨fun h => h.1, fun h => ⟨h, h1⟩⟩
  have e2 : p ∈ zs ↔ Reach (onL C) f p := by
   rw [hz, pclOr_in hp, h2]
   exact ⟨fun h => h.1, fun h => ⟨h, Int.le_refl _⟩⟩
  refine ⟨by rw [decide_eq_decide, e1, e2], ?_⟩
  rcases hR with ⟨rfl, hn⟩ | ⟨l, rfl, hb⟩
  ·rw [Option.isSome_none]
   exact decide_eq_false fun h => hn (ch_reach.2 (e1.1 h))
  ·rw [Option.isSome_some]
   exact decide_eq_true (e1.2 (ch_reach.1 ⟨l, hb.ch⟩))
theorem no_fails {L : List Ent} {K : Int} {ps : List Int} {en : Int} {ids : List Int} (hv : Valid (reps L)) (hi : IdsOf (countE L K) ids) (hp : ∀ p ∈ ps, p ∈ ids) : ¬ FailsBy L K ps en := by
 rintro (⟨i, h1, h2⟩ | ⟨_, ids2, h1, ⟨p, hq, hn⟩, _⟩)
 ·exact h2 (h1.of_valid hv)
 ·exact hn (by rw [h1.same hi]; exact hp p hq)
end Go.Proofs.YtfaoillnakhejaaGreat
