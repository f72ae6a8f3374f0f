/- looks: what it says (plain), and the operations that range over a map, as a walk meets them; maps.Keys: the iterator over the numbers of a map, and what it gives; slices.AppendSeq, Collect, Sorted over an iterator of numbers; sorted; looks: the beach in memory, as it is built; looks. -/
import Derived.Test.YtfaoillnakhejaaGreatH0
import Derived.Test.YtfaoillnakhejaaGreatH3
import Derived.Test.YtfaoillnakhejaaGreatH4
import Derived.Test.YtfaoillnakhejaaGreatG13
import Derived.Test.YtfaoillnakhejaaGreatG15
import Derived.Deep.CutRange
import Derived.Deep.CutBlock
namespace Go.Proofs.YtfaoillnakhejaaGreat
set_option maxRecDepth 100000
open Go.RowKit
section
open Go.RowKit
theorem nodup_le {xs ys : List Int} (h : xs.Nodup) (hs : ∀ x ∈ xs, x ∈ ys) : xs.length ≤ ys.length := by
 induction xs generalizing ys with
 | nil => simp
 | cons x xs ih =>
  rw [List.nodup_cons] at h
  have hx := hs x (by simp)
  have h2 := ih (ys := ys.erase x) h.2 (fun y hy => (List.mem_erase_of_ne (fun e : y = x => h.1 (by rw [← e]; exact hy))).2 (hs y (by simp [hy])))
  rw [List.length_erase_of_mem hx] at h2
  have := List.length_pos_of_mem hx
  simp only [List.length_cons]
  omega
theorem keys_bound {C : List Ent} (hwf : ∀ e ∈ C, e.1.Wf) {m : List (Int × Ent)} (hn : (m.map (·.1)).Nodup) (hg : ∀ p, get m p = makerE C p) : m.length ≤ 8 * C.length := by
 have h1 : (m.map (·.1)).length ≤ (C.flatMap fun e => e.1.makes).length := nodup_le hn fun p hp => by
  rcases hm : makerE C p with _ | e
  ·exact absurd hp (get_none.1 (by rw [hg, hm]))
  ·obtain ⟨h1, h2⟩ := makerE_some hm
   exact List.mem_flatMap.2 ⟨e, h1, h2⟩
 rw [List.length_map] at h1
 refine Nat.le_trans h1 ?_
 clear h1 hg hn
 induction C with
 | nil => simp
 | cons e C ih =>
  have := makes_len e.1 (hwf e (by simp))
  have := ih (fun e he => hwf e (by simp [he]))
  simp only [List.flatMap_cons, List.length_append, List.length_cons]
  omega
/-- A parcel stays under its own number: no report says that it is the same as another one. -/
def keepB (C : List Ent) (p : Int) : Bool := !(userE C p).isSome || decide ((entOr (userE C p)).1.kind ≠ 7)
/-- The parcels that there are. -/
def IdsOf (C : List Ent) (ids : List Int) : Prop := ids.Pairwise (· < ·) ∧ ∀ p, p ∈ ids ↔ ((makerE C p).isSome = true ∧ keepB C p = true)
theorem sorted_same : ∀ {xs ys : List Int}, xs.Pairwise (· < ·) → ys.Pairwise (· < ·) → (∀ p, p ∈ xs ↔ p ∈ ys) → xs = ys
 | [], [], _, _, _ => rfl
 | [], y :: ys, _, _, h => absurd ((h y).2 (by simp)) (by simp)
 | x :: xs, [], _, _, h => absurd ((h x).1 (by simp)) (by simp)
 | x :: xs, y :: ys, hx, hy, h => by
  rw [List.pairwise_cons] at hx hy
  have e : x = y := by
   rcases List.mem_cons.1 ((h x).1 (by simp)) with e | e
   ·exact e
   ·rcases List.mem_cons.1 ((h y).2 (by simp)) with e2 | e2
    ·exact e2.symm
    ·have h1 := hy.1 x e
     have h2 := hx.1 y e2
     omega
  subst e
  rw [sorted_same hx.2 hy.2 fun p => ⟨fun hp => by
   rcases List.mem_cons.1 ((h p).1 (by simp [hp])) with e | e
   ·have := hx.1 p hp
    omega
   ·exact e, fun hp => by
   rcases List.mem_cons.1 ((h p).2 (by simp [hp])) with e | e
   ·have := hy.1 p hp
    omega
   ·exact e⟩]
theorem IdsOf.same {C : List Ent} {xs ys : List Int} (h : IdsOf C xs) (k : IdsOf C ys) : xs = ys := sorted_same h.1 k.1 fun p => (h.2 p).trans (k.2 p).symm
/-- What a range over the makers gives, sorted. -/
theorem ids_of {C : List Ent} {m : List (Int × Ent)} (hn : (m.map (·.1)).Nodup) (hg : ∀ p, get m p = makerE C p) {ks : List Int} (hp : ks.Perm (m.map (·.1))) : IdsOf C (sortL (ks.filter (keepB C))) := by
 refine ⟨sortL_strict ((hp.nodup_iff.2 hn).filter _), fun p => ?_⟩
 rw [(sortL_perm _).mem_iff, List.mem_filter, hp.mem_iff]
 have : p ∈ m.map (·.1) ↔ (makerE C p).isSome = true := by
  rw [← hg p]
  rcases he : get m p with _ | e
  ·simp [get_none.1 he]
  ·simp only [Option.isSome_some, iff_true]
   exact List.mem_map_of_mem (f := Prod.fst) (get_mem he)
 rw [this]
section
variable {ops : Array Oper} {rest : List Oper} {o : Oper} {a : Act} {w w' : World} {Q : Exit → Act → World → Prop}
theorem range_op (hw : Region.wanted o (yielded ops a.tmps) = true) {t : TypeId} (x : Operand) (ho : o.op = .range t x) {r : Nat} (hx : a.eval x = .map (some r)) {v : Value}
  (hr : (Instr.range t (.map (some r))).run Tryz.prog w = .ok v w') (h : wpList Tryz.prog ops Q rest (a.put o.dst v) w') : wpList Tryz.prog ops Q (o :: rest) a w :=
 wpList_of_wp hw (fun K hK => by
  unfold Oper.wp execOp
  simp only [ho, hx, Sem.run_bind, hr, Result.andThen_ok, Sem.run_pure]
  exact hK) h
theorem next_op (hw : Region.wanted o (yielded ops a.tmps) = true) (x : Operand) {b : Bool} (ho : o.op = .next x b) {q : Nat} (hx : a.eval x = .pointer (some ⟨q, 0, none⟩)) {v : Value} {ty : TypeId} (hty : o.type = ty)
  (hr : (Instr.next (.pointer (some ⟨q, 0, none⟩)) b ty).run Tryz.prog w = .ok v w') (h : wpList Tryz.prog ops Q rest (a.put o.dst v) w') : wpList Tryz.prog ops Q (o :: rest) a w :=
 wpList_of_wp hw (fun K hK => by
  subst hty
  unfold Oper.wp execOp
  simp only [ho, hx, Sem.run_bind, hr, Result.andThen_ok, Sem.run_pure]
  exact hK) h
theorem entry_op (hw : Region.wanted o (yielded ops a.tmps) = true) (x : Operand) (ho : o.op = .entry x) {q : Nat} (hx : a.eval x = .pointer (some ⟨q, 0, none⟩)) {v : Value}
  (hr : (Instr.entry (.pointer (some ⟨q, 0, none⟩))).run Tryz.prog w = .ok v w') (h : wpList Tryz.prog ops Q rest (a.put o.dst v) w') : wpList Tryz.prog ops Q (o :: rest) a w :=
 wpList_of_wp hw (fun K hK => by
  unfold Oper.wp execOp
  simp only [ho, hx, Sem.run_bind, hr, Result.andThen_ok, Sem.run_pure]
  exact hK) h
end
end
section
open Go.RowKit Go.Shelf
attribute [local go_sem] Oper.semAt_some
theorem Ranging.walks {β : Type} {ev : β → Value} {w w' : World} {r q : Nat} {L : List (Int × β)} (h : Ranging w r q ev L) (k : KeepsWalks w w') : Ranging w' r q ev L := by
 obtain ⟨es, clock, since, seen, c0, a, b, c, d⟩ := h
 exact ⟨es, clock, since, seen, c0, k.same _ _ a rfl, b, k.same _ _ c rfl, d⟩
theorem Ranging.walk {β : Type} {ev : β → Value} {w : World} {r q : Nat} {L : List (Int × β)} (h : Ranging w r q ev L) : ∃ o : Obj, w.heap[q]? = some o ∧ o.isWalk = true := by
 obtain ⟨es, clock, since, seen, c0, a, b, c, d⟩ := h
 exact ⟨_, c, rfl⟩
set_option maxHeartbeats 8000000 in
theorem keys1_in (n : Nat) (hn : 1 ≤ n) (l B1 r : Nat) (w0 : World) {m : List (Int × Bool)} (hm : MapAt w0 r eI Value.bool m)
  (J Jx : List Int → World → Prop) (W : World) (hJ : AbidesFrom W.heap.size J)
  (hY : ∀ pre (x : Int) W1, J pre W1 → pre.length < m.length → YieldAt Fence.wide (n - 1) Tryz.prog l #[.int .i64 x] W1 fun e W' =>
   (e = .returned (.bool true) ∧ J (pre ++ [x]) W' ∧ KeepsWalks W1 W') ∨ (e = .returned (.bool false) ∧ Jx (pre ++ [x]) W'))
  (hW : Below w0.heap.size w0 W) (hB1 : W.cell? ⟨B1, 0, none⟩ = some (.map (some r))) (h0 : J [] W) :
  Calls Tryz.prog 136 #[.func (.yield l) #[] #[], .pointer (some ⟨B1, 0, none⟩)] W fun e W' => (∃ v, e = .returned v) ∧
   ((∃ ys : List Int, ys.Perm (m.map (·.1)) ∧ J ys W') ∨ (∃ pre : List Int, True ∧ Jx pre W')) := by
 have hmW := hm.below hW
 have hrW := hmW.lt
 obtain ⟨w6, hrr, hrg, hb6, hlt6⟩ := run_range (P := Tryz.prog) mapB_u hmW
 have HRR := hid hrr
 have HRG := hid hrg
 have HJ := hid hJ
 have HJ6 := hid (abides_below hJ h0 hb6)
 have HY := hid hY
 have HRW := hid hrW
 clear hrr hrg hb6 hJ hY hm h0 hW hmW hlt6 hrW
 go_enter Tryz.func136, Tryz.ntmps136
 go_wp2_with (first | refine range_op rfl _ rfl rfl HRR.out ?_)
 clear hB1
 go_frame
 go_loopg [] (m.length) (fun g wr => ∃ (done rest : List (Int × Bool)), g = rest.length ∧ Hid ((done ++ rest).Perm m) ∧ Hid (Ranging wr r W.heap.size Value.bool rest) ∧ Hid (J (done.map (·.1)) wr))
 case atStart => exact ⟨[], m, rfl, hid (List.Perm.refl _), HRG, HJ6⟩
 case round =>
  obtain ⟨done, rest, hgk, hpm, hrg, hj⟩ := hrel
  rcases hrg.out.next (P := Tryz.prog) 0 (by have := HRW.out; omega) with ⟨rfl, hrun⟩ | ⟨L1, a, L2, w2, rfl, hrun, hrg2, hgb, hsz2, hent⟩
  ·have HRUN := hid hrun
   have HP : Hid ((done.map (·.1)).Perm (m.map (·.1))) := hid (by have := (hpm.out.map (·.1)); simpa using this)
   clear hrun hrg hpm
   go_wp2_with (first | refine next_op rfl _ rfl rfl rfl HRUN.out ?_)
   go_end0
   exact ⟨⟨_, rfl⟩, .inl ⟨_, HP.out, hj.out⟩⟩
  ·have HRUN := hid hrun
   have HENT := hid hent
   have HRG2 := hid hrg2
   have HDL : Hid ((done.map (·.1)).length < m.length) := hid (by have := hpm.out.length_eq; simp at this ⊢; omega)
   have HJ2 := hid (HJ.out _ _ _ _ hj.out hgb (fun k e => by cases e; exact ⟨Nat.le_refl _, hrg.out.walk⟩))
   have HPERM : Hid (((done ++ [a]) ++ (L1 ++ L2)).Perm m) := hid (by
    refine List.Perm.trans ?_ hpm.out
    rw [List.append_assoc]
    exact List.Perm.append_left done (by simpa using (List.perm_middle (l₁ := L1) (l₂ := L2) (a := a)).symm))
   have HY2 : Hid (YieldAt Fence.wide (n - 1) Tryz.prog l #[.int .i64 a.1] w2 fun e W' => ∃ b, e = .returned (.bool b) ∧ ((b = true ∧ J ((done ++ [a]).map (·.1)) W' ∧ KeepsWalks w2 W') ∨ (b = false ∧ Jx ((done ++ [a]).map (·.1)) W'))) := hid (YieldAt.mono (HY.out _ a.1 w2 HJ2.out HDL.out) (fun e w' h => by
    rw [List.map_append]
    rcases h with ⟨rfl, h1, h2⟩ | ⟨rfl, h1⟩
    ·exact ⟨true, rfl, .inl ⟨rfl, h1, h2⟩⟩
    ·exact ⟨false, rfl, .inr ⟨rfl, h1⟩⟩))
   clear hrun hent hrg2 hgb hrg hpm hsz2
   go_upto_region 2 with (first | refine next_op rfl _ rfl rfl rfl HRUN.out ?_)
   go_upto_region 3 with (first | refine entry_op rfl _ rfl rfl HENT.out ?_)
   obtain ⟨fn, tmps, assign, body, hy, hR⟩ := HY2.out
   go_cut [13] from 10 to 13 (fun s13 wx => (s13 = .bool false ∧ J ((done ++ [a]).map (·.1)) wx ∧ KeepsWalks w2 wx) ∨ (s13 = .bool true ∧ Jx ((done ++ [a]).map (·.1)) wx))
   case first =>
    refine (wpIn_wide (n := n)).1 ?_
    gi_wp2_with (first
     | (refine hR.mono ?_
        rintro e w4 ⟨bo, rfl, hout⟩))
    go_meet
    case rel =>
     rcases hout with ⟨rfl, h1, h2⟩ | ⟨rfl, h1⟩
     ·exact .inl ⟨rfl, h1, h2⟩
     ·exact .inr ⟨rfl, h1⟩
   case rest =>
    rcases hcut with ⟨rfl, hj9, hk9⟩ | ⟨rfl, hj9⟩
    ·have HJ9 := hid hj9
     have HK9 := hid hk9
     clear hj9 hk9
     go_wp2_with fail
     go_roundg (L1 ++ L2).length
     case measure => (simp at hgk ⊢ <;> omega)
     case rel => exact ⟨done ++ [a], L1 ++ L2, rfl, HPERM, hid (HRG2.out.walks HK9.out), HJ9⟩
    ·have HJ9 := hid hj9
     clear hj9
     go_wp2_with fail
     refine bodyPost_ret (results_none rfl _ _ _) rfl ?_
     refine ⟨⟨_, rfl⟩, .inr ⟨(done ++ [a]).map (·.1), ?_⟩⟩
     first | exact ⟨trivial, HJ9.out⟩ | exact HJ9.out
theorem keys_any (r : Nat) (w : World) :
  Calls Tryz.prog 95 #[.map (some r)] w fun e w' =>
   e = .returned (.func (.func 136) #[] #[.pointer (some ⟨w.heap.size, 0, none⟩)]) ∧ Below w.heap.size w w' ∧
   w'.cell? ⟨w.heap.size, 0, none⟩ = some (.map (some r)) ∧ w.heap.size < w'.heap.size := by
 go_enter Tryz.func95, Tryz.ntmps95
 go_wp2_with fail
 go_ret
 exact ⟨rfl, (Below.refl _ _).alloc (Nat.le_refl _) _, (Boxed.new w _ _).cell, by simp⟩
theorem keys_stops (n : Nat) (hn : 1 ≤ n) (B1 r : Nat) (w : World) {m : List (Int × Bool)} (hm : MapAt w r eI Value.bool m) (hB1 : w.cell? ⟨B1, 0, none⟩ = some (.map (some r))) :
  SeqStopsK Fence.wide n Tryz.prog 136 #[.pointer (some ⟨B1, 0, none⟩)] (fun x : Int => #[.int .i64 x]) KeepsWalks (fun ys => ys.Perm (m.map (·.1))) (fun _ => True) m.length w :=
 fun l J Jx W hW hJ _ hY h0 => callsIn_wide.2 (keys1_in n hn l B1 r w hm J Jx W hJ hY hW (Kept.of_below hW _ _ hB1) h0)
/-- The law of a loop over an iterator whose variable has a slot of its own. -/
theorem range_plain {F : Fence} {n : Nat} {P : Program} {α : Type} {g : Operand} {p : Tmp} {assign body : Code} {Q : Exit → Act → World → Prop} {a : Act} {w : World}
  (hro : F.round = none) (h1 : 1 ≤ n) {gf : Nat} {lb : Array Value} (hg : a.eval g = .func (.func gf) #[] lb) (hFg : F.fn gf) (eg : ∀ args w, (callFunc gf args).run P w = .ok (.enter gf args) w)
  {enc : α → Value} {Kp : World → World → Prop} {S Sp : List α → Prop} {N : Nat} {w0 : World} (hseq : SeqStopsK F (n - 1) P gf lb (fun x => #[enc x]) Kp S Sp N w0)
  (hKt : ∀ {A B C : World}, Kp A B → Kp B C → Kp A C) (hKb : ∀ (W : World) (l : Nat) (o o' : Obj), w.heap.size ≤ l → W.heap[l]? = some o → o.isCells = false → o.isWalk = false → Kp W (W.putObj l o')) (hb0 : Below w0.heap.size w0 w)
  (I : List α → World → Prop) (hI : OwnFrom w.heap.size I) (h0 : I [] w) (d : Nat)
  (hassign : ∀ (l : Nat) (pre : List α) (x : α) (W : World) (K : Act → World → Prop), I pre W → (∀ W', KeepsFrom w.heap.size W W' → Kp W W' → I pre W' → K { tmps := (a.tmps.setIfInBounds p (enc x)).setIfInBounds d (enc x), defers := [] } W') →
   assign.wpIn (F.inRound l) (n - 1 - 1) P (Exit.then K (fun _ _ _ => False)) { tmps := a.tmps.setIfInBounds p (enc x), defers := [] } W)
  (hbody : ∀ (l : Nat) (pre : List α) (x : α) (W : World), I pre W → pre.length < N →
   body.wpIn (F.inRound l) (n - 1 - 1) P (ownPostG w.heap.size Kp I (fun _ _ _ => False) (pre ++ [x]) W) { tmps := (a.tmps.setIfInBounds p (enc x)).setIfInBounds d (enc x), defers := [] } W)
  (hdone : ∀ (D : Nat) (xs : List α) (W : World), w.heap.size ≤ D → S xs → I xs W → W.heap[D]? = some (.deferred (some [])) → Q .normal { a with defers := { target := .collected D, args := #[] } :: a.defers } W) :
  (Code.rangeFunc g #[p] assign body).wpIn F n P Q a w := by
 have hf : ∀ x, (((#[p] : Array Tmp).zip #[enc x]).foldl (fun t (p, v) => t.setIfInBounds p v) a.tmps) = a.tmps.setIfInBounds p (enc x) := fun x => by simp
 refine wpIn_rangeFunc_ownH hro h1 hg hFg eg hseq hKt hKb hb0 (fun _ => rfl) I (fun _ _ _ => False) hI (fun _ _ _ _ _ hs _ _ => hs) h0
  (fun x a' W => a' = { tmps := (a.tmps.setIfInBounds p (enc x)).setIfInBounds d (enc x), defers := [] })
  (fun x a' u X Y row hs hg hr => hs) ?_ ?_ hdone ?_
 ·intro l pre x W K hi hK
  rw [hf x]
  exact hassign l pre x W K hi (fun W' h1 h2 h3 => hK _ W' h1 h2 h3 rfl)
 ·rintro l pre x a' W hl hr hi rfl hlt
  exact hbody l pre x W hi hlt
 ·rintro D c pre W _ _ h _
  exact h.elim
end
section
open Go.RowKit Go.Shelf
theorem boxed_ne {W : World} {B : Nat} {t e : TypeId} {u : Value} (h : Boxed W B t u) (hte : t ≠ e) {base size k : Nat} {v : Value} {xs : List Value} (hr : W.ownsRow base e size v k xs) : some B ≠ v.ownBlock := h.not_row hte hr
section
attribute [local go_sem] Oper.semAt_some
set_option maxHeartbeats 8000000 in
theorem appendSeqI_any {gf : Nat} {lb : Array Value} {S Sp : List Int → Prop} {N : Nat} (hN : N ≤ 100000) (w : World) (eg : Enters gf) (hseq : SeqStopsK Fence.wide 8 Tryz.prog gf lb (fun x : Int => #[.int .i64 x]) KeepsWalks S Sp N w) :
  Calls Tryz.prog 174 #[.slice none 0 0, .func (.func gf) #[] lb] w fun e w' => ∃ ys v, e = .returned v ∧ S ys ∧ w'.ownsRow w.heap.size 3 1 v ys.length (ints ys) ∧ Below w.heap.size w w' := by
 have HSEQ := hid hseq
 clear hseq
 refine callsIn_wide.1 (callsIn_of_wp_marks (F := Fence.wide) (n := 9) Tryz.func174 rfl trivial ?_ rfl)
 simp only [Tryz.ntmps174, List.size_toArray, List.length_cons, List.length_nil, Nat.reduceAdd, Nat.reduceSub, Array.replicate_succ, Array.replicate_zero, List.push_toArray, List.append_toArray, List.nil_append, List.cons_append]
 refine (wpIn_wide (n := 9)).2 ?_
 go_wp2_with fail
 obtain ⟨W0, hW0⟩ : ∃ W0, w.alloc (.cells #[.slice none 0 0] 25) = W0 := ⟨_, rfl⟩
 have hs0 : W0.heap.size = w.heap.size + 1 := by rw [← hW0]; simp
 have hv0 : Boxed W0 w.heap.size 25 (.slice none 0 0) := by rw [← hW0]; exact Boxed.new w _ _
 have hb0 : Below w.heap.size w W0 := by rw [← hW0]; exact (Below.refl _ w).alloc (Nat.le_refl _) _
 rw [hW0]
 clear hW0
 refine (wpIn_wide (n := 9)).1 ?_
 refine range_plain (F := Fence.wide) (n := 9) rfl (by decide) (gf := gf) rfl trivial eg HSEQ.out walksK_t walksK_b hb0
  (fun pre W => (∃ v, Boxed W w.heap.size 25 v ∧ W.ownsRow w.heap.size 3 1 v pre.length (ints pre) ∧ True) ∧ Below w.heap.size w W)
  (((holdsRow_own w.heap.size w.heap.size 25 3 1 (fun pre : List Int => pre.length) ints (fun _ _ => True)).from _).and (ownFrom_below (Nat.le_refl _) hb0.size)) ⟨⟨_, hv0, ⟨rfl, .inl ⟨rfl, rfl⟩⟩, trivial⟩, hb0⟩ 5 ?assign ?body ?done
 case assign =>
  rintro l pre x W K hI hK
  simp only [zz4, zz5, zz6] at hK ⊢
  gi_wp2_with fail
  exact hK _ (KeepsFrom.refl _ _) (KeepsWalks.refl _) hI
 case body =>
  rintro l pre x W ⟨⟨v, hv, hrow, _⟩, hbl⟩ hlt
  simp only [zz4, zz5, zz6]
  obtain ⟨i0, hi, hz0, hz1, hz2⟩ := ints_info
  have hc := hv.cell
  have hf := hv.frozen
  have hbs := hbl.size
  gi_wp2_with (first
   | (gi_at_builtin; refine wpListIn_append_own _ rfl _ _ 25 rfl w.heap.size 3 i0 (.int .i64 0) 1 8 intsl_u hi hz0 hz1 hz2 rfl (by decide) _ _ _ rfl (hrow.alloc _) ⟨W.heap.size, 0, none⟩ 1 1 [.int .i64 x] rfl rfl (cell_one_new _ _ _) (by simp [Value.oneCell']) (by simp [maxLen]; omega) (by omega) (by simp; omega) ?_; intro v' w3 hown' hg3 hnil3
      obtain ⟨hv1, hv2, ho2, hk2, hb2⟩ := hv.appended (tmp := .cells #[.int .i64 x] 3) (by decide) hrow hbs (Nat.le_refl _) hown' hg3
      have hc1 := hv1.cell
      have hf1 := hv1.frozen
      obtain ⟨g', cap', rfl⟩ := ownsRow_succ hown'))
  refine ⟨hk2.from _, hk2.walks, ⟨_, hv2, ?_, trivial⟩, hbl.trans hb2⟩
  rw [List.length_append]
  simpa [ints] using ho2
 case done =>
  rintro D ys W hD hS ⟨⟨v, hv, hrow, _⟩, hbl⟩ hK
  have hc := hv.cell
  obtain ⟨A7, k7, rfl, hx1⟩ := ownsRow.form hrow
  clear hx1
  go_wp2_with fail
  have hbs := hbl.size
  refine ⟨by simp, .inl ⟨_, _, rfl, run_takeDeferred hK, _, results_tmp rfl _ _ _, _, _, rfl, hS, ownsRow_putObj hrow _ hK rfl, ?_⟩⟩
  exact hbl.trans ((belowK_b (w := w) (Nat.le_refl _) W D _ _ (by omega) hK rfl rfl))
end
theorem collectI_any {gf : Nat} {lb : Array Value} {S Sp : List Int → Prop} {N : Nat} (hN : N ≤ 100000) (w : World) (eg : Enters gf) (hseq : SeqStopsK Fence.wide 8 Tryz.prog gf lb (fun x : Int => #[.int .i64 x]) KeepsWalks S Sp N w) :
  Calls Tryz.prog 135 #[.func (.func gf) #[] lb] w fun e w' => ∃ ys v, e = .returned v ∧ S ys ∧ w'.ownsRow w.heap.size 3 1 v ys.length (ints ys) ∧ Below w.heap.size w w' := by
 have HC := hid (appendSeqI_any hN w eg hseq)
 clear hseq
 go_enter Tryz.func135, Tryz.ntmps135
 go_wp2_with fail
 refine HC.out.mono ?_
 rintro e w2 ⟨ys, v, rfl, hS, ho, hb⟩
 obtain ⟨A7, k7, rfl, hx1⟩ := ownsRow.form ho
 have HO := hid ho
 have HB := hid hb
 clear hx1 ho hb HC
 go_wp2_with fail
 go_ret
 exact ⟨ys, _, rfl, hS, HO.out, HB.out⟩
theorem enters74 : Enters 136 := fun args w => by kernel_rfl
theorem sortedI_any {gf : Nat} {lb : Array Value} {S Sp : List Int → Prop} {N : Nat} (hN : N ≤ 100000) (hS : ∀ ys, S ys → ys.length ≤ 1000000) (w : World) (eg : Enters gf) (hseq : SeqStopsK Fence.wide 8 Tryz.prog gf lb (fun x : Int => #[.int .i64 x]) KeepsWalks S Sp N w) :
  Calls Tryz.prog 94 #[.func (.func gf) #[] lb] w fun e w' => ∃ ys v, e = .returned v ∧ S ys ∧ w'.ownsRow w.heap.size 3 1 v ys.length (ints (sortL ys)) ∧ Below w.heap.size w w' := by
 have HC := hid (collectI_any hN w eg hseq)
 clear hseq
 go_enter Tryz.func94, Tryz.ntmps94
 go_wp2_with fail
 refine HC.out.mono ?_
 rintro e w2 ⟨ys, v, rfl, hys, ho, hb⟩
 obtain ⟨A7, k7, rfl, hx1⟩ := ownsRow.form ho
 have HSO := hid (sort_own ho (hS ys hys))
 have HB := hid hb
 clear hx1 ho hb HC
 go_wp2_with fail
 refine HSO.out.mono ?_
 rintro e w3 ⟨rfl, ho3, hb3⟩
 have HO3 := hid ho3
 have HB3 := hid hb3
 clear ho3 hb3 HSO
 go_wp2_with fail
 go_ret
 refine ⟨ys, _, rfl, hys, HO3.out, ?_⟩
 rcases HB3.out with rfl | ⟨g, cap, _, hg, hgr⟩
 ·exact HB.out
 ·exact HB.out.grown hgr HB.out.size (fun k e => by cases e; exact hg)
/-- The numbers of a map, in ascending order, in a row of the call's own. -/
theorem sorted_any {w : World} {r : Nat} {f : Int → Option Bool} (hm : MapOf w r Value.bool f) (hbd : ∀ ys : List Int, ys.Nodup → (∀ p ∈ ys, (f p).isSome = true) → ys.length ≤ 100000) :
  Calls Tryz.prog 50 #[.map (some r)] w fun e w' => ∃ ys v, e = .returned v ∧ ys.Pairwise (· < ·) ∧ (∀ p, p ∈ ys ↔ (f p).isSome = true) ∧ w'.ownsRow w.heap.size 3 1 v ys.length (ints ys) ∧ Below w.heap.size w w' := by
 obtain ⟨m, hma, hn, hg⟩ := hm
 have hmem : ∀ p, p ∈ m.map (·.1) ↔ (f p).isSome = true := fun p => by
  rw [← hg p]
  rcases he : get m p with _ | e
  ·simp [get_none.1 he]
  ·simp only [Option.isSome_some, iff_true]
   exact List.mem_map_of_mem (f := Prod.fst) (get_mem he)
 have hml := hbd _ hn (fun p hp => (hmem p).1 hp)
 rw [List.length_map] at hml
 have HK := hid (keys_any r w)
 go_enter Tryz.func50, Tryz.ntmps50
 go_wp2_with fail
 refine HK.out.mono ?_
 rintro e w2 ⟨rfl, hb2, hc2, hlt2⟩
 have HS := hid (sortedI_any hml (fun ys (h : ys.Perm (m.map (·.1))) => by rw [h.length_eq, List.length_map]; omega) w2 enters74 (keys_stops 8 (by decide) w.heap.size r w2 (hma.below hb2) hc2))
 have HB := hid hb2
 clear hb2 hc2 HK
 go_wp2_with fail
 refine HS.out.mono ?_
 rintro e w3 ⟨ys, v, rfl, hys, ho, hb⟩
 obtain ⟨A7, k7, rfl, hx1⟩ := ownsRow.form ho
 have HO := hid ho
 have HB3 := hid (HB.out.trans (hb.mono HB.out.size))
 clear hx1 ho hb HS
 go_wp2_with fail
 go_ret
 refine ⟨sortL ys, _, rfl, sortL_strict (hys.nodup_iff.2 hn), fun p => ?_, by rw [sortL_length]; exact own_lo HO.out HB.out.size, HB3.out⟩
 rw [(sortL_perm ys).mem_iff, hys.mem_iff]
 exact hmem p
end
section
open Go.RowKit
/-- The beach that is being built, in world wr; W5 is the world before its box and its map were made. -/
structure LK (W5 wr : World) (bb s r4 : Nat) (v : Value) (fp : Int → Option Pcl) : Prop where
 below : Below W5.heap.size W5 wr
 box : wr.heap[bb]? = some (.cells #[.pointer (some ⟨s, 0, none⟩), v, .map (some r4)] 77 (0, 0))
 parcels : MapOf wr r4 Pcl.val fp
 hb : W5.heap.size ≤ bb
 hr : W5.heap.size ≤ r4
section
variable {W5 wr w' : World} {bb s r4 bs : Nat} {v : Value} {fp : Int → Option Pcl}
theorem LK.lt (h : LK W5 wr bb s r4 v fp) : bb < wr.heap.size ∧ r4 < wr.heap.size := ⟨(Array.getElem?_eq_some_iff.1 h.box).1, h.parcels.lt⟩
theorem LK.ne (h : LK W5 wr bb s r4 v fp) : r4 ≠ bb := by
 rintro rfl
 obtain ⟨m, ⟨es, c, h1, _⟩, _⟩ := h.parcels
 rw [h.box] at h1
 cases h1
theorem LK.at_ (h : LK W5 wr bb s r4 v fp) : wr.cell? ⟨bb, 0, none⟩ = some (.pointer (some ⟨s, 0, none⟩)) ∧ wr.cell? ⟨bb, 1, none⟩ = some v ∧ wr.cell? ⟨bb, 2, none⟩ = some (.map (some r4)) ∧ wr.frozen? ⟨bb, 1, none⟩ = false := by
 have := h.box
 simp [World.cell?, World.frozen?, this]
theorem LK.from_ (h : LK W5 wr bb s r4 v fp) (hk : Below bs wr w') (h1 : bb < bs) (h2 : r4 < bs) (h3 : W5.heap.size ≤ bs) : LK W5 w' bb s r4 v fp :=
 ⟨h.below.trans (hk.mono h3), (hk.block bb h1).trans h.box, h.parcels.same (hk.block r4 h2), h.hb, h.hr⟩
theorem LK.later (h : LK W5 wr bb s r4 v fp) (hk : Below wr.heap.size wr w') : LK W5 w' bb s r4 v fp := h.from_ hk h.lt.1 h.lt.2 h.below.size
theorem LK.grown {q : Nat} (h : LK W5 wr bb s r4 v fp) (hg : wr.grownBy w' (some q)) (hq : W5.heap.size ≤ q) (h1 : bb ≠ q) (h2 : r4 ≠ q) : LK W5 w' bb s r4 v fp :=
 ⟨h.below.grown hg h.below.size (fun k e => by cases e; exact hq), (hg.block bb h.lt.1 (fun e => h1 (by cases e; rfl))).trans h.box, h.parcels.same (hg.block r4 h.lt.2 (fun e => h2 (by cases e; rfl))), h.hb, h.hr⟩
theorem LK.drew (h : LK W5 wr bb s r4 v fp) : LK W5 wr.drew bb s r4 v fp := ⟨h.below.drew, h.box, h.parcels.same rfl, h.hb, h.hr⟩
theorem LK.setids (h : LK W5 wr bb s r4 v fp) (v' : Value) : LK W5 (wr.setCell ⟨bb, 1, none⟩ v') bb s r4 v' fp :=
 ⟨h.below.setCell (p := ⟨bb, 1, none⟩) h.hb _, block_set h.box, h.parcels.same (by
  simp only [World.setCell, Array.getElem?_modify]
  rw [if_neg (fun e => h.ne e.symm)]), h.hb, h.hr⟩
theorem mapP_u : Tryz.prog.underlying 75 = some (.map 3 38) := by kernel_rfl
theorem LK.put (h : LK W5 wr bb s r4 v fp) (p : Int) (q : Pcl) : ∃ w', (Instr.mapUpdate 75 (.map (some r4)) (.int .i64 p) q.val).run Tryz.prog wr = .ok () w' ∧
  LK W5 w' bb s r4 v (fun x => if x = p then some q else fp x) ∧ wr.grownBy w' (some r4) ∧ Calm wr w' := by
 obtain ⟨w', h1, h2, h3⟩ := h.parcels.put mapP_u p q
 have hc := Calm.of_put h.parcels h3
 exact ⟨w', h1, ⟨h.below.grown h3 h.below.size (fun k e => by cases e; exact h.hr), hc _ _ _ _ h.box, h2, h.hb, h.hr⟩, h3, hc⟩
def zp : Pcl := ⟨0, 0, 0, .empty, .empty, 0, 0, 0, 0, 0, false, false⟩
theorem pcl_zero (w : World) : (zeroValue 38).run Tryz.prog w = .ok zp.val w := by kernel_rfl
theorem orZ_pcl (o : Option Pcl) : orZ zp.val Pcl.val o = (o.getD zp).val := by cases o <;> rfl
theorem LK.look (h : LK W5 wr bb s r4 v fp) (p : Int) : (Instr.lookup 75 (.map (some r4)) (.int .i64 p) false).run Tryz.prog wr = .ok ((fp p).getD zp).val wr := by
 rw [← orZ_pcl]
 exact h.parcels.look mapP_u zp.val (pcl_zero wr) p
theorem LK.look2 (h : LK W5 wr bb s r4 v fp) (p : Int) : (Instr.lookup 75 (.map (some r4)) (.int .i64 p) true).run Tryz.prog wr = .ok (.tuple #[((fp p).getD zp).val, .bool (fp p).isSome]) wr := by
 rw [← orZ_pcl]
 exact h.parcels.look2 mapP_u zp.val (pcl_zero wr) p
/-- The box and the map when they have just been made. -/
theorem beach_gen {w : World} {s a1 : Nat} {F : World → Prop} (h1 : a1 = w.heap.size) (h : ∀ W1, LK w W1 (w.heap.size + 1) s w.heap.size (.slice none 0 0) (fun _ => none) → F W1) :
  F ((w.alloc (.map #[] 0)).alloc (.cells #[.pointer (some ⟨s, 0, none⟩), .slice none 0 0, .map (some a1)] 77)) := by
 subst h1
 refine h _ ⟨((Below.refl _ _).alloc (Nat.le_refl _) _).alloc (by simp) _, ?_, ⟨[], ⟨#[], 0, ?_, rfl, by simp [Borns]⟩, List.nodup_nil, fun _ => rfl⟩, by omega, Nat.le_refl _⟩
 ·have : w.heap.size + 1 = (w.alloc (.map #[] 0)).heap.size := by simp
  rw [this, heap_alloc_new]
 ·exact (heap_alloc_old (w.alloc (.map #[] 0)) _ (i := w.heap.size) (by simp)).trans (heap_alloc_new w _)
end
theorem setCell_ne (w : World) {b i k : Nat} {v : Value} (h : k ≠ b) : (w.setCell ⟨b, i, none⟩ v).heap[k]? = w.heap[k]? := by
 simp only [World.setCell, Array.getElem?_modify]
 rw [if_neg (fun e => h e.symm)]
theorem store_pcl_new {ops : Array Oper} {rest : List Oper} {o : Oper} {a : Act} {w : World} {Q : Exit → Act → World → Prop} (hgd : o.guard = none) (x y : Operand) (ho : o.op = .store 38 x y)
  {g : Nat} (hx : a.eval x = .pointer (some ⟨g, 0, none⟩)) (hgw : g = w.heap.size) {q : Pcl} (hy : a.eval y = q.val) {zs : Array Value} (hs : zs.size = 12)
  (h : ∀ W, PclIs W g q → Below w.heap.size w W → w.heap.size < W.heap.size → wpList Tryz.prog ops Q rest (a.put o.dst undef) W) : wpList Tryz.prog ops Q (o :: rest) a (w.alloc (.cells zs 38)) := by
 subst hgw
 refine wpList_store_row hgd _ x y ho w.heap.size q.cells hx hy _ zs (heap_alloc_new w _) pcl_info (hs.trans rfl) (pcl_one q) (h _ (setRow_heap _ _ _ _ _ _ (heap_alloc_new w _)) (below_setRow ((Below.refl _ _).alloc (Nat.le_refl _) _) (Nat.le_refl _) _) ?_)
 simp
theorem step_put {P : Program} {ops : Array Oper} {o : Oper} {a : Act} {w w' : World} {K : Act → World → Prop} {Q : Exit → Act → World → Prop} {E : Prop}
  (hg : o.guard = none) {t : TypeId} (x k y : Operand) (ho : o.op = .mapUpdate t x k y) {vx vk vy : Value} (hx : a.eval x = vx) (hk : a.eval k = vk) (hy : a.eval y = vy)
  (hr : (Instr.mapUpdate t vx vk vy).run P w = .ok () w') (hK : K (a.put o.dst undef) w') :
  if Region.wanted o (yielded ops a.tmps) = true then Oper.wp P o a w K Q else E := by
 have hw : Region.wanted o (yielded ops a.tmps) = true := by simp [Region.wanted, hg]
 rw [if_pos hw]
 unfold Oper.wp execOp
 simp only [ho, hx, hk, hy, hr, Sem.run_bind, Result.andThen_ok, Sem.run_pure]
 exact hK
theorem made_of {C : List Ent} {p : Int} (h : (makerE C p).isSome = true) : MadeBy (reps C) C.length p := by
 rcases he : makerE C p with _ | e
 ·rw [he] at h
  cases h
 ·obtain ⟨h1, h2⟩ := makerE_some he
  obtain ⟨j, hj, rfl⟩ := List.getElem_of_mem h1
  exact ⟨j, by simpa [reps] using hj, hj, by simpa [reps] using h2⟩
theorem enters41 : Enters 90 := fun args w => by kernel_rfl
def parF (C : List Ent) (ids : List Int) (k : Nat) (p : Int) : Option Pcl := if p ∈ ids.take k then some (parcelF C p) else none
theorem parF_zero (C : List Ent) (ids : List Int) : parF C ids 0 = fun _ => none := by funext p; simp [parF]
theorem parF_all (C : List Ent) (ids : List Int) : parF C ids ids.length = fun p => if p ∈ ids then some (parcelF C p) else none := by funext p; simp [parF]
theorem parF_step (C : List Ent) (ids : List Int) (k : Nat) (h : k < ids.length) : (fun x => if x = ids[k] then some (parcelF C ids[k]) else parF C ids k x) = parF C ids (k + 1) := by
 funext p
 unfold parF
 rw [List.take_succ_eq_append_getElem h]
 have hm : p ∈ ids.take k ++ [ids[k]] ↔ p ∈ ids.take k ∨ p = ids[k] := by rw [List.mem_append, List.mem_singleton]
 by_cases e : p = ids[k]
 ·rw [if_pos e, if_pos (hm.2 (.inr e)), e]
 ·rw [if_neg e]
  by_cases m : p ∈ ids.take k
  ·rw [if_pos m, if_pos (hm.2 (.inl m))]
  ·rw [if_neg m, if_neg (fun h => (hm.1 h).elim m e)]
def keepL (C : List Ent) (done : List (Int × Ent)) : List Int := (done.map (·.1)).filter (keepB C)
theorem keepL_snoc (C : List Ent) (done : List (Int × Ent)) (a : Int × Ent) : keepL C (done ++ [a]) = keepL C done ++ if keepB C a.1 then [a.1] else [] := by
 unfold keepL
 rw [List.map_append, List.filter_append]
 cases h : keepB C a.1 <;> simp [h]
theorem keepL_length (C : List Ent) (done : List (Int × Ent)) : (keepL C done).length ≤ done.length := by
 unfold keepL
 exact Nat.le_trans (List.length_filter_le _ _) (by simp)
theorem app_big {w : World} {base : Nat} {v : Value} {xs : List Int} (x : Int) (hown : w.ownsRow base 3 1 v xs.length (ints xs)) (hl : xs.length ≤ 100000) (hbase : base ≤ w.heap.size) :
  ∃ v' w', (Builtin.append_ #[25, 25] 25 #[v, .slice (some ⟨w.heap.size, 0, none⟩) 1 1]).run Tryz.prog (w.alloc (.cells #[.int .i64 x] 3)) = .ok v' w' ∧ w'.ownsRow base 3 1 v' (xs ++ [x]).length (ints (xs ++ [x])) ∧ (Below base w w') := by
 obtain ⟨v', w', hr2, ho', hg'⟩ := app_ints (w := w.alloc (.cells #[.int .i64 x] 3)) (c := 1) (A := some ⟨w.heap.size, 0, none⟩) (ys := [x]) (hown.alloc _) (fun _ => ⟨w.heap.size, 0, rfl, fun j hj => by
  have : j = 0 := by simpa using hj
  subst this; simp⟩) (by simp; omega) (by simp; omega)
 exact ⟨v', w', hr2, ho', ((Below.refl _ _).alloc hbase _).grown hg' (by simp; omega) (fun g e => (hown.lt g e).1)⟩
/-- The beach as looks hands it back. -/
structure LooksAt (w : World) (bb s r1 r2 r3 r4 : Nat) (A : Option Addr) (cap : Nat) (C : List Ent) (ids : List Int) : Prop where
 box : ∃ Ai c, w.heap[bb]? = some (.cells #[.pointer (some ⟨s, 0, none⟩), .slice Ai ids.length c, .map (some r4)] 77 (0, 0)) ∧ IntsAt w Ai ids ∧ ids.length ≤ c
 store : StoreIs w s r1 r2 r3 A C.length cap (makerE C) (userE C) (hidE C)
 ents : EntsAt w A C
 parcels : MapOf w r4 Pcl.val (fun p => if p ∈ ids then some (parcelF C p) else none)
 sound : Sound (reps C)
 ids : IdsOf C ids
theorem LooksAt.below {w w' : World} {bb s r1 r2 r3 r4 : Nat} {A : Option Addr} {cap : Nat} {C : List Ent} {ids : List Int} (h : LooksAt w bb s r1 r2 r3 r4 A cap C ids) (hb : Below w.heap.size w w') : LooksAt w' bb s r1 r2 r3 r4 A cap C ids := by
 obtain ⟨⟨Ai, c, h1, h2, h3⟩, h4, h5, h6, h7, h8⟩ := h
 exact ⟨⟨Ai, c, (hb.block bb (Array.getElem?_eq_some_iff.1 h1).1).trans h1, h2.kept (Kept.of_below hb), h3⟩, h4.below hb, h5.below hb, h6.below hb, h7, h8⟩
def LooksPost (L : List Ent) (K : Int) (ps : List Int) (w : World) (e : Ending) (w' : World) : Prop :=
 Below w.heap.size w w' ∧ ((∃ i en, CheckIs (reps L) i en ∧ en ≠ 0 ∧ e = .returned (.tuple #[.pointer none, .int .i64 en])) ∨
  (Valid (reps L) ∧ ∃ ids, IdsOf (countE L K) ids ∧ (((∃ p ∈ ps, p ∉ ids) ∧ e = .returned (.tuple #[.pointer none, .int .i64 30])) ∨
   ((∀ p ∈ ps, p ∈ ids) ∧ ∃ bb s r1 r2 r3 r4 A cap, e = .returned (.tuple #[.pointer (some ⟨bb, 0, none⟩), .int .i64 0]) ∧ LooksAt w' bb s r1 r2 r3 r4 A cap (countE L K) ids))))
end
set_option maxHeartbeats 16000000 in
theorem looks_any (A : Option Addr) (cap : Nat) (L : List Ent) (K : Int) (PA : Option Addr) (pc : Nat) (ps : List Int) (w : World) (hA : EntsAt w A L) (hl : L.length ≤ 210) (hcap : L.length ≤ cap) (hP : IntsAt w PA ps) (hpl : ps.length ≤ 1000) :
  Calls Tryz.prog 46 #[.slice A L.length cap, .int .i64 K, .slice PA ps.length pc] w (LooksPost L K ps w) := by
 have HCK := hid (check_any A cap L w hA hl hcap)
 have hct := fun w1 (hb : Below w.heap.size w w1) => counting_any A cap L K w1 (hA.below hb) hl
 have HE := hid hA
 have HP := hid hP
 have HL := hid hl
 have hmm := @run_makeMap Tryz.prog
 have HCT := hid hct
 clear hA hP hct
 go_enter Tryz.func46, Tryz.ntmps46
 go_wp2_with fail
 refine HCK.out.mono ?_
 rintro e w1 ⟨⟨i, en, rfl, hck⟩, hb1⟩
 have HB1 := hid hb1
 rcases hck with ⟨hv, rfl, rfl⟩ | ⟨k, hk, hv, hf, hne, rfl⟩
 case inr =>
  have HX : Hid (CheckIs (reps L) k en) := hid (.inr ⟨k, hk, hv, hf, hne, rfl⟩)
  clear hv hf hb1 HCK hk
  go_wp2_with fail
  go_ret2
  exact ⟨HB1.out, .inl ⟨_, _, HX.out, hne, rfl⟩⟩
 have HV := hid hv
 clear hb1 hv HCK
 obtain ⟨C, hC⟩ : ∃ C, countE L K = C := ⟨_, rfl⟩
 have hrc : reps C = counting (reps L) K := by rw [← hC]; exact countE_reps L K
 have hsub : ∀ e ∈ C, e ∈ L := by rw [← hC]; exact countE_sub L K
 have hcl : C.length ≤ 210 := by have := countE_len L K; rw [hC] at this; omega
 have hsound : Sound (reps C) := by rw [hrc]; exact HV.out.sound K
 have HSUB := hid hsub
 have HSO := hid hsound
 have HCL := hid hcl
 have hct := HCT.out w1 HB1.out
 rw [hC] at hct
 have HCC := hid hct
 have HWC : Hid (∀ e ∈ C, e.1.Wf) := hid (fun e he => hsound.wfs _ (List.mem_map_of_mem (f := Prod.fst) he))
 have HCE := hid hC
 clear hC hrc hsub hsound hct HCT hcl
 go_wp2_with fail
 refine HCC.out.mono ?_
 rintro e w4 ⟨v4, rfl, ho4, hb4⟩
 obtain ⟨A4, k4, rfl, hc4, hk4, hm4⟩ := ownsRow.form3 ho4
 have HB4 := hid (HB1.out.trans (hb4.mono HB1.out.size))
 have HE4 : Hid (EntsAt w4 A4 C) := hid ⟨rows_of_cells hc4, fun e he => ((HE.out.below HB4.out).parts e (HSUB.out e he))⟩
 have HST := hid (stored_any A4 k4 C w4 HE4.out HWC.out HCL.out)
 clear ho4 hb4 hc4 hk4 hm4 HCC HB1
 go_wp2_with fail
 refine HST.out.mono ?_
 rintro e w5 ⟨s, r1, r2, r3, rfl, hs5, hb5⟩
 have HB5 := hid (HB4.out.trans (hb5.mono HB4.out.size))
 have HE5 := hid (HE4.out.below hb5)
 have HP5 := hid (HP.out.kept (Kept.of_below HB5.out))
 have HS5 := hid hs5
 clear hs5 hb5 HST HE4 HB4 HE HP
 go_upto_region 5 with (fail)
 refine beach_gen rfl ?_
 intro W1 hW1
 have HS1 := HS5.out.below hW1.below
 obtain ⟨m, hm, hn, hg⟩ := HS1.maker
 obtain ⟨_, s1, _, _⟩ := HS1.cell
 obtain ⟨b0, b1, b2, _⟩ := hW1.at_
 obtain ⟨w6, hrr, hrg, hb6, hlt6⟩ := run_range (P := Tryz.prog) mapR_u hm
 have HRR := hid hrr
 have HN := hid hn
 have HG := hid hg
 have HML := hid (keys_bound HWC.out hn hg)
 have HRG := hid hrg
 have HW6 := hid (hW1.later hb6)
 have HQ : Hid (w5.heap.size + 1 < W1.heap.size ∧ w5.heap.size < W1.heap.size) := hid ⟨hW1.lt.1, hW1.lt.2⟩
 have HLT6 := hid hlt6
 clear hrr hn hg hm hrg hb6 hW1 HS1 hlt6
 go_wp2_with (first | refine range_op rfl _ rfl rfl HRR.out ?_)
 clear s1 b0 b1 b2
 have HR1 : Hid (r1 < w5.heap.size) := hid HS5.out.maker.lt
 have HRQ : Hid (r1 < W1.heap.size) := hid (HRG.out.lt.1 |> fun _ => by have := HS5.out.maker.lt; have := HQ.out; omega)
 go_frame
 go_loopg [] (m.length) (fun g wr => ∃ (done rest : List (Int × Ent)) (v : Value), g = rest.length ∧ Hid ((done ++ rest).Perm m) ∧ Hid (Ranging wr r1 W1.heap.size evR rest) ∧ Hid (LK w5 wr (w5.heap.size + 1) s w5.heap.size v (fun _ => none)) ∧
  Hid (wr.ownsRow w6.heap.size 3 1 v (keepL C done).length (ints (keepL C done))) ∧ Hid (w6.heap.size ≤ wr.heap.size))
 case atStart => exact ⟨[], m, _, rfl, hid (List.Perm.refl _), HRG, HW6, hid (by simpa [keepL, ints] using World.ownsRow_nil _ _ _ _), hid (Nat.le_refl _)⟩
 case round =>
  obtain ⟨done, rest, v, hgk, hpm, hrg, hlk, how, hsz⟩ := hrel
  rcases hrg.out.next (P := Tryz.prog) 0 (by have := HRQ.out; omega) with ⟨rfl, hrun⟩ | ⟨L1, a, L2, w2, rfl, hrun, hrg2, hgb, hsz2, hent⟩
  ·have hgp := ids_of (C := C) HN.out HG.out (by have := (hpm.out.map (·.1)); simpa using this)
   obtain ⟨A7, k7, rfl, hx1, hk7, hx2⟩ := ownsRow.form how.out
   clear hx1 hx2
   have hbl : (keepL C done).length ≤ 100000 := by have := keepL_length C done; have := hpm.out.length_eq; have := HML.out; have := HCL.out; simp at *; omega
   have hso := sort_own how.out (by omega)
   obtain ⟨ids, hids⟩ : ∃ l, sortL (keepL C done) = l := ⟨_, rfl⟩
   have hil : ids.length = (keepL C done).length := by rw [← hids]; exact sortL_length _
   rw [hids, ← hil] at hso
   rw [← hil] at hk7 hbl
   have hgp2 : IdsOf C ids := by rw [← hids]; exact hgp
   have HIL := hid hil
   have HSORT := hid hso
   have HIDS := hid hgp2
   have HK7 := hid hk7
   have HBL := hid hbl
   have HRUN := hid hrun
   obtain ⟨b0, b1, b2, bf⟩ := hlk.out.at_
   rw [← hil] at b1
   clear hgp hids hso hgp2 hk7 hbl hrun hil hrg
   go_upto_region 7 with (first | refine next_op rfl _ rfl rfl rfl HRUN.out ?_)
   refine HSORT.out.mono ?_
   rintro e w8 ⟨rfl, ho8, hw8⟩
   have hb8 : Below w6.heap.size wr w8 := by
    rcases hw8 with rfl | ⟨g, cap8, hv8, hg8, hgr⟩
    ·exact Below.refl _ _
    ·exact (Below.refl _ _).grown hgr hsz.out (fun k e => by cases e; exact hg8)
   have hq := HQ.out
   have hq6 := HLT6.out
   have hlk8 := hlk.out.from_ hb8 (by omega) (by omega) (by omega)
   have HO8 := hid ho8
   have HLK8 := hid hlk8
   have HSZ8 : Hid (w6.heap.size ≤ w8.heap.size) := hid (Nat.le_trans hsz.out hb8.size)
   obtain ⟨c0, c1, c2, cf⟩ := hlk8.at_
   rw [← HIL.out] at c1 HLK8
   have hk7 := HK7.out
   clear hw8 hb8 ho8 hlk8 b0 b1 b2 bf HSORT how hlk hsz hpm HRUN
   go_upto_region 13 with (fail)
   have HK7 := hid hk7
   clear hk7 c0 c1 c2 cf
   go_loopg [86] (ids.length) (fun g i wr => ∃ k : Nat, k ≤ ids.length ∧ g = ids.length - k ∧ i = .int .i64 k ∧ Hid (LK w5 wr (w5.heap.size + 1) s w5.heap.size (.slice A7 ids.length k7) (parF C ids k)) ∧ Hid (wr.ownsRow w6.heap.size 3 1 (.slice A7 ids.length k7) ids.length (ints ids)) ∧ Hid (w6.heap.size ≤ wr.heap.size))
   case atStart => exact ⟨0, by omega, by omega, rfl, hid (by rw [parF_zero]; exact HLK8.out), HO8, HSZ8⟩
   case round =>
    obtain ⟨k, hk, hgk, rfl, HLKr, HOr, HSZr⟩ := hrel
    by_cases hlt : k < ids.length
    ·obtain ⟨b, off, hAe, hc⟩ := ownsRow_ints HOr.out (by omega)
     subst hAe
     have hck := hc k hlt
     obtain ⟨p, hp⟩ : ∃ p, ids[k] = p := ⟨_, rfl⟩
     have hmk : (makerE C p).isSome = true := ((HIDS.out.2 p).1 (by rw [← hp]; exact List.getElem_mem hlt)).1
     have hst := parF_step C ids k hlt
     rw [hp] at hck hst
     have HST := hid hst
     have i0 : (0 : Int) ≤ k := by omega
     have i1 : (k : Int) < ids.length := by omega
     have i2 : (ids.length : Int) < 9223372036854775807 := by have := HBL.out; omega
     have hpa := parcel_any (HS5.out.below (HLKr.out.drew).below) (HE5.out.below (HLKr.out.drew).below) HSO.out HCL.out p (made_of hmk)
     have HPA : Hid (Calls Tryz.prog 90 #[.pointer (some ⟨s, 0, none⟩), .int .i64 p] wr.drew fun e w' => e = .returned (parcelF C p).val ∧ Below wr.heap.size wr w') := hid (hpa.mono fun e w' h => ⟨h.1, (Below.refl _ wr).drew.trans h.2⟩)
     have hbl2 := HBL.out
     clear hc hp hmk hst hpa
     go_upto_region 14 with (fail)
     go_upto_region 15 with (fail)
     clear hck
     refine wp_region_noPanic ?_
     refine wp_region_held_drew (S := fun w' => w'.cell? ⟨w5.heap.size + 1, 0, none⟩ = some (.pointer (some ⟨s, 0, none⟩)) ∧ w'.cell? ⟨w5.heap.size + 1, 2, none⟩ = some (.map (some w5.heap.size))) (by kernel_rfl) (⟨(HLKr.out.drew).at_.1, (HLKr.out.drew).at_.2.2.1⟩) (fun hHeld => ?_)
     refine tk 0 (fun _ _ _ _ _ h => h) (by kernel_rfl) ‹_› ⟨_, ?_, by simp only [zz1, zz2]; rfl, .inl ⟨by rfl, ?_⟩, ?_⟩; rotate_left; · (intro w hSw; (try dsimp only at hSw); go_simp; all_goals with_reducible rfl)
     simp only [Act.put, zz4, zz5, zz6]
     refine tk 1 (fun _ _ _ _ _ h => h) (by kernel_rfl) ‹_› ⟨_, ?_, by simp only [zz1, zz2, zz3]; rfl, .inl ⟨by rfl, ?_⟩, ?_⟩; rotate_left; · (intro w hSw; (try dsimp only at hSw); go_simp; all_goals with_reducible rfl)
     simp only [Act.put, zz4, zz5, zz6]
     refine tk 2 (fun _ _ _ _ _ h => h) (by kernel_rfl) ‹_› ⟨_, ?_, by simp only [zz1, zz2, zz3]; rfl, .inl ⟨by rfl, ?_⟩, ?_⟩; rotate_left; · (intro w hSw; (try dsimp only at hSw); go_simp; all_goals with_reducible rfl)
     simp only [Act.put, zz4, zz5, zz6]
     refine tk 3 (fun _ _ _ _ _ h => h) (by kernel_rfl) ‹_› ⟨_, ?_, by simp only [zz1, zz2, zz3]; rfl, .inl ⟨by rfl, ?_⟩, ?_⟩; rotate_left; · (intro w hSw; (try dsimp only at hSw); go_simp; all_goals with_reducible rfl)
     simp only [Act.put, zz4, zz5, zz6]
     refine tk 4 (fun _ _ _ _ _ h => h) (by kernel_rfl) ‹_› ⟨_, ?_, by simp only [zz1, zz2, zz3]; rfl, .inl ⟨by rfl, ?_⟩, ?_⟩; rotate_left; · (intro w hSw; (try dsimp only at hSw); go_simp; all_goals with_reducible rfl)
     simp only [Act.put, zz4, zz5, zz6]
     refine tk 5 (fun _ _ _ _ _ h => h) (by kernel_rfl) ‹_› ⟨_, ?_, by simp only [zz1, zz2, zz3]; rfl, .inl ⟨by rfl, ?_⟩, ?_⟩; rotate_left; · (intro w hSw; (try dsimp only at hSw); go_simp; all_goals with_reducible rfl)
     simp only [Act.put, zz4, zz5, zz6]
     refine tk 6 (fun _ _ _ _ _ h => h) (by kernel_rfl) ‹_› ⟨_, ?_, by simp only [zz1, zz2, zz3]; rfl, .inl ⟨by rfl, ?_⟩, ?_⟩; rotate_left; · (intro w hSw; (try dsimp only at hSw); go_simp; all_goals with_reducible rfl)
     simp only [Act.put, zz4, zz5, zz6]
     refine tk 7 (fun _ _ _ _ _ h => h) (by kernel_rfl) ‹_› ⟨_, ?_, by simp only [zz1, zz2, zz3]; rfl, .inl ⟨by rfl, ?_⟩, ?_⟩; rotate_left; · (intro w hSw; (try dsimp only at hSw); go_simp; all_goals with_reducible rfl)
     simp only [Act.put, zz4, zz5, zz6]
     refine tk 8 (fun _ _ _ _ _ h => h) (by kernel_rfl) ‹_› ⟨_, ?_, by simp only [zz1, zz2, zz3]; rfl, .inl ⟨by rfl, ?_⟩, ?_⟩; rotate_left; · (intro w hSw; (try dsimp only at hSw); go_simp; all_goals with_reducible rfl)
     simp only [Act.put, zz4, zz5, zz6]
     refine tk 9 (fun _ _ _ _ _ h => h) (by kernel_rfl) ‹_› ⟨_, ?_, by simp only [zz1, zz2, zz3]; rfl, .inl ⟨by rfl, ?_⟩, ?_⟩; rotate_left; · (intro w hSw; (try dsimp only at hSw); go_simp; all_goals with_reducible rfl)
     simp only [Act.put, zz4, zz5, zz6]
     refine wpAnyH_ready (rs := [10]) (by kernel_rfl) (by simp) ?_
     refine cons_one (i := 10) ⟨_, by simp only [zz1, zz2, zz3]; rfl, fun K hK => ?_⟩ ?_
     rotate_left
     ·exact AllReadyH.nil
     refine step_call rfl #[.tmp 98, .tmp 99] 90 _ rfl enters41 #[.pointer (some ⟨s, 0, none⟩), .int .i64 p] ?hs (fun u w' => u = (parcelF C p).val ∧ Below wr.heap.size wr w') ((HPA.out).mono (fun e w' h => ⟨_, h.1, rfl, h.2⟩)) ?_
     case hs => simp [Act.eval]
     rintro _ w9 ⟨rfl, hb9⟩
     have HLK9 := hid (HLKr.out.later hb9)
     have HOW9 := hid (own_below HOr.out hb9)
     have HSZ9 : Hid (w6.heap.size ≤ w9.heap.size) := hid (Nat.le_trans HSZr.out hb9.size)
     obtain ⟨w10, hr10, hlk10, hg10, _⟩ := HLK9.out.put p (parcelF C p)
     have HR10 := hid hr10
     have HLK10 := hid hlk10
     have HG10 := hid hg10
     clear hb9 hr10 hlk10 hg10
     clear hHeld
     refine hK.out _ _ (⟨(HLK9.out).at_.1, (HLK9.out).at_.2.2.1⟩) (fun hHeld => ?_)
     clear hK K
     try simp only [Act.put, zz4, zz5, zz6]
     refine wpAnyH_ready (rs := [11]) (by kernel_rfl) (by simp) ?_
     refine cons_one (i := 11) ⟨_, by simp only [zz1, zz2, zz3]; rfl, fun K hK => ?_⟩ ?_
     rotate_left
     ·exact AllReadyH.nil
     refine step_put rfl _ _ _ rfl ?hx ?hk ?hy HR10.out ?_
     case hx => simp [Act.eval]
     case hk => simp [Act.eval]
     case hy => simp [Act.eval]
     clear hHeld
     refine hK.out _ _ (⟨(HLK10.out).at_.1, (HLK10.out).at_.2.2.1⟩) (fun hHeld => ?_)
     clear hK K
     try simp only [Act.put]
     refine wpAnyH_done (by kernel_rfl) ?_ _
     refine NoPanic.normal ?_
     go_wp2_with fail
     go_roundg (ids.length - (k + 1))
     case measure => omega
     case rel => exact ⟨k + 1, by omega, rfl, by go_num, hid (by rw [← HST.out]; exact HLK10.out), hid (HOW9.out.kept HG10.out (.inr fun e => by have := (HOW9.out.lt _ e).1; have := HQ.out; have := HLT6.out; omega)), hid (Nat.le_trans HSZ9.out HG10.out.size)⟩
    ·obtain rfl : k = ids.length := by omega
     have hfp := HLKr.out
     rw [parF_all] at hfp
     have HLKe := hid hfp
     have hpl2 : (ps.length : Int) ≤ 1000 := by omega
     clear hfp
     go_upto_region 18 with (fail)
     go_loopg [104] (ps.length) (fun g i wx => ∃ j : Nat, j ≤ ps.length ∧ g = ps.length - j ∧ i = .int .i64 j ∧ Hid (∀ p ∈ ps.take j, p ∈ ids) ∧ Hid (Below wr.heap.size wr wx))
     case atStart => exact ⟨0, by omega, by omega, rfl, hid (by simp), hid (Below.refl _ _)⟩
     case round =>
      obtain ⟨j, hj, hgj, rfl, hall, hbx⟩ := hrel
      have HLKx := hid (HLKe.out.later hbx.out)
      have HORx := hid (own_below HOr.out hbx.out)
      by_cases hjlt : j < ps.length
      ·obtain ⟨b, off, hAe, hc⟩ := (HP5.out.kept (Kept.of_below HLKx.out.below)) (by omega)
       subst hAe
       have hck := hc j hjlt
       obtain ⟨p, hp⟩ : ∃ p, ps[j] = p := ⟨_, rfl⟩
       have hsn : ps.take (j + 1) = ps.take j ++ [p] := by rw [List.take_succ_eq_append_getElem hjlt, hp]
       have hpm : p ∈ ps := by rw [← hp]; exact List.getElem_mem hjlt
       rw [hp] at hck
       have i0 : (0 : Int) ≤ j := by omega
       have i1 : (j : Int) < ps.length := by omega
       obtain ⟨c0, c1, c2, cf⟩ := HLKx.out.at_
       have hlk := HLKx.out.look2 p
       obtain ⟨q, hq⟩ : ∃ q, (if p ∈ ids then some (parcelF C p) else none).getD zp = q := ⟨_, rfl⟩
       obtain ⟨is, his⟩ : ∃ is, (if p ∈ ids then some (parcelF C p) else none).isSome = is := ⟨_, rfl⟩
       rw [hq, his] at hlk
       have HIS := hid his
       have HSN := hid hsn
       have HPM := hid hpm
       clear hc hp hsn hpm hq his
       rcases is with _ | _
       ·have hno : p ∉ ids := fun h => by have := HIS.out; rw [if_pos h] at this; cases this
        have HNO := hid hno
        clear hno
        go_wp2_with (first | (refine store_pcl_new rfl _ _ rfl rfl rfl (q := q) rfl rfl ?_; intro wy hpy hby hlty; have HBY := hid (hbx.out.trans (hby.mono hbx.out.size)); clear hby hpy))
        go_ret2
        exact ⟨HB5.out.trans ((HLKe.out.below.trans (HBY.out.mono HLKe.out.below.size)).mono HB5.out.size), .inr ⟨HV.out, ids, by rw [HCE.out]; exact HIDS.out, .inl ⟨⟨p, HPM.out, HNO.out⟩, rfl⟩⟩⟩
       ·have hyes : p ∈ ids := Classical.byContradiction fun h => by have := HIS.out; rw [if_neg h] at this; cases this
        have HYES := hid hyes
        clear hyes
        go_wp2_with (first | (refine store_pcl_new rfl _ _ rfl rfl rfl (q := q) rfl rfl ?_; intro wy hpy hby hlty; have HBY := hid (hbx.out.trans (hby.mono hbx.out.size)); clear hby hpy))
        go_roundg (ps.length - (j + 1))
        case measure => omega
        case rel => exact ⟨j + 1, by omega, rfl, by go_num, hid (fun x hx => by
         rw [HSN.out] at hx
         rcases List.mem_append.1 hx with h | h
         ·exact hall.out x h
         ·rw [List.mem_singleton] at h
          rw [h]
          exact HYES.out), HBY⟩
      ·obtain rfl : j = ps.length := by omega
       have HALL : Hid (∀ p ∈ ps, p ∈ ids) := hid (by have := hall.out; rwa [List.take_length] at this)
       clear hall
       go_wp2_with fail
       go_ret2
       refine ⟨HB5.out.trans (HLKx.out.below.mono HB5.out.size), .inr ⟨HV.out, ids, by rw [HCE.out]; exact HIDS.out, .inr ⟨HALL.out, w5.heap.size + 1, s, r1, r2, r3, w5.heap.size, A4, k4, rfl, ?_⟩⟩⟩
       rw [HCE.out]
       exact ⟨⟨A7, k7, HLKx.out.box, ownsRow_ints HORx.out, HK7.out⟩, HS5.out.below HLKx.out.below, HE5.out.below HLKx.out.below, HLKx.out.parcels, HSO.out, HIDS.out⟩
  ·have hq := HQ.out
   have hq6 := HLT6.out
   have hlk2 := hlk.out.grown hgb (by omega) (by omega) (by omega)
   have how2 := how.out.kept hgb (by
    rcases hv : v.ownBlock with _ | k
    ·exact .inl rfl
    ·exact .inr fun e => by
      cases e
      have := (how.out.lt _ hv).1
      omega)
   have HRUN := hid hrun
   have HENT := hid hent
   have HRG2 := hid hrg2
   have HSZ2 : Hid (w6.heap.size ≤ w2.heap.size) := hid (by rw [hsz2]; exact hsz.out)
   have HS2 := HS5.out.below hlk2.below
   obtain ⟨_, _, s2, _⟩ := HS2.cell
   obtain ⟨b0, b1, _, bf⟩ := hlk2.at_
   have hlu := HS2.user.lookR2 a.1
   obtain ⟨⟨u, Pu, cu⟩, hu⟩ : ∃ y, entOr (userE C a.1) = y := ⟨_, rfl⟩
   obtain ⟨us, hus⟩ : ∃ y, (userE C a.1).isSome = y := ⟨_, rfl⟩
   rw [hu, hus] at hlu
   have hkeep : keepB C a.1 = (!us || decide (u.kind ≠ 7)) := by
    unfold keepB
    rw [hu, hus]
   have HKEEP := hid hkeep
   have HLK2 := hid hlk2
   have HOW2 := hid how2
   have HPM := hid hpm.out
   have HML2 : Hid (done.length ≤ 8 * C.length) := hid (by have := hpm.out.length_eq; have := HML.out; simp at *; omega)
   clear hgb hrun hent hrg2 hrg how hlk HS2 hu hus hkeep hlk2 how2 hsz hsz2 hpm
   go_upto_region 7 with (first | refine next_op rfl _ rfl rfl rfl HRUN.out ?_)
   go_upto_region 8 with (first | refine entry_op rfl _ rfl rfl HENT.out ?_)
   go_upto_region 9 with (first | (refine store_rep_new rfl _ _ rfl rfl rfl (r := u) rfl rfl ?_; intro w3 hbx3 hb3 hlt3; have HLK3 := hid (HLK2.out.later hb3); have HOW3 := hid (own_below HOW2.out hb3); have HRG3 := hid (HRG2.out.below hb3); have HSZ3 : Hid (w6.heap.size ≤ w3.heap.size) := hid (by have := HSZ2.out; omega); obtain ⟨_, _, _, k3, _⟩ := hbx3.at_; clear hbx3 hb3 hlt3 s2 b0 b1 bf hlu))
   obtain ⟨b0, b1, _, bf⟩ := HLK3.out.at_
   have HPERM : ((done ++ [a]) ++ (L1 ++ L2)).Perm m := by
    refine List.Perm.trans ?_ HPM.out
    rw [List.append_assoc]
    exact List.Perm.append_left done (by simpa using (List.perm_middle (l₁ := L1) (l₂ := L2) (a := a)).symm)
   rcases us with _ | _
   ·obtain ⟨v4, w4, hr4, ho4, hb4⟩ := app_big a.1 HOW3.out (by have := keepL_length C done; have := HML2.out; have := HCL.out; omega) HSZ3.out
    obtain ⟨A7, k7, rfl, hx1⟩ := ownsRow.form ho4
    clear hx1
    have hln : (keepL C done ++ [a.1]).length = (keepL C done).length + 1 := by simp
    rw [hln] at hr4 ho4
    have HLN := hid hln
    clear hln
    have HR4 := hid hr4
    have HO4 := hid ho4
    have HB4 := hid hb4
    have hlk4 := HLK3.out.from_ hb4 (by have := HQ.out; have := HLT6.out; omega) (by have := HQ.out; have := HLT6.out; omega) (by have := HQ.out; have := HLT6.out; omega)
    obtain ⟨_, e1, _, ef⟩ := hlk4.at_
    have HLK4 := hid hlk4
    have HKS : Hid (keepL C (done ++ [a]) = keepL C done ++ [a.1]) := hid (by rw [keepL_snoc, HKEEP.out]; simp [])
    clear hr4 ho4 hb4 hlk4
    go_wp2_with (first | (at_builtin; refine wpList_app rfl rfl rfl rfl rfl HR4.out ?_))
    go_roundg (L1 ++ L2).length
    case measure => simp at hgk ⊢; omega
    case rel => exact ⟨done ++ [a], L1 ++ L2, _, rfl, hid HPERM, hid (HRG3.out.same ((setCell_ne w4 (by have := HR1.out; omega)).trans (HB4.out.block r1 (by have := HRQ.out; have := HLT6.out; omega))) ((setCell_ne w4 (by have := HQ.out; omega)).trans (HB4.out.block _ HLT6.out))), hid (HLK4.out.setids _), hid (by rw [HKS.out, HLN.out]; exact ownsRow_setCell_below (a := ⟨w5.heap.size + 1, 1, none⟩) HO4.out (by have := HQ.out; have := HLT6.out; show w5.heap.size + 1 < w6.heap.size; omega) _), hid (by have := HB4.out.size; have := HSZ3.out; rw [World.size_setCell]; omega)⟩
   ·by_cases h7 : u.kind = 7
    ·have HKS : Hid (keepL C (done ++ [a]) = keepL C done) := hid (by rw [keepL_snoc, HKEEP.out]; simp [h7])
     go_wp2_with fail
     go_roundg (L1 ++ L2).length
     case measure => simp at hgk ⊢; omega
     case rel => exact ⟨done ++ [a], L1 ++ L2, v, rfl, hid HPERM, HRG3, HLK3, hid (by rw [HKS.out]; exact HOW3.out), HSZ3⟩
    ·obtain ⟨v4, w4, hr4, ho4, hb4⟩ := app_big a.1 HOW3.out (by have := keepL_length C done; have := HML2.out; have := HCL.out; omega) HSZ3.out
     obtain ⟨A7, k7, rfl, hx1⟩ := ownsRow.form ho4
     clear hx1
     have hln : (keepL C done ++ [a.1]).length = (keepL C done).length + 1 := by simp
     rw [hln] at hr4 ho4
     have HLN := hid hln
     clear hln
     have HR4 := hid hr4
     have HO4 := hid ho4
     have HB4 := hid hb4
     have hlk4 := HLK3.out.from_ hb4 (by have := HQ.out; have := HLT6.out; omega) (by have := HQ.out; have := HLT6.out; omega) (by have := HQ.out; have := HLT6.out; omega)
     obtain ⟨_, e1, _, ef⟩ := hlk4.at_
     have HLK4 := hid hlk4
     have HKS : Hid (keepL C (done ++ [a]) = keepL C done ++ [a.1]) := hid (by rw [keepL_snoc, HKEEP.out]; simp [h7])
     clear hr4 ho4 hb4 hlk4
     go_wp2_with (first | (at_builtin; refine wpList_app rfl rfl rfl rfl rfl HR4.out ?_))
     go_roundg (L1 ++ L2).length
     case measure => simp at hgk ⊢; omega
     case rel => exact ⟨done ++ [a], L1 ++ L2, _, rfl, hid HPERM, hid (HRG3.out.same ((setCell_ne w4 (by have := HR1.out; omega)).trans (HB4.out.block r1 (by have := HRQ.out; have := HLT6.out; omega))) ((setCell_ne w4 (by have := HQ.out; omega)).trans (HB4.out.block _ HLT6.out))), hid (HLK4.out.setids _), hid (by rw [HKS.out, HLN.out]; exact ownsRow_setCell_below (a := ⟨w5.heap.size + 1, 1, none⟩) HO4.out (by have := HQ.out; have := HLT6.out; show w5.heap.size + 1 < w6.heap.size; omega) _), hid (by have := HB4.out.size; have := HSZ3.out; rw [World.size_setCell]; omega)⟩
end Go.Proofs.YtfaoillnakhejaaGreat
