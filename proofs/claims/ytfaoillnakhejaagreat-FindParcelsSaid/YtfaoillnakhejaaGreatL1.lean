/- Parcels: all parcels, by their Ids; Present and Finds: the parcels that are wanted; Lists of parcels that are the same; the index of a parcel; What is known by an hour: the earlier reports count as all do (plain); The flows (plain): sums over arcs, ways, and that the search finds a way or closes. -/
import Derived.Test.YtfaoillnakhejaaGreatH7
import Derived.Test.YtfaoillnakhejaaGreatL0
import Derived.Test.YtfaoillnakhejaaGreatH6
import Derived.BigQuiet
import Derived.RangeFuncBox
import Derived.Laws.EntriesVeiled
import Derived.Laws.StructEq
import Derived.Deep.MidRow
import Derived.Deep.CutRange
import Derived.Test.YtfaoillnakhejaaGreatH5
import Derived.Test.YtfaoillnakhejaaGreatH9
import Derived.Test.YtfaoillnakhejaaGreatH23
namespace Go.Proofs.YtfaoillnakhejaaGreat
set_option maxRecDepth 100000
open Go.RowKit
theorem ids_len {C : List Ent} (hs : Sound (reps C)) {ids : List Int} (hi : IdsOf C ids) : ids.length ≤ 8 * C.length := by
 have h1 := nodup_le (ys := C.flatMap fun e => e.1.makes) (hi.1.imp (fun h => by omega)) (fun x hx => by
  have := ((hi.2 x).1 hx).1
  rcases hm : makerE C x with _ | e
  ·rw [hm] at this; cases this
  ·obtain ⟨h1, h2⟩ := makerE_some hm
   exact List.mem_flatMap.2 ⟨e, h1, h2⟩)
 have key : ∀ M : List Ent, (∀ e ∈ M, e.1.Wf) → (M.flatMap fun e => e.1.makes).length ≤ 8 * M.length := by
  intro M
  induction M with
  | nil => simp
  | cons a M ih =>
   intro h
   have h1 := makes_len _ (h a (by simp))
   have h2 := ih (fun e he => h e (by simp [he]))
   simp only [List.flatMap_cons, List.length_append, List.length_cons]
   omega
 have := key C (fun e he => hs.wfs e.1 (List.mem_map_of_mem (f := Prod.fst) he))
 omega
def pclsF (C : List Ent) (ids : List Int) : List Pcl := ids.map (parcelF C)
def ParcelsPost (L : List Ent) (K : Int) (w : World) (e : Ending) (w' : World) : Prop :=
 Below w.heap.size w w' ∧ ((∃ en, FailsBy L K [] en ∧ e = .returned (.tuple #[.slice none 0 0, .int .i64 en])) ∨
  (Valid (reps L) ∧ ∃ ids v, IdsOf (countE L K) ids ∧ e = .returned (.tuple #[v, .int .i64 0]) ∧ w'.ownsRow w.heap.size 38 12 v (pclsF (countE L K) ids).length (flatP (pclsF (countE L K) ids))))
set_option maxHeartbeats 16000000 in
theorem parcels_any (A : Option Addr) (cap : Nat) (L : List Ent) (K : Int) (w : World) (hA : EntsAt w A L) (hl : L.length ≤ 210) (hcap : L.length ≤ cap) :
  Calls Tryz.prog 23 #[.slice A L.length cap, .int .i64 K] w (ParcelsPost L K w) := by
 have HLK := hid (looks_later hA hl hcap K [] (by simp) 0 w none (Below.refl _ _) (fun h => by simp at h))
 have HCL : Hid ((countE L K).length ≤ 210) := hid (Nat.le_trans (countE_len L K) hl)
 clear hA
 go_enter Tryz.func23, Tryz.ntmps23
 go_wp2_with fail
 refine HLK.out.mono ?_
 rintro e w2 hpost
 obtain ⟨hb2, hcase⟩ := looks_two hpost
 have HB2 := hid hb2
 clear hpost
 rcases hcase with ⟨en, hf, rfl⟩ | ⟨hv, ids, hids, _, bb, s, r1, r2, r3, r4, A2, cap2, rfl, hla⟩
 ·have hne : (en != 0) = true := bne_iff_ne.2 hf.ne
  have HF := hid hf
  clear hf hb2 HLK
  go_wp2_with fail
  go_ret2
  unfold ParcelsPost
  exact ⟨HB2.out, .inl ⟨en, HF.out, rfl⟩⟩
 have HI := hid hids
 have HV := hid hv
 have HLA := hid hla
 have hil := ids_len hla.sound hids
 have hb2s := hb2.size
 obtain ⟨C, hC⟩ : ∃ C, countE L K = C := ⟨_, rfl⟩
 rw [hC] at hil HCL HLA
 have HCE := hid hC
 obtain ⟨c0, ⟨Ai, ci, c1, hInts, hci⟩, c2⟩ := HLA.out.cells
 have HIN := hid hInts
 have hcl := HCL.out
 have hil2 : ids.length ≤ 1680 := by omega
 clear hids hv hla hC HLK hInts hil hcl hb2
 go_upto_region 6 with fail
 clear c0 c1 c2
 go_loopg [8, 25] (ids.length) (fun g v iv wr => ∃ k : Nat, k ≤ ids.length ∧ g = ids.length - k ∧ iv = .int .i64 k ∧ Hid (wr.ownsRow w2.heap.size 38 12 v (pclsF C (ids.take k)).length (flatP (pclsF C (ids.take k)))) ∧ Hid (Below w2.heap.size w2 wr))
 case atStart => exact ⟨0, by omega, by omega, rfl, hid (World.ownsRow_nil _ _ _ _), hid (Below.refl _ _)⟩
 case round =>
  obtain ⟨k, hk, hgk, rfl, hown, hbw⟩ := hrel
  by_cases hkl : k < ids.length
  ·obtain ⟨b, off, hAe, hc⟩ := (HIN.out.kept (Kept.of_below hbw.out)) (by omega)
   subst hAe
   have hck := hc k hkl
   have hla := HLA.out.below hbw.out
   obtain ⟨c0, _, c2⟩ := hla.cells
   have hlk := hla.look ids[k]
   rw [pclOr_in (List.getElem_mem hkl)] at hlk
   have hsn : pclsF C (ids.take (k + 1)) = pclsF C (ids.take k) ++ [parcelF C ids[k]] := by
    unfold pclsF
    rw [List.take_succ_eq_append_getElem hkl, List.map_append]
    rfl
   have hpl : (pclsF C (ids.take k)).length ≤ 1680 := by
    unfold pclsF
    rw [List.length_map, List.length_take]
    omega
   obtain ⟨p, hp⟩ : ∃ p, ids[k] = p := ⟨_, rfl⟩
   rw [hp] at hck hlk hsn
   obtain ⟨q, hq⟩ : ∃ q, parcelF C p = q := ⟨_, rfl⟩
   rw [hq] at hlk hsn
   obtain ⟨D, hD⟩ : ∃ D, pclsF C (ids.take k) = D := ⟨_, rfl⟩
   rw [hD] at hsn hown hpl
   obtain ⟨v4, w4, hr4, ho4, hb4⟩ := app_pcl q hown.out (by omega) hbw.out.size
   have HR4 := hid hr4
   have HO4 := hid ho4
   have HB4 := hid (hbw.out.trans hb4)
   have HSN := hid hsn
   have i0 : (0 : Int) ≤ k := by omega
   have i1 : (k : Int) < ids.length := by omega
   clear hc hla hsn hp hq hD hr4 ho4 hb4
   go_wp2_with (first | refine build_pcl rfl _ rfl rfl ?_ | (at_builtin; refine wpList_app rfl rfl rfl rfl rfl HR4.out ?_))
   go_roundg (ids.length - (k + 1))
   case measure => omega
   case rel => exact ⟨k + 1, by omega, rfl, by go_num, hid (by rw [HSN.out]; exact HO4.out), HB4⟩
  ·obtain rfl : k = ids.length := by omega
   have hown2 := hown.out
   rw [List.take_length] at hown2
   have HO := hid (own_lo (base' := w.heap.size) hown2 HB2.out.size)
   have HBF := hid (HB2.out.trans (hbw.out.mono HB2.out.size))
   clear hown2
   go_wp2_with fail
   go_ret2
   unfold ParcelsPost
   exact ⟨HBF.out, .inr ⟨HV.out, ids, _, HI.out, rfl, by rw [HCE.out]; exact HO.out⟩⟩
theorem boxP (q : Pcl) (w : World) : ∃ W, w.alloc (.cells q.cells 38) = W ∧ PclIs W w.heap.size q ∧ Below w.heap.size w W ∧ w.heap.size < W.heap.size :=
 ⟨_, rfl, pcl_first w q, (Below.refl _ _).alloc (Nat.le_refl _) _, by simp⟩
theorem boxed_below {w w' : World} {b : Nat} {t : TypeId} {v : Value} (h : Boxed w b t v) (hb : Below w.heap.size w w') : Boxed w' b t v := (hb.block b h.lt).trans h
theorem step_callv {P : Program} {ops : Array Oper} {o : Oper} {a : Act} {w : World} {K : Act → World → Prop} {Q : Exit → Act → World → Prop} {E : Prop}
  (hg : o.guard = none) (x y : Operand) (f : FuncId) (ats : Array TypeId) (hop : o.op = Op.call { callee := Callee.value x, args := #[y], argTypes := ats })
  (hcf : ∀ v w, (callFunc f v).run P w = .ok (.enter f v) w) (v : Value) (caps : Array Value) (hx : a.eval x = .func (.func f) #[] caps) (hy : a.eval y = v) (R : Value → World → Prop)
  (hc : Calls P f (#[v] ++ caps) w fun e w' => ∃ u, e = .returned u ∧ R u w') (hK : ∀ u w', R u w' → K (a.put o.dst u) w') :
  if Region.wanted o (yielded ops a.tmps) = true then Oper.wp P o a w K Q else E := by
 have hw : Region.wanted o (yielded ops a.tmps) = true := by simp [Region.wanted, hg]
 rw [if_pos hw]
 unfold Oper.wp
 have hr : (execOp a.eval o).run P w = .ok (.enter f (#[v] ++ caps)) w := by
  simp [execOp, hop, resolve, hx, hy, Deferred.ofValue, invoke, hcf]
 rw [hr, Oper.upon_enter]
 refine hc.mono ?_
 rintro e w' ⟨u, rfl, h⟩
 exact hK u w' h
theorem bbox_gen2 {w : World} {t : TypeId} {v : Value} {F : World → Prop} {n : Nat} (hn : n = w.heap.size) (k : ∀ W, Boxed W n t v → Below n w W → n < W.heap.size → F W) : F (w.alloc (.cells #[v] t)) := by
 subst hn
 exact k _ (Boxed.new w t v) ((Below.refl _ _).alloc (Nat.le_refl _) _) (by simp)
theorem field_hour (r : Rep) (P : Option Addr) (c : Nat) (w : World) : (Instr.field 46 (r.val P c) 2).run Tryz.prog w = .ok (.int .i64 r.hour) w := by kernel_rfl
/-- A parcel that is there at an hour. -/
def presB (C : List Ent) (hour : Int) (q : Pcl) : Bool := decide (q.hour ≤ hour) && (decide (q.into = 0) || decide (hour < (entOr (userE C q.id)).1.hour))
theorem enters_pres1 : Enters 63 := fun args w => by kernel_rfl
theorem enters_wanted1 : Enters 108 := fun args w => by kernel_rfl
theorem enters_finds1 : Enters 84 := fun args w => by kernel_rfl
set_option maxHeartbeats 8000000 in
theorem pres1_any {w : World} {bh bx bb s r1 r2 r3 r4 : Nat} {A : Option Addr} {cap : Nat} {C : List Ent} {ids : List Int} {hour : Int} (h1 : Boxed w bh 3 (.int .i64 hour)) (h2 : Boxed w bx 66 (.pointer (some ⟨bb, 0, none⟩))) (hla : LooksAt w bb s r1 r2 r3 r4 A cap C ids) (q : Pcl) :
  Calls Tryz.prog 63 #[q.val, .pointer (some ⟨bh, 0, none⟩), .pointer (some ⟨bx, 0, none⟩)] w fun e w' => e = .returned (.bool (presB C hour q)) ∧ Below w.heap.size w w' := by
 obtain ⟨W, hW, hbx, hbW, hlt⟩ := boxP q w
 have HBW := hid hbW
 have k1 := (boxed_below h1 hbW).cell
 have k2 := (boxed_below h2 hbW).cell
 obtain ⟨c0, _, _⟩ := (hla.below hbW).cells
 have hst := (hla.below hbW).store
 obtain ⟨_, _, s2, _⟩ := hst.cell
 have hlu := fun n => (hst.user.same (w' := W.drewN n) rfl).lookR q.id
 obtain ⟨x0, _, x2, _, _, _, _, _, _, x9, _⟩ := hbx.at_
 obtain ⟨⟨u1, u2, u3⟩, hu⟩ : ∃ u, entOr (userE C q.id) = u := ⟨_, rfl⟩
 have HP : Hid (presB C hour q = (decide (q.hour ≤ hour) && (decide (q.into = 0) || decide (hour < u1.hour)))) := hid (by unfold presB; rw [hu])
 simp only [hu] at hlu
 have hfu := field_hour u1 u2 u3
 clear h1 h2 hla hst hbx hbW hu
 by_cases hh : q.hour ≤ hour
 rotate_left
 ·have dh : decide (q.hour ≤ hour) = false := decide_eq_false hh
  have HZ : Hid (presB C hour q = false) := hid (by rw [HP.out, dh]; rfl)
  rw [HZ.out]
  clear hh HP
  go_enter Tryz.func63, Tryz.ntmps63
  go_upto_region 1 with fail
  go_quiet (fail)
  go_wp2_with fail
  go_ret
  exact ⟨rfl, Below.drewN' HBW.out _⟩
 have dh : decide (q.hour ≤ hour) = true := decide_eq_true hh
 by_cases hi : q.into = 0
 ·have di : (q.into == 0) = true := beq_iff_eq.2 hi
  have HZ : Hid (presB C hour q = true) := hid (by rw [HP.out, dh, decide_eq_true hi]; rfl)
  rw [HZ.out]
  clear hh hi HP
  go_enter Tryz.func63, Tryz.ntmps63
  go_upto_region 1 with fail
  go_quiet (fail)
  go_wp2_with fail
  go_ret
  exact ⟨rfl, Below.drewN' HBW.out _⟩
 have di : (q.into == 0) = false := beq_eq_false_iff_ne.2 hi
 have HZ : Hid (presB C hour q = decide (hour < u1.hour)) := hid (by rw [HP.out, dh, decide_eq_false hi]; rfl)
 rw [HZ.out]
 clear hh hi HP
 go_enter Tryz.func63, Tryz.ntmps63
 go_upto_region 1 with fail
 go_quiet (fail)
 go_wp2_with fail
 go_ret
 exact ⟨rfl, Below.drewN' HBW.out _⟩
set_option maxHeartbeats 8000000 in
theorem wanted1_any {w : World} {bw bx bb s r1 r2 r3 r4 : Nat} {A : Option Addr} {cap : Nat} {C : List Ent} {ids : List Int} {fid : FuncId} {caps : Array Value} (hcf : Enters fid) (h1 : Boxed w bw 95 (.func (.func fid) #[] caps)) (h2 : Boxed w bx 66 (.pointer (some ⟨bb, 0, none⟩))) (hla : LooksAt w bb s r1 r2 r3 r4 A cap C ids)
  (p : Int) {q : Pcl} (hq : pclOr C ids p = q) {t : Bool} (hW : ∀ wr, Below w.heap.size w wr → Calls Tryz.prog fid (#[q.val] ++ caps) wr fun e w' => e = .returned (.bool t) ∧ Below wr.heap.size wr w') :
  Calls Tryz.prog 108 #[.int .i64 p, .pointer (some ⟨bw, 0, none⟩), .pointer (some ⟨bx, 0, none⟩)] w fun e w' => e = .returned (.bool (!t)) ∧ Below w.heap.size w w' := by
 have HLA := hid hla
 have hsf : ∀ wr, Below w.heap.size w wr → wr.cell? ⟨bw, 0, none⟩ = some (.func (.func fid) #[] caps) ∧ wr.cell? ⟨bx, 0, none⟩ = some (.pointer (some ⟨bb, 0, none⟩)) ∧ wr.cell? ⟨bb, 2, none⟩ = some (.map (some r4)) ∧ (Instr.lookup 75 (.map (some r4)) (.int .i64 p) false).run Tryz.prog wr = .ok q.val wr := fun wr hb => by
  have hlk := (HLA.out.below hb).look p
  rw [hq] at hlk
  exact ⟨(boxed_below h1 hb).cell, (boxed_below h2 hb).cell, (HLA.out.below hb).cells.2.2, hlk⟩
 have HSF := hid hsf
 have HW := hid (hW w.drew (Below.refl _ w).drew)
 clear h1 h2 hla hsf hW hq
 go_enter Tryz.func108, Tryz.ntmps108
 go_upto_region 1 with fail
 refine wp_region_noPanic ?_
 refine wp_region_held_drew (S := fun w' => w'.cell? ⟨bw, 0, none⟩ = some (.func (.func fid) #[] caps) ∧ w'.cell? ⟨bx, 0, none⟩ = some (.pointer (some ⟨bb, 0, none⟩)) ∧ w'.cell? ⟨bb, 2, none⟩ = some (.map (some r4)) ∧ (Instr.lookup 75 (.map (some r4)) (.int .i64 p) false).run Tryz.prog w' = .ok q.val w') (by kernel_rfl) (HSF.out _ (Below.refl _ w).drew) (fun hHeld => ?_)
 refine tk 0 (fun _ _ _ _ _ h => h) (by kernel_rfl) ‹_› ⟨_, ?_, by simp only [zz1, zz2]; rfl, .inl ⟨by rfl, ?_⟩, ?_⟩; rotate_left; · (intro w hSw; (try dsimp only at hSw); go_simp; all_goals with_reducible rfl)
 simp only [Act.put, zz4, zz5, zz6]
 refine tk 1 (fun _ _ _ _ _ h => h) (by kernel_rfl) ‹_› ⟨_, ?_, by simp only [zz1, zz2, zz3]; rfl, .inl ⟨by rfl, ?_⟩, ?_⟩; rotate_left; · (intro w hSw; (try dsimp only at hSw); go_simp; all_goals with_reducible rfl)
 simp only [Act.put, zz4, zz5, zz6]
 refine tk 2 (fun _ _ _ _ _ h => h) (by kernel_rfl) ‹_› ⟨_, ?_, by simp only [zz1, zz2, zz3]; rfl, .inl ⟨by rfl, ?_⟩, ?_⟩; rotate_left; · (intro w hSw; (try dsimp only at hSw); go_simp; all_goals with_reducible rfl)
 simp only [Act.put, zz4, zz5, zz6]
 refine tk 3 (fun _ _ _ _ _ h => h) (by kernel_rfl) ‹_› ⟨_, ?_, by simp only [zz1, zz2, zz3]; rfl, .inl ⟨by rfl, ?_⟩, ?_⟩; rotate_left; · (intro w hSw; (try dsimp only at hSw); go_simp; all_goals with_reducible rfl)
 simp only [Act.put, zz4, zz5, zz6]
 refine tk 4 (fun _ _ _ _ _ h => h) (by kernel_rfl) ‹_› ⟨_, ?_, by simp only [zz1, zz2, zz3]; rfl, .inl ⟨by rfl, ?_⟩, ?_⟩; rotate_left; · (intro w hSw; (try dsimp only at hSw); go_simp; all_goals with_reducible rfl)
 simp only [Act.put, zz4, zz5, zz6]
 refine tk 5 (fun _ _ _ _ _ h => h) (by kernel_rfl) ‹_› ⟨_, ?_, by simp only [zz1, zz2, zz3]; rfl, .inl ⟨by rfl, ?_⟩, ?_⟩; rotate_left; · (intro w hSw; (try dsimp only at hSw); go_simp; all_goals with_reducible rfl)
 simp only [Act.put, zz4, zz5, zz6]
 refine tk 6 (fun _ _ _ _ _ h => h) (by kernel_rfl) ‹_› ⟨_, ?_, by simp only [zz1, zz2, zz3]; rfl, .inl ⟨by rfl, ?_⟩, ?_⟩; rotate_left; · (intro w hSw; (try dsimp only at hSw); go_simp; all_goals with_reducible rfl)
 simp only [Act.put, zz4, zz5, zz6]
 refine wpAnyH_ready (rs := [7]) (by kernel_rfl) (by simp) ?_
 refine cons_one (i := 7) ⟨_, by simp only [zz1, zz2, zz3]; rfl, fun K hK => ?_⟩ ?_
 rotate_left
 ·exact AllReadyH.nil
 refine step_callv rfl (.tmp 5) (.tmp 11) fid _ rfl hcf q.val caps ?hx ?hy (fun u w' => u = .bool t ∧ Below w.heap.size w w') (HW.out.mono (fun e w' h => ⟨_, h.1, rfl, (Below.refl _ w).drew.trans h.2⟩)) ?_
 case hx => simp [Act.eval]
 case hy => simp [Act.eval]
 rintro _ w5 ⟨rfl, hb5⟩
 have HB5 := hid hb5
 clear hb5 HW
 clear hHeld
 refine hK.out _ _ (HSF.out _ HB5.out) (fun hHeld => ?_)
 clear hK K
 try simp only [Act.put, zz4, zz5, zz6]
 refine tk 8 (fun _ _ _ _ _ h => h) (by kernel_rfl) ‹_› ⟨_, ?_, by simp only [zz1, zz2, zz3]; rfl, .inl ⟨by rfl, ?_⟩, ?_⟩; rotate_left; · (intro w hSw; (try dsimp only at hSw); go_simp; all_goals with_reducible rfl)
 simp only [Act.put, zz4, zz5, zz6]
 refine tk 9 (fun _ _ _ _ _ h => h) (by kernel_rfl) ‹_› ⟨_, ?_, by simp only [zz1, zz2, zz3]; rfl, .inl ⟨by rfl, ?_⟩, ?_⟩; rotate_left; · (intro w hSw; (try dsimp only at hSw); go_simp; all_goals with_reducible rfl)
 simp only [Act.put, zz4, zz5, zz6]
 refine wpAnyH_done (by kernel_rfl) ?_ _
 refine NoPanic.normal ?_
 go_wp2_with fail
 go_ret
 exact ⟨rfl, HB5.out⟩
set_option maxHeartbeats 8000000 in
theorem wanted_any {w : World} {bb s r1 r2 r3 r4 : Nat} {A : Option Addr} {cap : Nat} {C : List Ent} {ids : List Int} (hla : LooksAt w bb s r1 r2 r3 r4 A cap C ids) (hil : ids.length ≤ 100000) {fid : FuncId} {caps : Array Value} (hcf : Enters fid) (want : Pcl → Bool)
  (hW : ∀ q wr, Below w.heap.size w wr → Calls Tryz.prog fid (#[Pcl.val q] ++ caps) wr fun e w' => e = .returned (.bool (want q)) ∧ Below wr.heap.size wr w') :
  Calls Tryz.prog 62 #[.pointer (some ⟨bb, 0, none⟩), .func (.func fid) #[] caps] w fun e w' => ∃ v ys, e = .returned v ∧ w'.ownsRow w.heap.size 3 1 v ys.length (ints ys) ∧ Below w.heap.size w w' ∧ ys = dropQ (fun p => !want (pclOr C ids p)) ids := by
 have HLA := hid hla
 have HWA := hid hW
 clear hla hW
 have hx1 := Boxed.new w 66 (.pointer (some ⟨bb, 0, none⟩))
 have hb1 : Below w.heap.size w (w.alloc (.cells #[.pointer (some ⟨bb, 0, none⟩)] 66)) := (Below.refl _ _).alloc (Nat.le_refl _) _
 obtain ⟨W1, hW1⟩ : ∃ W, w.alloc (.cells #[.pointer (some ⟨bb, 0, none⟩)] 66) = W := ⟨_, rfl⟩
 rw [hW1] at hx1 hb1
 have hq1 := (Boxed.new W1 95 (.func (.func fid) #[] caps))
 have hb2 : Below W1.heap.size W1 (W1.alloc (.cells #[.func (.func fid) #[] caps] 95)) := (Below.refl _ _).alloc (Nat.le_refl _) _
 obtain ⟨W2, hW2⟩ : ∃ W, W1.alloc (.cells #[.func (.func fid) #[] caps] 95) = W := ⟨_, rfl⟩
 rw [hW2] at hq1 hb2
 have HX := hid (boxed_below hx1 hb2)
 have HQ := hid hq1
 have HB2 := hid (hb1.trans (hb2.mono hb1.size))
 have hl2 := hq1.lt
 have hlaW := HLA.out.below HB2.out
 obtain ⟨c0, ⟨Ai, ci, c1, hInts, hci⟩, c2⟩ := hlaW.cells
 have HLW := hid hlaW
 have HIN := hid hInts
 have kx := HX.out.cell
 have HCL := hid (cloneI_any Ai ci ids W2 hInts (by omega) (fun h => by
  rcases ids with _ | ⟨x, xs⟩
  ·rfl
  ·obtain ⟨b, off, e, _⟩ := hInts (by simp)
   rw [h] at e
   cases e))
 have HASK : Hid (∀ x wr, x ∈ ids → Below W2.heap.size W2 wr → Calls Tryz.prog 108 #[.int .i64 x, .pointer (some ⟨W1.heap.size, 0, none⟩), .pointer (some ⟨w.heap.size, 0, none⟩)] wr fun e w' => e = .returned (.bool (!want (pclOr C ids x))) ∧ Below wr.heap.size wr w') := hid (fun x wr _ hb =>
  wanted1_any hcf (boxed_below HQ.out hb) (boxed_below HX.out hb) (HLW.out.below hb) x rfl (fun w9 hb9 => HWA.out _ w9 (HB2.out.trans ((hb.trans (hb9.mono hb.size)).mono HB2.out.size))))
 have hb2s := HB2.out.size
 have hl1 := hb1.size
 clear hx1 hb1 hq1 hb2 hlaW hInts hci
 go_enter Tryz.func62, Tryz.ntmps62
 go_wp2_with fail
 refine HCL.out.mono ?_
 rintro e w5 ⟨v5, rfl, ho5, hb5⟩
 have HB5 := hid hb5
 obtain ⟨A5, k5, rfl, hx5⟩ := ownsRow.form ho5
 have HO5 := hid ho5
 clear hb5 ho5 hx5 HCL
 by_cases h0 : 0 < ids.length
 ·obtain ⟨g, cp, hg0, hg, hcp⟩ := own_slice HO5.out h0
  cases hg0
  have hcl : ids.length ≤ k5 := hcp
  have HD := hid (deletedY_any 108 enters_wanted1 (.pointer (some ⟨W1.heap.size, 0, none⟩)) (.pointer (some ⟨w.heap.size, 0, none⟩)) (fun p => !want (pclOr C ids p)) g k5 ids w5 (by omega) hcl W2.heap.size HO5.out
   (fun x wr hx hgr => HASK.out x wr hx (HB5.out.grown hgr HB5.out.size (fun k e => by cases e; exact hg))))
  clear h0
  go_wp2_with fail
  refine HD.out.mono ?_
  rintro e w6 ⟨rfl, ho6, hg6⟩
  have HO6 := hid (own_lo (base' := w.heap.size) ho6 HB2.out.size)
  have HB6 := hid (HB2.out.trans ((HB5.out.grown hg6 HB5.out.size (fun k e => by cases e; exact hg)).mono HB2.out.size))
  clear ho6 hg6 HD
  go_wp2_with fail
  go_ret
  exact ⟨_, _, rfl, HO6.out, HB6.out, rfl⟩
 ·have h1 : ids = [] := List.length_eq_zero_iff.1 (by omega)
  subst h1
  have HD := hid (deletedY_none 108 enters_wanted1 (.pointer (some ⟨W1.heap.size, 0, none⟩)) (.pointer (some ⟨w.heap.size, 0, none⟩)) A5 k5 w5)
  clear h0
  go_wp2_with fail
  refine HD.out.mono ?_
  rintro e w6 ⟨rfl, hb6⟩
  have HO6 := hid (own_lo (base' := w.heap.size) (own_below HO5.out hb6) HB2.out.size)
  have HB6 := hid (HB2.out.trans ((HB5.out.trans (hb6.mono HB5.out.size)).mono HB2.out.size))
  clear hb6 HD
  go_wp2_with fail
  go_ret
  exact ⟨_, [], rfl, HO6.out, HB6.out, rfl⟩
def PresPost (L : List Ent) (K hour : Int) (w : World) (e : Ending) (w' : World) : Prop :=
 Below w.heap.size w w' ∧ ((∃ en, FailsBy L K [] en ∧ e = .returned (.tuple #[.slice none 0 0, .int .i64 en])) ∨
  (Valid (reps L) ∧ ∃ ids v ys, IdsOf (countE L K) ids ∧ e = .returned (.tuple #[v, .int .i64 0]) ∧ w'.ownsRow w.heap.size 3 1 v ys.length (ints ys) ∧ ys = dropQ (fun p => !presB (countE L K) hour (pclOr (countE L K) ids p)) ids))
set_option maxHeartbeats 8000000 in
theorem present_any (A : Option Addr) (cap : Nat) (L : List Ent) (K hour : Int) (w : World) (hA : EntsAt w A L) (hl : L.length ≤ 210) (hcap : L.length ≤ cap) :
  Calls Tryz.prog 26 #[.slice A L.length cap, .int .i64 K, .int .i64 hour] w (PresPost L K hour w) := by
 have HLK := hid (looks_later hA hl hcap K [] (by simp) 0)
 have HCL : Hid ((countE L K).length ≤ 210) := hid (Nat.le_trans (countE_len L K) hl)
 clear hA
 go_enter Tryz.func26, Tryz.ntmps26
 go_upto_region 1 with fail
 refine bbox_gen2 rfl ?_
 intro W1 hx1 hb1 hlt1
 have HX := hid hx1
 have HB1 := hid hb1
 have HL1 := hid (HLK.out W1 none hb1 (fun h => by simp at h))
 clear hx1 hb1 HLK
 go_wp2_with fail
 refine HL1.out.mono ?_
 rintro e w2 hpost
 obtain ⟨hb2, hcase⟩ := looks_two hpost
 have HB2 := hid (HB1.out.trans (hb2.mono HB1.out.size))
 have HX2 := hid (boxed_below HX.out hb2)
 have hl2 := HX2.out.lt
 clear hpost hb2
 rcases hcase with ⟨en, hf, rfl⟩ | ⟨hv, ids, hids, _, bb, s, r1, r2, r3, r4, A2, cap2, rfl, hla⟩
 ·have hne : (en != 0) = true := bne_iff_ne.2 hf.ne
  have HF := hid hf
  clear hf HL1
  have HB3 := hid (HB2.out.alloc HB2.out.size (.cells #[.pointer none] 66))
  go_wp2_with fail
  go_ret2
  unfold PresPost
  exact ⟨HB3.out, .inl ⟨en, HF.out, rfl⟩⟩
 have hq1 := Boxed.new w2 66 (.pointer (some ⟨bb, 0, none⟩))
 have hb3 : Below w2.heap.size w2 (w2.alloc (.cells #[.pointer (some ⟨bb, 0, none⟩)] 66)) := (Below.refl _ _).alloc (Nat.le_refl _) _
 obtain ⟨W3, hW3⟩ : ∃ W, w2.alloc (.cells #[.pointer (some ⟨bb, 0, none⟩)] 66) = W := ⟨_, rfl⟩
 rw [hW3] at hq1 hb3
 have HQ := hid hq1
 have kq := hq1.cell
 have hl3 := hq1.lt
 have HX3 := hid (boxed_below HX2.out hb3)
 have hla3 := hla.below hb3
 have HLA := hid hla3
 have HB3 := hid (HB2.out.trans (hb3.mono HB2.out.size))
 have HI := hid hids
 have HV := hid hv
 have hil := ids_len hla.sound hids
 have HWN := hid (wanted_any hla3 (by have := HCL.out; omega) enters_pres1 (caps := #[.pointer (some ⟨w.heap.size, 0, none⟩), .pointer (some ⟨w2.heap.size, 0, none⟩)]) (presB (countE L K) hour) (fun q wr hb => by
  have h9 := pres1_any (boxed_below HX3.out hb) (boxed_below HQ.out hb) (HLA.out.below hb) q
  simpa using h9))
 clear hq1 hb3 hids hv hla hla3 hil HL1
 go_wp2_with fail
 refine HWN.out.mono ?_
 rintro e w5 ⟨v, ys, rfl, ho5, hb5, hys⟩
 have HO5 := hid (own_lo (base' := w.heap.size) ho5 HB3.out.size)
 have HB5 := hid (HB3.out.trans (hb5.mono HB3.out.size))
 have HY := hid hys
 clear ho5 hb5 hys HWN
 go_wp2_with fail
 go_ret2
 unfold PresPost
 exact ⟨HB5.out, .inr ⟨HV.out, ids, _, ys, HI.out, rfl, HO5.out, HY.out⟩⟩
theorem span_self (n : Nat) (a b : Int) (w : World) : (Op.equalIn (n + 2) 36 (.agg #[.int .i64 a, .int .i64 b]) (.agg #[.int .i64 a, .int .i64 b])).run Tryz.prog w = .ok true w := by
 have hS : Tryz.prog.underlying 36 = some (.struct (Tryz.prog.fieldsOf 36)) := by kernel_rfl
 have u3 := Tryz.underlying3
 rw [run_equalIn_agg w (n + 1) 36 _ _ hS (by kernel_rfl)]
 simp only [Program.fieldsOf, Tryz.underlying36]
 go_simp
theorem pcl_equal (q : Pcl) (w : World) : (Op.equalIn 10000 38 q.val q.val).run Tryz.prog w = .ok true w := by
 have hS : Tryz.prog.underlying 38 = some (.struct (Tryz.prog.fieldsOf 38)) := by kernel_rfl
 have u3 := Tryz.underlying3
 have u4 := Tryz.underlying9
 have u5 := Tryz.underlying4
 have hsp := fun a b w => span_self 9997 a b w
 rw [show (10000 : Nat) = 9999 + 1 from rfl, run_equalIn_agg w 9999 38 _ _ hS (by kernel_rfl)]
 simp only [Program.fieldsOf, Tryz.underlying38, Pcl.cells]
 go_simp
theorem pcl_neq (q : Pcl) (w : World) : (binOp .neq 38 q.val q.val).run Tryz.prog w = .ok (.bool false) w := by
 rw [run_neq_struct, pcl_equal]
 rfl
theorem yields_pcl {ops : Array Oper} {S : World → Prop} {op : Oper} {a : Act} (hw : Region.wanted op (yielded ops a.tmps) = true) (x : Operand) (ho : op.op = .load 38 x)
  (b f : Nat) (hx : a.eval x = .pointer (some ⟨b, f, none⟩)) {q : Pcl} (hS : ∀ w, S w → w.rangeAt b f q.cells.toList) : YieldsIf Tryz.prog ops S op q.val a := by
 have h := yieldsIf_load_mid hw 38 x ho b f hx q.cells.toList _ hS Tryz.underlying38 rfl pcl_info
 simpa using h
set_option maxHeartbeats 8000000 in
theorem sameParcels_t (A : Option Addr) (cap : Nat) (B : Option Addr) (cb : Nat) (D : List Pcl) (w : World) (hm : D.length ≤ 1000000) (hA : PclsAt w A D) (hB : PclsAt w B D) :
  Calls Tryz.prog 25 #[.slice A D.length cap, .slice B D.length cb] w fun e w' => e = .returned (.bool true) ∧ Below w.heap.size w w' := by
 have HA := hid hA
 have HB := hid hB
 clear hA hB
 go_enter Tryz.func25, Tryz.ntmps25
 go_upto_region 4 with fail
 go_loopg [5] (D.length) (fun g i wr => ∃ k : Nat, k ≤ D.length ∧ g = D.length - k ∧ i = .int .i64 k ∧ Hid (Below w.heap.size w wr))
 case atStart => exact ⟨0, by omega, by omega, rfl, hid (Below.refl _ _)⟩
 case round =>
  obtain ⟨k, hk, hgk, rfl, hbw⟩ := hrel
  by_cases hlt : k < D.length
  ·obtain ⟨b, off, hAe, hc⟩ := (HA.out.kept (Kept.of_below hbw.out)) (by omega)
   subst hAe
   obtain ⟨b2, off2, hBe, hc2⟩ := (HB.out.kept (Kept.of_below hbw.out)) (by omega)
   subst hBe
   have hr1 := hc k hlt
   have hr2 := hc2 k hlt
   obtain ⟨q, hq⟩ : ∃ q, D[k] = q := ⟨_, rfl⟩
   rw [hq] at hr1 hr2
   have HR1 := hid hr1
   have HR2 := hid hr2
   have hne := pcl_neq q
   have i0 : (0 : Int) ≤ k := by omega
   have i1 : (k : Int) < D.length := by omega
   clear hc hc2 hq hr1 hr2
   go_upto_region 6 with fail
   refine wp_region_noPanic ?_
   refine wp_region_held_drew (S := fun w' => w'.rangeAt b (off + k * 12) q.cells.toList ∧ w'.rangeAt b2 (off2 + k * 12) q.cells.toList) (by kernel_rfl) (⟨rangeAt_kept HR1.out (Kept.of_below (Below.refl _ wr).drew), rangeAt_kept HR2.out (Kept.of_below (Below.refl _ wr).drew)⟩) (fun hHeld => ?_)
   refine tk 0 (fun _ _ _ _ _ h => h) (by kernel_rfl) ‹_› ⟨_, ?_, by simp only [zz1, zz2]; rfl, .inl ⟨by rfl, ?_⟩, ?_⟩; rotate_left; · (intro w hSw; (try dsimp only at hSw); go_simp; all_goals with_reducible rfl)
   simp only [Act.put, zz4, zz5, zz6]
   refine tk 1 (fun _ _ _ _ _ h => h) (by kernel_rfl) ‹_› ⟨_, ?_, by simp only [zz1, zz2, zz3]; rfl, .inl ⟨by rfl, ?_⟩, ?_⟩; rotate_left; · (intro w hSw; (try dsimp only at hSw); go_simp; all_goals with_reducible rfl)
   simp only [Act.put, zz4, zz5, zz6]
   refine tk 2 (fun _ _ _ _ _ h => h) (by kernel_rfl) ‹_› ⟨_, ?_, by simp only [zz1, zz2, zz3]; rfl, .inl ⟨by rfl, ?_⟩, ?_⟩; rotate_left; · (intro w hSw; (try dsimp only at hSw); go_simp; all_goals with_reducible rfl)
   simp only [Act.put, zz4, zz5, zz6]
   refine tk 3 (fun _ _ _ _ _ h => h) (by kernel_rfl) ‹_› ⟨_, _, by simp only [zz1, zz2, zz3]; rfl, yields_pcl rfl (.tmp 19) rfl b (off + k * 12) rfl (fun _ h => h.1), ?_⟩
   simp only [Act.put, zz4, zz5, zz6]
   refine tk 4 (fun _ _ _ _ _ h => h) (by kernel_rfl) ‹_› ⟨_, ?_, by simp only [zz1, zz2, zz3]; rfl, .inl ⟨by rfl, ?_⟩, ?_⟩; rotate_left; · (intro w hSw; (try dsimp only at hSw); go_simp; all_goals with_reducible rfl)
   simp only [Act.put, zz4, zz5, zz6]
   refine tk 5 (fun _ _ _ _ _ h => h) (by kernel_rfl) ‹_› ⟨_, ?_, by simp only [zz1, zz2, zz3]; rfl, .inl ⟨by rfl, ?_⟩, ?_⟩; rotate_left; · (intro w hSw; (try dsimp only at hSw); go_simp; all_goals with_reducible rfl)
   simp only [Act.put, zz4, zz5, zz6]
   refine tk 6 (fun _ _ _ _ _ h => h) (by kernel_rfl) ‹_› ⟨_, ?_, by simp only [zz1, zz2, zz3]; rfl, .inl ⟨by rfl, ?_⟩, ?_⟩; rotate_left; · (intro w hSw; (try dsimp only at hSw); go_simp; all_goals with_reducible rfl)
   simp only [Act.put, zz4, zz5, zz6]
   refine tk 7 (fun _ _ _ _ _ h => h) (by kernel_rfl) ‹_› ⟨_, _, by simp only [zz1, zz2, zz3]; rfl, yields_pcl rfl (.tmp 23) rfl b2 (off2 + k * 12) rfl (fun _ h => h.2), ?_⟩
   simp only [Act.put, zz4, zz5, zz6]
   refine tk 8 (fun _ _ _ _ _ h => h) (by kernel_rfl) ‹_› ⟨_, ?_, by simp only [zz1, zz2, zz3]; rfl, .inl ⟨by rfl, ?_⟩, ?_⟩; rotate_left; · (intro w hSw; (try dsimp only at hSw); go_simp; all_goals with_reducible rfl)
   simp only [Act.put, zz4, zz5, zz6]
   refine wpAnyH_done (by kernel_rfl) ?_ _
   refine NoPanic.normal ?_
   go_wp2_with fail
   go_roundg (D.length - (k + 1))
   case measure => omega
   case rel => exact ⟨k + 1, by omega, rfl, by go_num, hid hbw.out.drew⟩
  ·obtain rfl : k = D.length := by omega
   go_wp2_with fail
   go_ret
   exact ⟨rfl, hbw.out⟩
/-- Where a parcel stands in a list. -/
def AtIs (D : List Pcl) (p : Int) (i : Int) : Prop := (i = -1 ∧ ∀ q ∈ D, q.id ≠ p) ∨ ∃ k : Nat, ∃ h : k < D.length, i = k ∧ D[k].id = p
set_option maxHeartbeats 4000000 in
theorem lindex_any (A : Option Addr) (cap : Nat) (D : List Pcl) (p : Int) (w : World) (hA : PclsAt w A D) (hl : D.length ≤ 10000) :
  Calls Tryz.prog 27 #[.slice A D.length cap, .int .i64 p] w fun e w' => (∃ i, e = .returned (.int .i64 i) ∧ AtIs D p i) ∧ w' = w := by
 have HA := hid hA
 clear hA
 go_enter Tryz.func27, Tryz.ntmps27
 go_upto_region 2 with fail
 go_loopg [5] (D.length) (fun g i wr => ∃ k : Nat, k ≤ D.length ∧ g = D.length - k ∧ i = .int .i64 k ∧ Hid (∀ q ∈ D.take k, q.id ≠ p) ∧ w = wr)
 case atStart => exact ⟨0, by omega, by omega, rfl, hid (by simp), rfl⟩
 case round =>
  obtain ⟨k, hk, hgk, rfl, hno, rfl⟩ := hrel
  by_cases hlt : k < D.length
  ·obtain ⟨b, off, hAe, hc⟩ := HA.out (by omega)
   subst hAe
   obtain ⟨c0, _⟩ := prange_at (hc k hlt)
   have i0 : (0 : Int) ≤ k := by omega
   have i1 : (k : Int) < D.length := by omega
   have hsn : D.take (k + 1) = D.take k ++ [D[k]] := List.take_succ_eq_append_getElem hlt
   obtain ⟨x, hx⟩ : ∃ x, D[k].id = x := ⟨_, rfl⟩
   rw [hx] at c0
   have HSN := hid hsn
   have HX := hid hx
   clear hc hsn hx
   by_cases hp : x = p
   ·have dp : (x == p) = true := beq_iff_eq.2 hp
    have HP := hid hp
    clear hp
    go_wp2_with fail
    go_ret
    exact ⟨⟨_, rfl, .inr ⟨k, hlt, rfl, HX.out.trans HP.out⟩⟩, rfl⟩
   ·have dp : (x == p) = false := beq_eq_false_iff_ne.2 hp
    have HP := hid hp
    clear hp
    go_wp2_with fail
    go_roundg (D.length - (k + 1))
    case measure => omega
    case rel => exact ⟨k + 1, by omega, rfl, by go_num, hid (by
     rw [HSN.out]
     intro q hq
     rcases List.mem_append.1 hq with h | h
     ·exact hno.out q h
     ·rw [List.mem_singleton] at h
      subst h
      rw [HX.out]
      exact HP.out), rfl⟩
  ·obtain rfl : k = D.length := by omega
   have h2 := hno.out
   rw [List.take_length] at h2
   have HN := hid h2
   clear h2
   go_wp2_with fail
   go_ret
   exact ⟨⟨_, rfl, .inl ⟨rfl, HN.out⟩⟩, rfl⟩
def earlyL (L : List Ent) (K : Int) : List Ent := L.filter fun e => decide (e.1.known ≤ K)
theorem early_snoc (L : List Ent) (K : Int) (k : Nat) (h : k < L.length) : earlyL (L.take (k + 1)) K = earlyL (L.take k) K ++ if L[k].1.known ≤ K then [L[k]] else [] := by
 unfold earlyL
 rw [List.take_succ_eq_append_getElem h, List.filter_append]
 congr 1
 by_cases hk : L[k].1.known ≤ K <;> simp [hk]
theorem early_len (L : List Ent) (K : Int) : (earlyL L K).length ≤ L.length := List.length_filter_le _ _
theorem early_sub {L : List Ent} {K : Int} {e : Ent} (h : e ∈ earlyL L K) : e ∈ L := (List.mem_filter.1 h).1
theorem early_reps (L : List Ent) (K : Int) : reps (earlyL L K) = (reps L).filter fun r => decide (r.known ≤ K) := by
 unfold earlyL
 rw [List.filter_map]
 rfl
theorem sorted_pre {K : Int} : ∀ {l : List Rep}, (l.Pairwise fun a b => a.known ≤ b.known) → ∃ b, l = l.filter (fun r => decide (r.known ≤ K)) ++ b
 | [], _ => ⟨[], rfl⟩
 | a :: l, h => by
  rw [List.pairwise_cons] at h
  by_cases ha : a.known ≤ K
  ·obtain ⟨b, hb⟩ := sorted_pre (K := K) h.2
   refine ⟨b, ?_⟩
   rw [List.filter_cons_of_pos (by simpa using ha), List.cons_append, ← hb]
  ·refine ⟨a :: l, ?_⟩
   have : (a :: l).filter (fun r => decide (r.known ≤ K)) = [] := by
    rw [List.filter_eq_nil_iff]
    intro r hr
    rcases List.mem_cons.1 hr with rfl | hr
    ·simpa using ha
    ·have := h.1 r hr
     simp
     omega
   rw [this, List.nil_append]
theorem early_valid {L : List Ent} (hv : Valid (reps L)) (K : Int) : Valid (reps (earlyL L K)) := by
 obtain ⟨b, hb⟩ := sorted_pre (K := K) hv.sorted
 rw [early_reps]
 rw [hb] at hv
 exact hv.pre
theorem early_voided (L : List Ent) (K id : Int) : voided (reps (earlyL L K)) K id = voided (reps L) K id := by
 rw [Bool.eq_iff_iff, voided_iff, voided_iff, early_reps]
 constructor
 ·rintro ⟨y, hy, h⟩
  exact ⟨y, (List.mem_filter.1 hy).1, h⟩
 ·rintro ⟨y, hy, h1, h2, h3⟩
  exact ⟨y, List.mem_filter.2 ⟨hy, by simpa using h2⟩, h1, h2, h3⟩
theorem early_count (L : List Ent) (K : Int) : countE (earlyL L K) K = countE L K := by
 unfold countE
 conv => lhs; unfold earlyL
 rw [List.filter_filter]
 refine List.filter_congr fun e _ => ?_
 unfold countsB
 rw [show (List.filter (fun e : Ent => decide (e.1.known ≤ K)) L) = earlyL L K from rfl, early_voided]
 by_cases h : e.1.known ≤ K <;> simp [h]
theorem fails_nil {L : List Ent} {K en : Int} (hv : Valid (reps L)) : ¬ FailsBy L K [] en := by
 rintro (⟨i, h1, h2⟩ | ⟨_, ids, _, ⟨p, hp, _⟩, _⟩)
 ·exact h2 (h1.of_valid hv)
 ·simp at hp
theorem fails_one {L : List Ent} {K en p : Int} {ids : List Int} (hv : Valid (reps L)) (hi : IdsOf (countE L K) ids) (h : FailsBy L K [p] en) : p ∉ ids ∧ en = 30 := by
 rcases h with ⟨i, h1, h2⟩ | ⟨_, ids2, h1, ⟨q, hq, hn⟩, rfl⟩
 ·exact absurd (h1.of_valid hv) h2
 ·rw [List.mem_singleton] at hq
  subst hq
  rw [h1.same hi] at hn
  exact ⟨hn, rfl⟩
theorem check_valid {l : List Rep} {i : Int} (h : CheckIs l i 0) : Valid l := by
 rcases h with ⟨hv, _⟩ | ⟨_, _, _, _, hn, _⟩
 ·exact hv
 ·exact absurd rfl hn
/-! ### Arcs, amounts, sums -/
def arcA (L : List Arc) (i : Nat) : Arc := (L[i]?).getD ⟨0, 0, 0, 0, 0⟩
def xA (x : List Int) (i : Nat) : Int := (x[i]?).getD 0
theorem arc_at {L : List Arc} {i : Nat} (h : i < L.length) : L[i]? = some (arcA L i) := by unfold arcA; rw [List.getElem?_eq_getElem h]; rfl
theorem x_at {x : List Int} {i : Nat} (h : i < x.length) : x[i]? = some (xA x i) := by unfold xA; rw [List.getElem?_eq_getElem h]; rfl
theorem xA_set {x : List Int} {i : Nat} (h : i < x.length) (v : Int) (j : Nat) : xA (x.set i v) j = if j = i then v else xA x j := by
 unfold xA
 rw [List.getElem?_set]
 by_cases e : i = j
 ·subst e
  simp [h]
 ·rw [if_neg e, if_neg (fun h => e h.symm)]
theorem arc_mem {L : List Arc} {i : Nat} (h : i < L.length) : arcA L i ∈ L := List.mem_of_getElem? (arc_at h)
def sumN (f : Nat → Int) : Nat → Int
 | 0 => 0
 | k + 1 => sumN f k + f k
theorem sumN_congr {f g : Nat → Int} : ∀ {k : Nat}, (∀ i, i < k → f i = g i) → sumN f k = sumN g k
 | 0, _ => rfl
 | k + 1, h => by
  unfold sumN
  rw [sumN_congr (fun i hi => h i (by omega)), h k (by omega)]
theorem sumN_upd {f g : Nat → Int} {j : Nat} {d : Int} (h : ∀ i, i ≠ j → g i = f i) (hd : g j = f j + d) : ∀ {k : Nat}, sumN g k = sumN f k + if j < k then d else 0
 | 0 => by simp [sumN]
 | k + 1 => by
  unfold sumN
  rw [sumN_upd h hd (k := k)]
  by_cases e : k = j
  ·subst e
   rw [hd, if_neg (by omega), if_pos (by omega)]
   omega
  ·rw [h k e]
   by_cases h2 : j < k
   ·rw [if_pos h2, if_pos (by omega)]
    omega
   ·rw [if_neg h2, if_neg (by omega)]
    omega
theorem sumN_add (f g : Nat → Int) : ∀ k : Nat, sumN (fun i => f i + g i) k = sumN f k + sumN g k
 | 0 => rfl
 | k + 1 => by
  unfold sumN
  rw [sumN_add f g k]
  omega
theorem sumN_zero {f : Nat → Int} : ∀ {k : Nat}, (∀ i, i < k → f i = 0) → sumN f k = 0
 | 0, _ => rfl
 | k + 1, h => by
  unfold sumN
  rw [sumN_zero (fun i hi => h i (by omega)), h k (by omega)]
  rfl
theorem sumN_le {f g : Nat → Int} : ∀ {k : Nat}, (∀ i, i < k → f i ≤ g i) → sumN f k ≤ sumN g k
 | 0, _ => Int.le_refl _
 | k + 1, h => by
  unfold sumN
  have h1 := sumN_le (k := k) (fun i hi => h i (by omega))
  have h2 := h k (by omega)
  omega
theorem sumN_bound {f : Nat → Int} {B : Int} : ∀ {k : Nat}, (∀ i, i < k → -B ≤ f i ∧ f i ≤ B) → -(k * B) ≤ sumN f k ∧ sumN f k ≤ k * B
 | 0, _ => by simp [sumN]
 | k + 1, h => by
  unfold sumN
  have h1 := sumN_bound (k := k) (fun i hi => h i (by omega))
  have h2 := h k (by omega)
  have h3 : ((k + 1 : Nat) : Int) * B = k * B + B := by rw [Int.natCast_succ, Int.add_mul, Int.one_mul]
  rw [h3]
  omega
/-- How an arc counts at a node: into it, or out of it. -/
def dl (L : List Arc) (v : Int) (i : Nat) : Int := (if (arcA L i).to_ = v then 1 else 0) - (if (arcA L i).from_ = v then 1 else 0)
/-- What goes into a node more than out of it. -/
def exc (L : List Arc) (x : List Int) (v : Int) : Int := sumN (fun i => dl L v i * xA x i) L.length
theorem exc_set {L : List Arc} {x : List Int} {j : Nat} (hj : j < L.length) (hx : x.length = L.length) (d v : Int) : exc L (x.set j (xA x j + d)) v = exc L x v + dl L v j * d := by
 have key := sumN_upd (f := fun i => dl L v i * xA x i) (g := fun i => dl L v i * xA (x.set j (xA x j + d)) i) (j := j) (d := dl L v j * d)
  (fun i hi => by rw [xA_set (by omega), if_neg hi]) (by rw [xA_set (by omega), if_pos rfl, Int.mul_add]) (k := L.length)
 rw [if_pos hj] at key
 exact key
def headS (L : List Arc) (s : Step) : Int := if 0 < s.2 then (arcA L s.1).to_ else (arcA L s.1).from_
def tailS (L : List Arc) (s : Step) : Int := if 0 < s.2 then (arcA L s.1).from_ else (arcA L s.1).to_
/-- A step that the amounts leave open. -/
structure StepOk (L : List Arc) (x : List Int) (skip : Int) (s : Step) : Prop where
 lt : s.1 < L.length
 skip : (s.1 : Int) ≠ skip
 way : (s.2 = 1 ∧ xA x s.1 < (arcA L s.1).hi) ∨ (s.2 = -1 ∧ (arcA L s.1).lo < xA x s.1)
/-- Steps, from the end back to the beginning. -/
def WayP (L : List Arc) (start : Int) : Int → List Step → Prop
 | last, [] => last = start
 | last, s :: o => headS L s = last ∧ WayP L start (tailS L s) o
theorem dl_step {L : List Arc} {x : List Int} {skip : Int} {s : Step} (h : StepOk L x skip s) (n v : Int) : dl L v s.1 * (s.2 * n) = n * ((if headS L s = v then 1 else 0) - (if tailS L s = v then 1 else 0)) := by
 unfold dl headS tailS
 rcases h.way with ⟨e, _⟩ | ⟨e, _⟩
 ·have p : 0 < s.2 := by omega
  rw [if_pos p, if_pos p, e]
  by_cases h1 : (arcA L s.1).to_ = v <;> by_cases h2 : (arcA L s.1).from_ = v <;> simp [h1, h2]
 ·have p : ¬ 0 < s.2 := by omega
  rw [if_neg p, if_neg p, e]
  by_cases h1 : (arcA L s.1).to_ = v <;> by_cases h2 : (arcA L s.1).from_ = v <;> simp [h1, h2]
/-- The amounts lie within the bounds. -/
def Within (L : List Arc) (x : List Int) : Prop := ∀ i, i < L.length → (arcA L i).lo ≤ xA x i ∧ xA x i ≤ (arcA L i).hi
def Bd (L : List Arc) : Prop := ∀ a ∈ L, -100000000 ≤ a.lo ∧ a.lo ≤ 100000000 ∧ -100000000 ≤ a.hi ∧ a.hi ≤ 100000000
theorem okN_of {v : Int} (h : -1000000000000000 ≤ v ∧ v ≤ 1000000000000000) : okN v = true := by
 unfold okN
 rw [decide_eq_true h.1, decide_eq_true h.2]
 rfl
theorem exc_small {L : List Arc} {x : List Int} (hb : Bd L) (hw : Within L x) (hl : L.length ≤ 2000) (v : Int) : -200000000000 ≤ exc L x v ∧ exc L x v ≤ 200000000000 := by
 have h : -((L.length : Int) * 100000000) ≤ exc L x v ∧ exc L x v ≤ L.length * 100000000 := sumN_bound (fun i hi => by
  have h1 := hw i hi
  have h2 := hb _ (arc_mem hi)
  unfold dl
  by_cases h3 : (arcA L i).to_ = v <;> by_cases h4 : (arcA L i).from_ = v <;> simp [h3, h4] <;> omega)
 omega
/-- How much room a step has. -/
def capS (L : List Arc) (x : List Int) (s : Step) : Int := if 0 < s.2 then (arcA L s.1).hi - xA x s.1 else xA x s.1 - (arcA L s.1).lo
theorem StepOk.cap {L : List Arc} {x : List Int} {skip : Int} {s : Step} (h : StepOk L x skip s) : 1 ≤ capS L x s := by
 unfold capS
 rcases h.way with ⟨e, h1⟩ | ⟨e, h1⟩
 ·rw [if_pos (by omega)]; omega
 ·rw [if_neg (by omega)]; omega
theorem room_ok {L : List Arc} {x : List Int} {skip : Int} (hx : x.length = L.length) : ∀ {o : List Step}, (∀ s ∈ o, StepOk L x skip s) → ∀ m : Int, ∃ q, roomF L x o m = some q ∧ q ≤ m ∧ (∀ s ∈ o, q ≤ capS L x s) ∧ (1 ≤ m → 1 ≤ q)
 | [], _, m => ⟨m, rfl, Int.le_refl _, by simp, id⟩
 | s :: o, h, m => by
  have hs := h s (by simp)
  obtain ⟨q, h1, h2, h3, h4⟩ := room_ok hx (o := o) (fun t ht => h t (by simp [ht])) (min m (capS L x s))
  refine ⟨q, ?_, by omega, fun t ht => ?_, fun hm => h4 (by have := hs.cap; omega)⟩
  ·unfold roomF
   rw [arc_at hs.lt, x_at (by have := hs.lt; omega)]
   dsimp only
   rw [← h1]
   congr 1
   unfold capS
   split <;> rfl
  ·rcases List.mem_cons.1 ht with rfl | ht
   ·omega
   ·exact h3 t ht
/-- Leading along a way. -/
theorem lead_ok {L : List Arc} (hb : Bd L) {start n skip : Int} (hn : 0 ≤ n) : ∀ {o : List Step} {x : List Int} {last : Int}, x.length = L.length → Within L x → (∀ s ∈ o, StepOk L x skip s) → (∀ s ∈ o, n ≤ capS L x s) → (o.map (·.1)).Pairwise (· ≠ ·) → WayP L start last o →
  ∃ y, leadF n o x = some y ∧ y.length = L.length ∧ Within L y ∧ (∀ v, exc L y v = exc L x v + n * ((if last = v then 1 else 0) - (if start = v then 1 else 0))) ∧ ∀ i, i ∉ o.map (·.1) → xA y i = xA x i
 | [], x, last, hx, hw, _, _, _, h => by
  have h : last = start := h
  subst h
  exact ⟨x, rfl, hx, hw, fun v => by omega, fun _ _ => rfl⟩
 | s :: o, x, last, hx, hw, hs, hc, hp, h => by
  obtain ⟨h1, h2⟩ := h
  have hs0 := hs s (by simp)
  have hc0 := hc s (by simp)
  have hlt := hs0.lt
  rw [List.map_cons, List.pairwise_cons] at hp
  have hne : ∀ t ∈ o, t.1 ≠ s.1 := fun t ht e => hp.1 t.1 (List.mem_map_of_mem ht) e.symm
  have hwn := hw s.1 hlt
  have hnew : (arcA L s.1).lo ≤ xA x s.1 + s.2 * n ∧ xA x s.1 + s.2 * n ≤ (arcA L s.1).hi := by
   unfold capS at hc0
   rcases hs0.way with ⟨e, _⟩ | ⟨e, _⟩ <;> rw [e] at hc0 ⊢
   ·rw [if_pos (by omega)] at hc0; omega
   ·rw [if_neg (by omega)] at hc0; omega
  have hset : ∀ t ∈ o, xA (x.set s.1 (xA x s.1 + s.2 * n)) t.1 = xA x t.1 := fun t ht => by rw [xA_set (by omega), if_neg (hne t ht)]
  obtain ⟨y, e1, e2, e3, e4, e5⟩ := lead_ok hb hn (o := o) (x := x.set s.1 (xA x s.1 + s.2 * n)) (last := tailS L s) (by rw [List.length_set]; exact hx)
   (fun i hi => by
    rw [xA_set (by omega)]
    split
    ·rename_i e
     rw [e]
     exact hnew
    ·exact hw i hi)
   (fun t ht => by
    have h3 := hs t (by simp [ht])
    exact ⟨h3.lt, h3.skip, by rw [hset t ht]; exact h3.way⟩)
   (fun t ht => by
    have h3 := hc t (by simp [ht])
    unfold capS at h3 ⊢
    rw [hset t ht]
    exact h3) hp.2 h2
  refine ⟨y, ?_, e2, e3, fun v => ?_, fun i hi => ?_⟩
  ·unfold leadF
   rw [x_at (by omega)]
   dsimp only
   have h3 := hb _ (arc_mem hlt)
   rw [if_pos ⟨okN_of (by omega), by rcases hs0.way with ⟨e, _⟩ | ⟨e, _⟩ <;> omega, by rcases hs0.way with ⟨e, _⟩ | ⟨e, _⟩ <;> omega⟩]
   exact e1
  ·rw [e4 v, exc_set hlt hx, dl_step hs0 n v, h1]
   by_cases k1 : last = v <;> by_cases k2 : tailS L s = v <;> by_cases k3 : start = v <;> simp [k1, k2, k3] <;> omega
  ·rw [List.map_cons, List.mem_cons, not_or] at hi
   rw [e5 i hi.2, xA_set (by omega), if_neg hi.1]
/-! ### The search -/
structure Srch (L : List Arc) (x : List Int) (start skip : Int) (N ord : List Int) (s : PS) : Prop where
 seen : ∀ v, s.seen v = true ↔ v ∈ ord
 nodup : ord.Pairwise (· ≠ ·)
 first : start ∈ ord
 sub : ∀ v ∈ ord, v ∈ N
 by_ : ∀ v ∈ ord, v ≠ start → ∃ st l1 l2, s.by_ v = some st ∧ StepOk L x skip st ∧ headS L st = v ∧ ord = l1 ++ v :: l2 ∧ tailS L st ∈ l1
theorem split_same {α : Type} {a b c d : List α} {v : α} (hn : (a ++ v :: b).Pairwise (· ≠ ·)) (h : a ++ v :: b = c ++ v :: d) : a = c := by
 induction a generalizing c with
 | nil =>
  rcases c with _ | ⟨y, c⟩
  ·rfl
  ·simp only [List.nil_append, List.cons_append, List.cons.injEq] at h
   obtain ⟨rfl, h⟩ := h
   rw [List.nil_append, List.pairwise_cons] at hn
   exact absurd rfl (hn.1 v (by rw [h]; simp))
 | cons e a ih =>
  rcases c with _ | ⟨y, c⟩
  ·simp only [List.nil_append, List.cons_append, List.cons.injEq] at h
   obtain ⟨rfl, h⟩ := h
   rw [List.cons_append, List.pairwise_cons] at hn
   exact absurd rfl (hn.1 e (by simp))
  ·simp only [List.cons_append, List.cons.injEq] at h
   obtain ⟨rfl, h⟩ := h
   rw [List.cons_append, List.pairwise_cons] at hn
   rw [ih hn.2 h]
/-- A node more. -/
theorem Srch.add {L : List Arc} {x : List Int} {start skip : Int} {N ord : List Int} {s : PS} (h : Srch L x start skip N ord s) {b : Int} {st : Step} (hb : s.seen b = false) (hN : b ∈ N) (hst : StepOk L x skip st) (hh : headS L st = b) (ht : tailS L st ∈ ord) (row : List Int) :
  Srch L x start skip N (ord ++ [b]) ⟨withP s.seen b, setAt s.by_ b st, row⟩ := by
 have hno : b ∉ ord := fun h1 => by rw [(h.seen b).2 h1] at hb; cases hb
 refine ⟨fun v => ?_, ?_, by simp [h.first], fun v hv => ?_, fun v hv hvs => ?_⟩
 ·show withP s.seen b v = true ↔ _
  unfold withP
  by_cases e : v = b
  ·rw [if_pos e, e]
   simp
  ·rw [if_neg e, h.seen v]
   simp [e]
 ·rw [List.pairwise_append]
  refine ⟨h.nodup, by simp, fun a ha c hc => ?_⟩
  rw [List.mem_singleton] at hc
  subst hc
  exact fun e => hno (e ▸ ha)
 ·rcases List.mem_append.1 hv with hv | hv
  ·exact h.sub v hv
  ·rw [List.mem_singleton] at hv
   rw [hv]
   exact hN
 ·show ∃ st' l1 l2, setAt s.by_ b st v = some st' ∧ _
  unfold setAt
  by_cases e : v = b
  ·subst e
   rw [if_pos rfl]
   exact ⟨st, ord, [], rfl, hst, hh, rfl, ht⟩
  ·rw [if_neg e]
   rcases List.mem_append.1 hv with hv | hv
   ·obtain ⟨st', l1, l2, h1, h2, h3, h4, h5⟩ := h.by_ v hv hvs
    exact ⟨st', l1, l2 ++ [b], h1, h2, h3, by rw [h4]; simp, h5⟩
   ·rw [List.mem_singleton] at hv
    exact absurd hv e
theorem Srch.row {L : List Arc} {x : List Int} {start skip : Int} {N ord : List Int} {s : PS} (h : Srch L x start skip N ord s) (row : List Int) : Srch L x start skip N ord ⟨s.seen, s.by_, row⟩ := ⟨h.seen, h.nodup, h.first, h.sub, h.by_⟩
/-- The steps back from a node. -/
theorem trace_ok {L : List Arc} {x : List Int} {start skip : Int} {N ord : List Int} {s : PS} (h : Srch L x start skip N ord s) : ∀ (m : Nat) (l1 : List Int) (v : Int) (l2 : List Int), l1.length ≤ m → ord = l1 ++ v :: l2 → ∀ (n : Nat) (out : List Step), m < n →
  ∃ o, traceF L start s.by_ n v out = some (out ++ o) ∧ WayP L start v o ∧ (∀ t ∈ o, StepOk L x skip t ∧ headS L t ∈ l1 ++ [v] ∧ tailS L t ∈ l1) ∧ (o.map (·.1)).Pairwise (· ≠ ·)
 | m, l1, v, l2, hm, ho, n, out, hn => by
  obtain ⟨n, rfl⟩ : ∃ k, n = k + 1 := ⟨n - 1, by omega⟩
  by_cases hv : v = start
  ·refine ⟨[], ?_, hv, by simp, by simp⟩
   unfold traceF
   rw [if_pos hv, List.append_nil]
  ·obtain ⟨st, a1, a2, hb1, hb2, hb3, hb4, hb5⟩ := h.by_ v (by rw [ho]; simp) hv
   have ha : l1 = a1 := split_same (v := v) (b := l2) (d := a2) (by rw [← ho]; exact h.nodup) (by rw [← ho, hb4])
   subst ha
   obtain ⟨c1, c2, hc⟩ := List.append_of_mem hb5
   have hl1 : c1.length < l1.length := by rw [hc]; simp
   obtain ⟨m, rfl⟩ : ∃ k, m = k + 1 := ⟨m - 1, by omega⟩
   obtain ⟨o, h1, h2, h3, h4⟩ := trace_ok h m c1 (tailS L st) (c2 ++ v :: l2) (by omega) (by rw [ho, hc]; simp) n (out ++ [st]) (by omega)
   have hvn : v ∉ l1 := fun hv1 => by
    have h5 := h.nodup
    rw [ho, List.pairwise_append] at h5
    exact h5.2.2 v hv1 v (by simp) rfl
   have hsub : ∀ y, y ∈ c1 ++ [tailS L st] → y ∈ l1 := fun y hy => by
    rw [hc]
    rcases List.mem_append.1 hy with hy | hy
    ·simp [hy]
    ·rw [List.mem_singleton] at hy
     simp [hy]
   refine ⟨st :: o, ?_, ⟨hb3, h2⟩, fun t ht => ?_, ?_⟩
   ·unfold traceF
    rw [if_neg hv, hb1]
    dsimp only [Option.getD_some]
    rw [arc_at hb2.lt]
    dsimp only
    have : out ++ st :: o = out ++ [st] ++ o := by simp
    rw [this, ← h1]
    rfl
   ·rcases List.mem_cons.1 ht with rfl | ht
    ·exact ⟨hb2, by simp [hb3], hb5⟩
    ·obtain ⟨k1, k2, k3⟩ := h3 t ht
     exact ⟨k1, List.mem_append_left _ (hsub _ k2), hsub _ (List.mem_append_left _ k3)⟩
   ·rw [List.map_cons, List.pairwise_cons]
    refine ⟨fun i hi => ?_, h4⟩
    obtain ⟨t, ht, rfl⟩ := List.mem_map.1 hi
    intro e
    obtain ⟨k1, k2, k3⟩ := h3 t ht
    have e1 := hsub _ k2
    have e2 := hsub _ (List.mem_append_left _ k3)
    have hno : headS L t = v ∨ tailS L t = v := by
     rw [← hb3]
     unfold headS tailS
     rw [← e]
     rcases hb2.way with ⟨w1, _⟩ | ⟨w1, _⟩ <;> rcases k1.way with ⟨w2, _⟩ | ⟨w2, _⟩ <;> rw [w1, w2] <;> simp
    rcases hno with e3 | e3
    ·exact hvn (e3 ▸ e1)
    ·exact hvn (e3 ▸ e2)
end Go.Proofs.YtfaoillnakhejaaGreat
