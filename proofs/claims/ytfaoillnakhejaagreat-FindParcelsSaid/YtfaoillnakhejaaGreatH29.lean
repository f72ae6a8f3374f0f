/- Chain; What the engine's calls answer on the beach; sane: the chapter's examples hold. -/
import Derived.Test.YtfaoillnakhejaaGreatH24
import Derived.Test.YtfaoillnakhejaaGreatG13
import Derived.Deep.CutRange
import Derived.Deep.CutBlock
import Derived.WalkMore
import Derived.Test.YtfaoillnakhejaaGreatH9
import Derived.Test.YtfaoillnakhejaaGreatH28
import Derived.Test.YtfaoillnakhejaaGreatH6
namespace Go.Proofs.YtfaoillnakhejaaGreat
set_option maxRecDepth 100000
open Go.RowKit
theorem field_idR (r : Rep) (P : Option Addr) (c : Nat) (w : World) : (Instr.field 46 (evR (r, P, c)) 0).run Tryz.prog w = .ok (.int .i64 r.id) w := by kernel_rfl
theorem ints_two (w : World) (p q : Int) : IntsAt (w.alloc (.cells #[.int .i64 p, .int .i64 q] 3)) (some ⟨w.heap.size, 0, none⟩) [p, q] := fun _ => ⟨w.heap.size, 0, rfl, fun j hj => by
 have h : j = 0 ∨ j = 1 := by simp at hj; omega
 rcases h with rfl | rfl <;> simp⟩
theorem Queue.lo {w : World} {base base' : Nat} {v : Value} {xs : List Int} (h : Queue w base v xs) (hb : base' ≤ base) : Queue w base' v xs := by
 obtain ⟨g, off, cap, cur, h1, h2, h3⟩ := h
 exact ⟨g, off, cap, cur, h1, by omega, h3⟩
theorem MapOf.look2I {w : World} {r : Nat} {m : Much} (h : MapOf w r (Value.int .i64) m) (p : Int) : (Instr.lookup 80 (.map (some r)) (.int .i64 p) true).run Tryz.prog w = .ok (.tuple #[.int .i64 (mAt m p), .bool (m p).isSome]) w := by
 have := h.look2 mapI_u (.int .i64 0) (intZ w) p
 rw [this]
 unfold mAt
 cases m p <;> rfl
/-- A map made, and one entry put in. -/
theorem one_map {β : Type} {ev : β → Value} {t et : TypeId} (ht : Tryz.prog.underlying t = some (.map 3 et)) (w : World) (p : Int) (v : β) : ∃ W, (Instr.mapUpdate t (.map (some w.heap.size)) (.int .i64 p) (ev v)).run Tryz.prog (w.alloc (.map #[] 0)) = .ok () W ∧ MapOf W w.heap.size ev (fun q => if q = p then some v else none) ∧ Below w.heap.size w W := by
 obtain ⟨W, h3, h4, h5⟩ := (MapOf.new (ev := ev) w).put ht p v
 exact ⟨W, h3, h4, ((Below.refl _ w).alloc (Nat.le_refl _) _).grown h5 (by simp) (fun k e => by cases e; exact Nat.le_refl _)⟩
theorem bfs_nil (C : List Ent) (n : Nat) (far : Much) : bfsF C n [] far = some far := by cases n <;> rfl
/-- What Chain hands back. -/
def ChainPost (L : List Ent) (K a b : Int) (R : Option (List Int)) (w : World) (e : Ending) (w' : World) : Prop :=
 Below w.heap.size w w' ∧ ((∃ er, FailsBy L K [a, b] er ∧ e = .returned (.tuple #[.slice none 0 0, .int .i64 er])) ∨ (Valid (reps L) ∧ ∃ ids, IdsOf (countE L K) ids ∧ a ∈ ids ∧ b ∈ ids ∧
  match R with
  | none => e = .returned (.tuple #[.slice none 0 0, .int .i64 5])
  | some ol => ∃ v, e = .returned (.tuple #[v, .int .i64 0]) ∧ w'.ownsRow w.heap.size 3 1 v ol.length (ints ol)))
theorem app_intk {w : World} {base : Nat} {v : Value} {xs : List Int} (a : Int) (hx : w.ownsRow base 3 1 v xs.length (ints xs)) (hlx : xs.length ≤ 100000) (hbase : base ≤ w.heap.size) :
  ∃ v' w1, (Builtin.append_ #[25, 25] 25 #[v, .slice (some ⟨w.heap.size, 0, none⟩) 1 1]).run Tryz.prog (w.alloc (.cells #[.int .i64 a] 3)) = .ok v' w1 ∧
   w1.ownsRow base 3 1 v' (xs ++ [a]).length (ints (xs ++ [a])) ∧ Below base w w1 ∧ ∀ k, k < w.heap.size → v.ownBlock ≠ some k → w1.heap[k]? = w.heap[k]? := by
 obtain ⟨i, h1, h2, h3, h4⟩ := ints_info
 obtain ⟨v', w1, r1, o1, g1, _, l1⟩ := run_append_own_at (P := Tryz.prog) (w := w.alloc (.cells #[.int .i64 a] 3)) base 25 25 3 i _ 1 8 intsl_u h1 h2 h3 h4 (by rfl) (by omega) v xs.length (ints xs) (hx.alloc _)
  ⟨w.heap.size, 0, none⟩ 1 1 [.int .i64 a] rfl (cell_one_new w _ _) (by simp [Value.oneCell']) (by unfold maxLen; omega) (by omega) (by simp; omega)
 refine ⟨v', w1, r1, ?_, ((Below.refl _ _).alloc hbase _).grown g1 (by simp; omega) (fun g e => (hx.lt g e).1), fun k hk hne => (g1.block k (by simp; omega) (fun e => hne e.symm)).trans (heap_alloc_old _ _ _ hk)⟩
 rw [List.length_append, List.length_singleton, ints_append]
 exact o1
theorem best_snoc (C : List Ent) (l : List Int) (p : Int) : bestF C (l ++ [p]) = bestStep C (bestF C l) p := by
 unfold bestF
 rw [List.foldl_append]
 rfl
theorem next_snoc (C : List Ent) (F : Much) (l : List Int) (p best : Int) : nextF C F (l ++ [p]) best = nextF C F l best ++ if uidF C p = best then onNext C F p else [] := by
 unfold nextF
 rw [List.filter_append, List.flatMap_append]
 congr 1
 by_cases h : uidF C p = best <;> simp [h]
theorem next_same {C : List Ent} {F : Much} {l m : List Int} (h : ∀ p, p ∈ l ↔ p ∈ m) (best x : Int) : x ∈ nextF C F l best ↔ x ∈ nextF C F m best := by
 unfold nextF
 simp only [List.mem_flatMap, List.mem_filter, h]
set_option maxHeartbeats 32000000 in
theorem chain_any (A : Option Addr) (cap : Nat) (L : List Ent) (K p1 p2 : Int) (w : World) (hA : EntsAt w A L) (hl : L.length ≤ 210) (hcap : L.length ≤ cap) {R : Option (List Int)} (hR : Valid (reps L) → (∃ ids, IdsOf (countE L K) ids ∧ p1 ∈ ids ∧ p2 ∈ ids) → chainF (countE L K) p1 p2 = some R) :
  Calls Tryz.prog 16 #[.slice A L.length cap, .int .i64 K, .int .i64 p1, .int .i64 p2] w (ChainPost L K p1 p2 R w) := by
 have HLK := hid (looks_later hA hl hcap K [p1, p2] (by simp) 2)
 have HCL : Hid ((countE L K).length ≤ 210) := hid (Nat.le_trans (countE_len L K) hl)
 have HR0 := hid hR
 clear hA hR
 go_enter Tryz.func16, Tryz.ntmps16
 go_wp2_with fail
 go_step3
 go_wp2_with fail
 refine (HLK.out _ _ ((Below.refl _ _).alloc (Nat.le_refl _) _) (ints_two w p1 p2)).mono ?_
 rintro e w2 hpost
 obtain ⟨hb2, hcase⟩ := looks_two hpost
 have HB2 := hid (((Below.refl _ w).alloc (Nat.le_refl _) (.cells #[.int .i64 p1, .int .i64 p2] 3)).trans (hb2.mono (by simp)))
 clear hpost hb2
 rcases hcase with ⟨er, hf, rfl⟩ | ⟨hv, ids, hids, hin, bb, s, r1, r2, r3, r4, A2, cap2, rfl, hla⟩
 ·have hne : (er != 0) = true := bne_iff_ne.2 hf.ne
  have HF := hid hf
  clear hf
  go_wp2_with fail
  rw [Exit.noGoto_ret]
  go_ret2
  unfold ChainPost
  exact ⟨HB2.out, .inl ⟨er, HF.out, rfl⟩⟩
 have HI := hid hids
 have HIN := hid (And.intro (hin p1 (by simp)) (hin p2 (by simp)))
 have HV := hid hv
 have HSO := hid hla.sound
 have HLA := hid hla
 have HR := hid (HR0.out hv ⟨ids, hids, hin p1 (by simp), hin p2 (by simp)⟩)
 clear HR0
 obtain ⟨C, hC⟩ : ∃ C, countE L K = C := ⟨_, rfl⟩
 rw [hC] at HI HCL HSO HLA HR
 have HCE := hid hC
 have hb2s := HB2.out.size
 have hfin : ∀ (e : Ending) (w' : World), Below w2.heap.size w2 w' → (match (generalizing := false) R with
  | none => e = .returned (.tuple #[.slice none 0 0, .int .i64 5])
  | some ol => ∃ v, e = .returned (.tuple #[v, .int .i64 0]) ∧ w'.ownsRow w2.heap.size 3 1 v ol.length (ints ol)) → ChainPost L K p1 p2 R w e w' := fun e w' hb h => by
  refine ⟨HB2.out.trans (hb.mono HB2.out.size), .inr ⟨HV.out, ids, by rw [HCE.out]; exact HI.out, HIN.out.1, HIN.out.2, ?_⟩⟩
  rcases R with _ | ol
  ·exact h
  ·obtain ⟨v, h1, h2⟩ := h
   exact ⟨v, h1, own_lo h2 HB2.out.size⟩
 have HFIN := hid hfin
 have HBN : Hid (∀ p, ∀ a, (entOr (makerE C p)).2.1 = some a → 0 < (entOr (makerE C p)).1.parts.length → a.block < w2.heap.size) := hid (fun p a ha h0 => by
  have := (entOr_parts HLA.out.ents.parts p).ints
  rw [ha] at this
  exact ints_block this h0)
 obtain ⟨fuel, hfuel⟩ : ∃ n : Nat, n = 2000 := ⟨_, rfl⟩
 have hRF := HR.out
 unfold chainF at hRF
 rw [← hfuel] at hRF
 have HRF := hid hRF
 clear hfin hids hin hv hla hC HLK HR hRF hfuel
 have hmm := @run_makeMap Tryz.prog
 obtain ⟨W, hput, hmf, hbw⟩ := one_map (ev := Value.int .i64) (t := 80) mapI_u w2 p2 0
 have HMF := hid hmf
 have HBW := hid hbw
 have hlw : w2.heap.size < W.heap.size := hmf.lt
 clear hmf hbw
 go_upto_region 5 with (fail)
 clear hmm hput
 go_upto_region 6 with (fail)
 have HQ0 : Hid (Queue (W.alloc (.cells #[.int .i64 p2] 3)) w2.heap.size (.slice (some ⟨W.heap.size, 0, none⟩) 1 1) [p2]) := hid ((Queue.one W p2).lo (by omega))
 go_loopg [13] (fuel) (fun g rowv wr => ∃ (row : List Int) (far : Much) (n : Nat), g = n ∧ Hid (Queue wr w2.heap.size rowv row) ∧ Hid (MapOf wr w2.heap.size (Value.int .i64) far) ∧ Hid (Below w2.heap.size w2 wr) ∧ row.length ≤ 1001 ∧
  Hid ((match bfsF C n row far with | none => none | some F => if (F p1).isSome = true then (stepsF C F fuel [p1] []).map some else some none) = some R))
 case atStart => exact ⟨[p2], _, fuel, rfl, HQ0, hid (HMF.out.below ((Below.refl _ _).alloc (Nat.le_refl _) _)), hid (HBW.out.alloc HBW.out.size _), by simp, HRF⟩
 case round =>
  obtain ⟨row, far, n, hgn, HQ, HM, HB, hrl, HRn⟩ := hrel
  rcases row with _ | ⟨v, rest⟩
  ·have hrn := HRn.out
   rw [bfs_nil] at hrn
   dsimp only at hrn
   obtain ⟨gq, off, cap, cur, hv, _⟩ := HQ.out
   subst hv
   have HRR := hid hrn
   have hlk := HM.out.look2I p1
   have HM0 := hid HM.out
   clear hrn HRn HRF HQ0 HQ
   dsimp only [List.length_nil]
   rcases hfs : (far p1).isSome with _ | _
   ·rw [hfs] at HRR hlk
    have HRZ : Hid (R = none) := hid (by have := HRR.out; rw [if_neg (by simp)] at this; exact (Option.some.inj this).symm)
    clear hfs HRR
    go_wp2_with fail
    rw [Exit.noGoto_ret]
    go_ret2
    refine HFIN.out _ _ HB.out ?_
    rw [HRZ.out]
    rfl
   ·rw [hfs] at HRR hlk
    have HRS : Hid ((stepsF C far fuel [p1] []).map some = some R) := hid (by have := HRR.out; rwa [if_pos rfl] at this)
    clear hfs HRR
    rcases hst : stepsF C far fuel [p1] [] with _ | ol
    ·have := HRS.out
     rw [hst] at this
     cases this
    have hRe : R = some ol := by
     have := HRS.out
     rw [hst] at this
     exact (Option.some.inj this).symm
    have HST := hid hst
    have HFI2 := hid (fun e w' hb h => HFIN.out e w' hb (by rw [hRe]; exact h))
    clear hst hRe HRS HFIN
    obtain ⟨V1, hV1⟩ : ∃ V, V = wr := ⟨_, rfl⟩
    subst hV1
    have hmm := @run_makeMap Tryz.prog
    obtain ⟨W3, hput3, hm3, hb3⟩ := one_map (ev := Value.bool) (t := 69) mapB_u V1 p1 true
    have hbs := HB.out.size
    have HM3 : Hid (MapOf W3 V1.heap.size Value.bool (memF [p1])) := hid (by
     have : memF [p1] = fun q => if q = p1 then some true else none := by funext q; simp [memF]
     rw [this]
     exact hm3)
    have HF3 := hid (HM0.out.below hb3)
    have HB3 := hid (HB.out.trans (hb3.mono HB.out.size))
    clear hm3 hb3
    go_upto_region 20 with (fail)
    clear hlk
    go_wp2_with fail
    go_step3
    clear hmm hput3
    go_wp2_with fail
    go_loopg [21, 22] (fuel) (fun g ov hv wr => ∃ (n : Nat) (hl ol0 : List Int) (rh : Nat), g = n ∧ hv = .map (some rh) ∧ Hid (MapOf wr rh Value.bool (memF hl)) ∧ Hid (MapOf wr w2.heap.size (Value.int .i64) far) ∧ Hid (wr.ownsRow w2.heap.size 3 1 ov ol0.length (ints ol0)) ∧ Hid (Below w2.heap.size w2 wr) ∧ Hid (stepsF C far n hl ol0 = some ol))
    case atStart => exact ⟨fuel, [p1], [], V1.heap.size, rfl, rfl, HM3, HF3, hid (World.ownsRow_nil _ _ _ _), HB3, HST⟩
    case round =>
     obtain ⟨n, hl, ol0, rh, hgn, rfl, HMH, HMF2, HOW, HBV, HSN⟩ := hrel
     obtain ⟨V, hV⟩ : ∃ V, V = wr := ⟨_, rfl⟩
     subst hV
     rcases n with _ | n
     ·have := HSN.out
      cases this
     have hsn := HSN.out
     unfold stepsF at hsn
     obtain ⟨m, hma, hmn, hmg⟩ := HMH.out
     obtain ⟨w4, hrun4, hrg4, hb4, hs4⟩ := run_range mapB_u hma
     have hmem : ∀ p, p ∈ m.map (·.1) ↔ p ∈ hl := fun p => by
      have h1 := hmg p
      unfold memF at h1
      constructor
      ·intro h
       refine Classical.byContradiction fun hn => ?_
       rw [if_neg hn] at h1
       exact get_none.1 h1 h
      ·intro h
       refine Classical.byContradiction fun hn => ?_
       rw [if_pos h, get_none.2 hn] at h1
       cases h1
     have HMEM := hid hmem
     have hrhl := HMH.out.lt
     have HSS := hid hsn
     have HRUN4 := hid hrun4
     have HRG4 := hid hrg4
     have HB4 := hid hb4
     have HMA := hid hma
     have hbv := HBV.out.size
     clear hmem hsn HSN hrun4 hrg4 hb4 hma hmn hmg
     go_upto_region 24 with (first | refine range_op rfl _ rfl rfl HRUN4.out ?_)
     go_frame
     go_loopg [23] (m.length) (fun g bv wq => ∃ (done L' : List (Int × Bool)), g = L'.length ∧ bv = .int .i64 (bestF C (done.map (·.1))) ∧ Hid ((done ++ L').Perm m) ∧ Hid (Ranging wq rh V.heap.size Value.bool L') ∧ Hid (∀ p ∈ done.map (·.1), mAt far p ≠ 0) ∧ Hid (Below V.heap.size V wq))
     case atStart => exact ⟨[], m, rfl, rfl, hid (List.Perm.refl _), HRG4, hid (by simp), HB4⟩
     case round =>
      obtain ⟨done, L', hgL, rfl, hpm, hrg, hnz, hbq⟩ := hrel
      rcases hrg.out.next (P := Tryz.prog) 0 (Nat.ne_of_lt hrhl) with ⟨rfl, hrun⟩ | ⟨L1, a, L2, w5, rfl, hrun, hrg2, hgb, hsz, hent⟩
      ·-- nothing is left
       rw [List.append_nil] at hpm
       have HRUN := hid hrun
       have hmd : ∀ p, p ∈ done.map (·.1) ↔ p ∈ hl := fun p => by rw [← HMEM.out p]; exact (hpm.out.map _).mem_iff
       have hss := HSS.out
       have hnz2 : ¬ hl.any (fun p => decide (mAt far p = 0)) = true := fun h => by
        obtain ⟨p, hp, h0⟩ := List.any_eq_true.1 h
        exact hnz.out p ((hmd p).2 hp) (of_decide_eq_true h0)
       rw [if_neg hnz2] at hss
       by_cases hgood : hl.all (goodH C far) = true ∧ ol0.length ≤ 1000
       rotate_left
       ·rw [if_neg hgood] at hss
        cases hss
       rw [if_pos hgood] at hss
       have hgd : ∀ p ∈ hl, 1 ≤ uidF C p ∧ 1 ≤ mAt far p ∧ mAt far p ≤ 1000000 := fun p hp => by
        have := List.all_eq_true.1 hgood.1 p hp
        unfold goodH at this
        simp only [Bool.and_eq_true, decide_eq_true_eq] at this
        exact ⟨this.1.1, this.1.2, this.2⟩
       have hbe : bestF C (done.map (·.1)) = bestF C hl := best_same (fun p hp => (hgd p ((hmd p).1 hp)).1) hmd
       rw [hbe]
       obtain ⟨best, hbest⟩ : ∃ b, bestF C hl = b := ⟨_, rfl⟩
       rw [hbest] at hss ⊢
       have HS3 := hid hss
       have HGD := hid hgd
       have HMD := hid hmd
       have hol := hgood.2
       have HMHq := hid (HMH.out.below hbq.out)
       have HMAq := hid (HMA.out.below hbq.out)
       clear hmd hss hnz2 hgood hgd hbe hbest HSS
       have hmm := @run_makeMap Tryz.prog
       obtain ⟨W5, hW5⟩ : ∃ W, wr.alloc (.map #[] 0) = W := ⟨_, rfl⟩
       have hm5 : MapOf W5 wr.heap.size Value.bool (memF []) := by rw [← hW5, memF_nil]; exact MapOf.new _
       have hb5 : Below wr.heap.size wr W5 := by rw [← hW5]; exact (Below.refl _ _).alloc (Nat.le_refl _) _
       obtain ⟨w6, hrun6, hrg6, hb6, hs6⟩ := run_range mapB_u (HMAq.out.below hb5)
       have hrnl := hm5.lt
       have HM6 := hid (hm5.below hb6)
       have HB6 := hid (hbq.out.trans ((hb5.trans (hb6.mono hb5.size)).mono hbq.out.size))
       have HRUN6 := hid hrun6
       have HRG6 := hid hrg6
       have hbqs := hbq.out.size
       clear hm5 hb5 hrun6 hrg6 hb6 hrun
       go_upto_region 30 with (first | refine next_op rfl _ rfl rfl rfl HRUN.out ?_)
       go_upto_region 31 with (fail)
       clear hmm
       go_upto_region 32 with (first | refine range_op rfl _ rfl rfl HRUN6.out ?_)
       clear hW5
       obtain ⟨rn, hrn⟩ : ∃ r, wr.heap.size = r := ⟨_, rfl⟩
       obtain ⟨qi, hqi⟩ : ∃ r, W5.heap.size = r := ⟨_, rfl⟩
       rw [hrn] at HM6 hrnl hbqs ⊢
       rw [hqi] at HRG6 hrnl hs6 ⊢
       clear hrn hqi
       go_loopg [] (m.length) (fun g wq => ∃ (done L' : List (Int × Bool)), g = L'.length ∧ Hid ((done ++ L').Perm m) ∧ Hid (Ranging wq rh qi Value.bool L') ∧ Hid (MapOf wq rn Value.bool (memF (nextF C far (done.map (·.1)) best))) ∧ Hid (Below V.heap.size V wq))
       case atStart => exact ⟨[], m, rfl, hid (List.Perm.refl _), HRG6, HM6, HB6⟩
       case round =>
        clear hpm hrg hnz
        obtain ⟨done, L', hgL, hpm, hrg, hmn, hbq⟩ := hrel
        rcases hrg.out.next (P := Tryz.prog) 0 (by omega) with ⟨rfl, hrun⟩ | ⟨L1, a, L2, w5, rfl, hrun, hrg2, hgb, hsz, hent⟩
        ·rw [List.append_nil] at hpm
         have HRUN := hid hrun
         have hmd : ∀ p, p ∈ done.map (·.1) ↔ p ∈ hl := fun p => by rw [← HMEM.out p]; exact (hpm.out.map _).mem_iff
         have HMN : Hid (MapOf wr rn Value.bool (memF (nextF C far hl best))) := hid (by
          have := hmn.out
          rwa [memF_same (next_same hmd best)] at this)
         have how := own_below HOW.out hbq.out
         obtain ⟨v7, w7, hr7, ho7, hb7, hk7⟩ := app_intk best how (by omega) (Nat.le_trans hbv hbq.out.size)
         have HR7 := hid hr7
         have HO7 := hid ho7
         have HN7 : Hid (MapOf w7 rn Value.bool (memF (nextF C far hl best))) := hid (HMN.out.same (hk7 rn HMN.out.lt (fun e => by have := (HOW.out.lt _ e).2; omega)))
         have HF7 : Hid (MapOf w7 w2.heap.size (Value.int .i64) far) := hid ((HMF2.out.below hbq.out).same (hk7 _ (HMF2.out.below hbq.out).lt (fun e => by
          rcases HOW.out.2 with ⟨h1, _⟩ | ⟨g9, cap9, cur9, h1, _, h2, _⟩
          ·rw [h1] at e
           cases e
          ·rw [h1] at e
           cases e
           exact HMF2.out.not_cells _ _ _ h2)))
         have HB7 := hid (HBV.out.trans ((hbq.out.mono hbv).trans hb7))
         clear hmd how hr7 ho7 hb7 hk7 hrun
         go_upto_region 42 with (first | refine next_op rfl _ rfl rfl rfl HRUN.out ?_)
         go_wp2_with (first | (at_builtin; refine wpList_app rfl rfl rfl rfl rfl HR7.out ?_))
         go_roundg (n)
         case measure => omega
         case rel => exact ⟨n, nextF C far hl best, ol0 ++ [best], rn, rfl, rfl, HN7, HF7, HO7, HB7, HS3⟩
        ·have hap : a.1 ∈ hl := (HMEM.out a.1).1 (List.mem_map_of_mem (f := Prod.fst) (hpm.out.subset (by simp)))
         obtain ⟨p, hp⟩ : ∃ p, a.1 = p := ⟨_, rfl⟩
         have hgd := HGD.out a.1 hap
         have HPERM : Hid (((done ++ [a]) ++ (L1 ++ L2)).Perm m) := hid (by
          refine List.Perm.trans ?_ hpm.out
          rw [List.append_assoc]
          exact List.Perm.append_left done (by simpa using (List.perm_middle (l₁ := L1) (l₂ := L2) (a := a)).symm))
         have HNX := hid (next_snoc C far (done.map (·.1)) a.1 best)
         have hmap : (done ++ [a]).map (·.1) = done.map (·.1) ++ [a.1] := by simp
         have HMAP := hid hmap
         have HRUN := hid hrun
         have HENT := hid hent
         have HRG2 := hid hrg2
         have hb5 : Below V.heap.size V w5 := hbq.out.grown hgb hbq.out.size (fun k e => by cases e; omega)
         have HMN5 := hid (hmn.out.same (hgb.block rn hmn.out.lt (fun e => by cases e; omega)))
         have HBQ5 := hid hb5
         have HLAV := hid ((HLA.out.below HBV.out).below hb5)
         have hlu := HLAV.out.store.user.lookR a.1
         obtain ⟨⟨u, Pu, cu⟩, hu⟩ : ∃ y, entOr (userE C a.1) = y := ⟨_, rfl⟩
         have hid2 : uidF C a.1 = u.id := by unfold uidF; rw [hu]
         rw [hu] at hlu
         rw [hid2] at HNX
         have hfi := field_idR u Pu cu w5
         obtain ⟨s0, s1, s2, s3⟩ := HLAV.out.store.cell
         have hb0 := HLAV.out.cells.1
         rw [hp] at hlu HNX HMAP hgd
         have HAP := hid hp
         clear hgb hrun hent hrg2 hrg hmn hmap hu hid2 hb5 hap hpm hsz s0 s1 s3 hbq
         go_upto_region 33 with (first | refine next_op rfl _ rfl rfl rfl HRUN.out ?_)
         go_upto_region 34 with (first | refine entry_op rfl _ rfl rfl HENT.out ?_)
         try rw [HAP.out]
         by_cases hub : u.id = best
         rotate_left
         ·have dub : (u.id != best) = true := bne_iff_ne.2 hub
          have HN8 : Hid (nextF C far ((done ++ [a]).map (·.1)) best = nextF C far (done.map (·.1)) best) := hid (by rw [HMAP.out, HNX.out, if_neg hub, List.append_nil])
          clear hub
          go_wp2_with fail
          go_roundg (L1 ++ L2).length
          case measure => (simp at hgL ⊢ <;> omega)
          case rel => exact ⟨done ++ [a], L1 ++ L2, rfl, HPERM, HRG2, hid (by rw [HN8.out]; exact HMN5.out), HBQ5⟩
         have dub : (u.id != best) = false := by simp [hub]
         have HN8 : Hid (nextF C far ((done ++ [a]).map (·.1)) best = nextF C far (done.map (·.1)) best ++ onNext C far p) := hid (by rw [HMAP.out, HNX.out, if_pos hub])
         have HON := hid (on_any HLAV.out.beach HSO.out p)
         have hon : onNext C far p = (onL C p).filter (fun q => decide (far q = some (mAt far p - 1))) := rfl
         have hol8 := on_len HSO.out p
         obtain ⟨ol8, ho8⟩ : ∃ l, onL C p = l := ⟨_, rfl⟩
         rw [ho8] at HON hon hol8
         rw [hon] at HN8
         have HN9 := hid HN8.out
         clear hub ho8 hon HN8 HNX
         obtain ⟨NL, hNL⟩ : ∃ l, nextF C far (done.map (·.1)) best = l := ⟨_, rfl⟩
         rw [hNL] at HMN5 HN9
         obtain ⟨dp, hdp⟩ : ∃ d, mAt far p = d := ⟨_, rfl⟩
         rw [hdp] at hgd HN9
         obtain ⟨_, hd1, hd2⟩ := hgd
         have HDP := hid hdp
         clear hNL hdp
         go_upto_region 35 with fail
         clear hlu hfi s2 hb0
         go_wp2_with fail
         refine HON.out.mono ?_
         rintro e w8 ⟨hb8, A8, k8, rfl, hI8⟩
         have HI8 := hid hI8
         have HB8 := hid (HBQ5.out.trans (hb8.mono HBQ5.out.size))
         have HRG8 := hid (HRG2.out.below hb8)
         have HMN8 := hid (HMN5.out.below hb8)
         have i8 : (ol8.length : Int) ≤ 1000 := by omega
         clear hb8 hI8 HON HRG2 HMN5
         go_upto_region 36 with (fail)
         go_loopg [146] (ol8.length) (fun g iv wx => ∃ k : Nat, k ≤ ol8.length ∧ g = ol8.length - k ∧ iv = .int .i64 k ∧ Hid (MapOf wx rn Value.bool (memF (NL ++ ((ol8.take k).filter (fun q => decide (far q = some (dp - 1))))))) ∧ Hid (Ranging wx rh qi Value.bool (L1 ++ L2)) ∧ Hid (IntsAt wx A8 ol8) ∧ Hid (Below V.heap.size V wx))
         case atStart => exact ⟨0, by omega, by omega, rfl, hid (by simpa using HMN8.out), HRG8, HI8, HB8⟩
         case round =>
          obtain ⟨k, hk, hgk, rfl, HMX, HRX, HIX, HBX⟩ := hrel
          by_cases hkl : k < ol8.length
          ·obtain ⟨b9, off9, hA9, hc9⟩ := HIX.out (by omega)
           subst hA9
           have hck := hc9 k hkl
           have hfs : (ol8.take (k + 1)).filter (fun q => decide (far q = some (dp - 1))) = (ol8.take k).filter (fun q => decide (far q = some (dp - 1))) ++ if far ol8[k] = some (dp - 1) then [ol8[k]] else [] := by
            rw [List.take_succ_eq_append_getElem hkl, List.filter_append]
            congr 1
            by_cases h : far ol8[k] = some (dp - 1) <;> simp [h]
           obtain ⟨q, hq⟩ : ∃ q, ol8[k] = q := ⟨_, rfl⟩
           rw [hq] at hck hfs
           have HFS := hid hfs
           have j0 : (0 : Int) ≤ k := by omega
           have j1 : (k : Int) < ol8.length := by omega
           have hmf := HMF2.out.below HBX.out
           have hlq := hmf.look2I q
           have hlp := hmf.lookI p
           rw [HDP.out] at hlp
           have hval : ∀ d, far q = some d → mAt far q = d := fun d h => by unfold mAt; rw [h]; rfl
           clear hc9 hq hfs hmf
           rcases hfq : far q with _ | d
           ·rw [hfq] at hlq HFS
            have HFS2 : Hid ((ol8.take (k + 1)).filter (fun q => decide (far q = some (dp - 1))) = (ol8.take k).filter (fun q => decide (far q = some (dp - 1)))) := hid (by rw [HFS.out, if_neg (by simp), List.append_nil])
            have hmz : mAt far q = 0 := by unfold mAt; rw [hfq]; rfl
            rw [hmz] at hlq
            dsimp only [Option.isSome] at hlq
            clear hfq hval hmz HFS
            go_wp2_with fail
            go_roundg (ol8.length - (k + 1))
            case measure => omega
            case rel => exact ⟨k + 1, by omega, rfl, by go_num, hid (by rw [HFS2.out]; exact HMX.out), HRX, HIX, HBX⟩
           ·rw [hval d hfq] at hlq
            rw [hfq] at hlq HFS
            dsimp only [Option.isSome] at hlq
            clear hval hfq
            by_cases hde : d = dp - 1
            ·have dde : (d == dp - 1) = true := beq_iff_eq.2 hde
             have HFS2 : Hid ((ol8.take (k + 1)).filter (fun q => decide (far q = some (dp - 1))) = (ol8.take k).filter (fun q => decide (far q = some (dp - 1))) ++ [q]) := hid (by rw [HFS.out, if_pos (by rw [hde])])
             obtain ⟨w9, hup, hm9, hg9⟩ := HMX.out.put mapB_u q true
             rw [memF_put] at hm9
             have HM9 := hid hm9
             have HI9 := hid (HIX.out.grown HMX.out hg9)
             have hrx := HRX.out.lt
             have HR9 := hid (HRX.out.same (hg9.block rh hrx.1 (fun e => by cases e; omega)) (hg9.block qi hrx.2 (fun e => by cases e; omega)))
             have HB9 := hid (HBX.out.grown hg9 HBX.out.size (fun k e => by cases e; omega))
             clear hde hm9 hg9 HFS hrx
             go_upto_region 40 with fail
             clear hlq hlp
             go_wp2_with fail
             go_roundg (ol8.length - (k + 1))
             case measure => omega
             case rel => exact ⟨k + 1, by omega, rfl, by go_num, hid (by rw [HFS2.out, ← List.append_assoc]; exact HM9.out), HR9, HI9, HB9⟩
            ·have dde : (d == dp - 1) = false := beq_eq_false_iff_ne.2 hde
             have HFS2 : Hid ((ol8.take (k + 1)).filter (fun q => decide (far q = some (dp - 1))) = (ol8.take k).filter (fun q => decide (far q = some (dp - 1)))) := hid (by rw [HFS.out, if_neg (by simpa using hde), List.append_nil])
             clear hde HFS
             go_wp2_with fail
             go_roundg (ol8.length - (k + 1))
             case measure => omega
             case rel => exact ⟨k + 1, by omega, rfl, by go_num, hid (by rw [HFS2.out]; exact HMX.out), HRX, HIX, HBX⟩
          ·obtain rfl : k = ol8.length := by omega
           have HM0 := hid HMX.out
           rw [List.take_length] at HM0
           go_wp2_with fail
           go_roundg (L1 ++ L2).length
           case measure => (simp at hgL ⊢ <;> omega)
           case rel => exact ⟨done ++ [a], L1 ++ L2, rfl, HPERM, HRX, hid (by rw [HN9.out]; exact HM0.out), HBX⟩
      ·have hap : a.1 ∈ hl := (HMEM.out a.1).1 (List.mem_map_of_mem (f := Prod.fst) (hpm.out.subset (by simp)))
       obtain ⟨p, hp⟩ : ∃ p, a.1 = p := ⟨_, rfl⟩
       have HPERM : Hid (((done ++ [a]) ++ (L1 ++ L2)).Perm m) := hid (by
        refine List.Perm.trans ?_ hpm.out
        rw [List.append_assoc]
        exact List.Perm.append_left done (by simpa using (List.perm_middle (l₁ := L1) (l₂ := L2) (a := a)).symm))
       have hmap : (done ++ [a]).map (·.1) = done.map (·.1) ++ [a.1] := by simp
       have hbs := best_snoc C (done.map (·.1)) a.1
       have HRUN := hid hrun
       have HENT := hid hent
       have HRG2 := hid hrg2
       have hb5 : Below V.heap.size V w5 := hbq.out.grown hgb hbq.out.size (fun k e => by cases e; omega)
       have HBQ5 := hid hb5
       have hlf := (HMF2.out.below hb5).lookI a.1
       have HAP := hid hap
       rw [hp] at hlf hmap hbs HAP
       have HP := hid hp
       have HMAP := hid hmap
       have HBS := hid hbs
       clear hgb hrun hent hrg2 hrg hmap hbs hpm hap hsz
       obtain ⟨dp, hdp⟩ : ∃ d, mAt far p = d := ⟨_, rfl⟩
       rw [hdp] at hlf
       have HDP := hid hdp
       clear hdp
       go_upto_region 25 with (first | refine next_op rfl _ rfl rfl rfl HRUN.out ?_)
       go_upto_region 26 with (first | refine entry_op rfl _ rfl rfl HENT.out ?_)
       try rw [HP.out]
       by_cases hd0 : dp = 0
       ·have dd0 : (dp == 0) = true := beq_iff_eq.2 hd0
        have HOL : Hid (ol0 = ol) := hid (by
         have hss := HSS.out
         rw [if_pos (List.any_eq_true.2 ⟨p, HAP.out, decide_eq_true (HDP.out.trans hd0)⟩)] at hss
         exact Option.some.inj hss)
        have HOq := hid (own_below HOW.out HBQ5.out)
        have HBE := hid (HBV.out.trans (HBQ5.out.mono hbv))
        clear hd0 hb5
        go_wp2_with fail
        go_ret2
        refine HFI2.out _ _ HBE.out ⟨_, rfl, ?_⟩
        rw [← HOL.out]
        exact HOq.out
       ·have dd0 : (dp == 0) = false := beq_eq_false_iff_ne.2 hd0
        have HNZ : Hid (∀ x ∈ (done ++ [a]).map (·.1), mAt far x ≠ 0) := hid (fun x hx => by
         rw [HMAP.out] at hx
         rcases List.mem_append.1 hx with h | h
         ·exact hnz.out x h
         ·rw [List.mem_singleton] at h
          subst h
          rw [HDP.out]
          exact hd0)
        have HLAV := hid ((HLA.out.below HBV.out).below hb5)
        have hlu := HLAV.out.store.user.lookR p
        obtain ⟨⟨u, Pu, cu⟩, hu⟩ : ∃ y, entOr (userE C p) = y := ⟨_, rfl⟩
        have hid2 : uidF C p = u.id := by unfold uidF; rw [hu]
        have hbst : ∀ b, bestStep C b p = if b = 0 ∨ u.id < b then u.id else b := fun b => by unfold bestStep; rw [hid2]
        rw [hu] at hlu
        have hfi := field_idR u Pu cu w5
        obtain ⟨s0, s1, s2, s3⟩ := HLAV.out.store.cell
        have hb0 := HLAV.out.cells.1
        obtain ⟨bb0, hbb⟩ : ∃ b, bestF C (done.map (·.1)) = b := ⟨_, rfl⟩
        rw [hbb] at HBS ⊢
        rw [hbst] at HBS
        clear hd0 hb5 hu hid2 hbst hbb s0 s1 s3 hnz
        by_cases hbz : bb0 = 0
        ·have HBN2 : Hid (bestF C ((done ++ [a]).map (·.1)) = u.id) := hid (by rw [HMAP.out, HBS.out, if_pos (.inl hbz)])
         subst hbz
         go_wp2_with fail
         go_roundg (L1 ++ L2).length
         case measure => (simp at hgL ⊢ <;> omega)
         case rel => exact ⟨done ++ [a], L1 ++ L2, rfl, by rw [HBN2.out], HPERM, HRG2, HNZ, HBQ5⟩
        ·have dbz : (bb0 == 0) = false := beq_eq_false_iff_ne.2 hbz
         by_cases hlt : u.id < bb0
         ·have dlt : decide (u.id < bb0) = true := decide_eq_true hlt
          have HBN2 : Hid (bestF C ((done ++ [a]).map (·.1)) = u.id) := hid (by rw [HMAP.out, HBS.out, if_pos (.inr hlt)])
          clear hbz hlt
          go_wp2_with fail
          go_roundg (L1 ++ L2).length
          case measure => (simp at hgL ⊢ <;> omega)
          case rel => exact ⟨done ++ [a], L1 ++ L2, rfl, by rw [HBN2.out], HPERM, HRG2, HNZ, HBQ5⟩
         ·have dlt : decide (u.id < bb0) = false := decide_eq_false hlt
          have HBN2 : Hid (bestF C ((done ++ [a]).map (·.1)) = bb0) := hid (by rw [HMAP.out, HBS.out, if_neg (fun h => h.elim hbz hlt)])
          clear hbz hlt
          go_wp2_with fail
          go_roundg (L1 ++ L2).length
          case measure => (simp at hgL ⊢ <;> omega)
          case rel => exact ⟨done ++ [a], L1 ++ L2, rfl, by rw [HBN2.out], HPERM, HRG2, HNZ, HBQ5⟩
  ·rcases n with _ | n
   ·have hh := HRn.out
    unfold bfsF at hh
    cases hh
   have hrn := HRn.out
   unfold bfsF at hrn
   rcases hpf : pushF v (backL C v) rest far with _ | ⟨row1, far1⟩
   ·rw [hpf] at hrn
    cases hrn
   rw [hpf] at hrn
   dsimp only at hrn
   have HRR := hid hrn
   have HPF := hid hpf
   obtain ⟨gq, off, cap, hv, hc0, hcap, hq2⟩ := HQ.out.form
   subst hv
   obtain ⟨qa, hqa⟩ : ∃ qa, (if cap = 0 then some (⟨gq, off, none⟩ : Addr) else some ⟨gq, off + 1, none⟩) = qa := ⟨_, rfl⟩
   rw [hqa] at hq2
   have HQA := hid hqa
   have hqb : ∀ a, qa = some a → a.block = gq := fun a ha => by
    rw [← hqa] at ha
    split at ha <;> (cases ha; rfl)
   have hqs : qa ≠ none := by rw [← hqa]; split <;> simp
   have HQB := hid hqb
   have HQS := hid hqs
   clear hqa hqb hqs
   have HQ2 := hid hq2
   have hgq : gq < wr.heap.size := cell_lt hc0
   have i0 : (0 : Int) < (rest.length : Int) + 1 := by omega
   have hrl2 : rest.length ≤ 1000 := by simp at hrl; omega
   clear hrn HRn hpf HQ hq2 hrl HRF HQ0
   obtain ⟨V, hV⟩ : ∃ V, V = wr := ⟨_, rfl⟩
   subst hV
   have HBK := hid (back_anyN w2.heap.size (HLA.out.below HB.out).beach v (fun a ha h0 => HBN.out v a ha h0))
   have hbl := back_len HSO.out v
   obtain ⟨bl, hble⟩ : ∃ bl, backL C v = bl := ⟨_, rfl⟩
   rw [hble] at HBK HPF hbl
   clear hble
   go_upto_region 9 with (fail)
   rw [HQA.out]
   clear hc0 i0
   go_wp2_with fail
   refine HBK.out.mono ?_
   rintro e w4 ⟨hb4, A7, k7, rfl, hI7, hA7⟩
   have HI7 := hid hI7
   have HB4 := hid (HB.out.trans (hb4.mono HB.out.size))
   have HQ4 := hid (HQ2.out.below hb4)
   have HM4 := hid (HM.out.below hb4)
   have HSEP : Hid (∀ a, A7 = some a → 0 < bl.length → blockOf (.slice qa rest.length cap) ≠ some a.block ∧ a.block < w4.heap.size) := hid (fun a ha h0 => by
    subst ha
    refine ⟨?_, ints_block hI7 h0⟩
    rcases qa with _ | qa
    ·exact absurd rfl HQS.out
    ·have h5 := HQB.out qa rfl
     show some qa.block ≠ some a.block
     rw [h5]
     intro e
     have e2 : gq = a.block := Option.some.inj e
     have hgb : w2.heap.size ≤ gq := by
      obtain ⟨g9, off9, cap9, cur9, e9, h9, _⟩ := HQ2.out
      have e10 : some qa = some (⟨g9, off9, none⟩ : Addr) := (Value.slice.inj e9).1
      have e11 : qa = ⟨g9, off9, none⟩ := Option.some.inj e10
      rw [e11] at h5
      have : g9 = gq := h5
      omega
     rcases hA7 _ rfl h0 with h | h <;> omega)
   have hqaN := HQS.out
   clear hb4 hI7 hA7 HBK HM HQ2 HB HQB HQS HQA
   have i7 : (bl.length : Int) ≤ 1000 := by omega
   go_upto_region 10 with (fail)
   go_loopg [13, 61] (bl.length) (fun g rowv iv wq => ∃ (k : Nat) (row2 : List Int) (far2 : Much), k ≤ bl.length ∧ g = bl.length - k ∧ iv = .int .i64 k ∧ Hid (Queue wq w2.heap.size rowv row2) ∧ Hid (MapOf wq w2.heap.size (Value.int .i64) far2) ∧ Hid (Below w2.heap.size w2 wq) ∧ row2.length ≤ 1001 ∧ Hid (IntsAt wq A7 bl) ∧
    Hid (∀ a, A7 = some a → 0 < bl.length → blockOf rowv ≠ some a.block ∧ a.block < wq.heap.size) ∧ Hid (pushF v (bl.drop k) row2 far2 = some (row1, far1)))
   case atStart => exact ⟨0, rest, far, by omega, by omega, rfl, HQ4, HM4, HB4, by omega, HI7, HSEP, HPF⟩
   case round =>
    obtain ⟨k, row2, far2, hk, hgk, rfl, HQ5, HM5, HB5, hrl5, HI5, HS5, HP5⟩ := hrel
    by_cases hkl : k < bl.length
    ·obtain ⟨b7, off7, hA7, hc7⟩ := HI5.out (by omega)
     subst hA7
     have hck := hc7 k hkl
     have hpk := HP5.out
     rw [← List.getElem_cons_drop hkl] at hpk
     obtain ⟨q, hq⟩ : ∃ q, bl[k] = q := ⟨_, rfl⟩
     rw [hq] at hck hpk
     unfold pushF at hpk
     have j0 : (0 : Int) ≤ k := by omega
     have j1 : (k : Int) < bl.length := by omega
     have hlq := HM5.out.look2I q
     clear hc7 hq HP5
     rcases hfq : (far2 q).isSome with _ | _
     ·rw [hfq] at hpk hlq
      rw [if_neg (by simp)] at hpk
      by_cases hcond : row2.length ≤ 1000 ∧ 0 ≤ mAt far2 v ∧ mAt far2 v ≤ 1000000
      rotate_left
      ·rw [if_neg hcond] at hpk
       cases hpk
      rw [if_pos hcond] at hpk
      have HPK := hid hpk
      obtain ⟨hr5, hd0, hd1⟩ := hcond
      have hlv := HM5.out.lookI v
      obtain ⟨dv, hdv⟩ : ∃ d, mAt far2 v = d := ⟨_, rfl⟩
      obtain ⟨dq, hdq⟩ : ∃ d, mAt far2 q = d := ⟨_, rfl⟩
      rw [hdv] at hlv hd0 hd1 HPK
      rw [hdq] at hlq
      obtain ⟨w6, hup, hm6, hg6⟩ := HM5.out.put mapI_u q (dv + 1)
      have HM6 := hid hm6
      have HB6 := hid (HB5.out.trans ((Below.refl _ wr).grown hg6 HB5.out.size (fun k e => by cases e; exact Nat.le_refl _)))
      have HQ6 := hid (HQ5.out.grown hg6 (fun cur => HM5.out.not_cells _ _ _))
      have hI6 := HI5.out.grown HM5.out hg6
      obtain ⟨v7, w7, hr7, hq7, hb7, hko7, hkp7, hbk7⟩ := HQ6.out.push2 q (by omega) HB6.out.size
      have hs6 := hg6.size
      have HR7 := hid hr7
      have HQ7 := hid hq7
      have HM7 := hid (HM6.out.others hko7)
      have HB7 := hid (HB6.out.trans hb7)
      have HI7b : Hid (IntsAt w7 (some ⟨b7, off7, none⟩) bl) := hid (fun h0 => by
       obtain ⟨b8, off8, e8, hc8⟩ := hI6 h0
       cases e8
       refine ⟨b7, off7, rfl, fun j hj => ?_⟩
       have h9 := HS5.out _ rfl h0
       rw [← hc8 j hj]
       exact World.cell?_of_block (hkp7 b7 (Nat.lt_of_lt_of_le h9.2 hs6) h9.1))
      have HS7 : Hid (∀ a, some (⟨b7, off7, none⟩ : Addr) = some a → 0 < bl.length → blockOf v7 ≠ some a.block ∧ a.block < w7.heap.size) := hid (fun a ha h0 => by
       have h9 := HS5.out a ha h0
       have h10 : a.block < w6.heap.size := Nat.lt_of_lt_of_le h9.2 hs6
       refine ⟨?_, Nat.lt_of_lt_of_le h10 hb7.size⟩
       rcases hbk7 with e | ⟨kk, e, hle⟩
       ·rw [e]; exact h9.1
       ·rw [e]
        intro e2
        have := Option.some.inj e2
        omega)
      clear hr7 hq7 hb7 hko7 hkp7 hbk7 hm6 hg6 hI6 hfq hdv hdq
      go_upto_region 14 with (fail)
      clear hlq
      go_upto_region 15 with (fail)
      clear hlv hup hck
      go_wp2_with (first | (at_builtin; refine wpList_app rfl rfl rfl rfl rfl HR7.out ?_))
      go_roundg (bl.length - (k + 1))
      case measure => omega
      case rel => exact ⟨k + 1, row2 ++ [q], setAt far2 q (dv + 1), by omega, rfl, by go_num, HQ7, HM7, HB7, by simp; omega, HI7b, HS7, HPK⟩
     ·rw [hfq] at hpk hlq
      rw [if_pos rfl] at hpk
      have HPK := hid hpk
      clear hfq hpk
      go_wp2_with fail
      go_roundg (bl.length - (k + 1))
      case measure => omega
      case rel => exact ⟨k + 1, row2, far2, by omega, rfl, by go_num, HQ5, HM5, HB5, hrl5, HI5, HS5, HPK⟩
    ·obtain rfl : k = bl.length := by omega
     have hpk := HP5.out
     rw [List.drop_length] at hpk
     unfold pushF at hpk
     have hpe := Option.some.inj hpk
     have hp1 : row2 = row1 := congrArg Prod.fst hpe
     have hp2 : far2 = far1 := congrArg Prod.snd hpe
     subst hp1 hp2
     clear hpk hpe HP5
     go_wp2_with fail
     go_roundg (n)
     case measure => omega
     case rel => exact ⟨row2, far2, n, rfl, HQ5, HM5, HB5, hrl5, HRR⟩
section
open Go.RowKit
section
variable {A B : Option Addr} {c k : Nat} {w : World}
theorem beach_len : (beachE A c).length = 6 := rfl
theorem bids {K : Int} (h : K = 20 ∨ K = 14) {ids : List Int} (hi : IdsOf (countE (beachE A c) K) ids) : ids = ids5 := by
 rcases h with rfl | rfl
 ·rw [count20] at hi; exact beach_ids hi
 ·rw [count14] at hi; exact beach_ids hi
theorem bids13 {ids : List Int} (hi : IdsOf (countE (beachE A c) 13) ids) : ids = ids5 := by
 have e : countE (beachE A c) 13 = beach5 A c := count13 A c
 rw [e] at hi
 exact beach5_ids hi
theorem nofail {K : Int} {ps : List Int} {en : Int} (hK : ∀ ids, IdsOf (countE (beachE A c) K) ids → ids = ids5) (hp : ∀ p ∈ ps, p ∈ ids5) : ¬ FailsBy (beachE A c) K ps en :=
 beach_fails beach_valid (fun ids h p hp2 => by rw [hK ids h]; exact hp p hp2)
theorem s_parcel (hE : EntsAt w B (beachE A c)) (hk : (beachE A c).length ≤ k) :
  Calls Tryz.prog 20 #[.slice B (beachE A c).length k, .int .i64 20, .int .i64 40] w fun e w' => Below w.heap.size w w' ∧ ∃ q : Pcl, e = .returned (.tuple #[q.val, .int .i64 0]) ∧ q.from_ = 4 ∧ q.goods = oil ∧ q.mark = .empty ∧ q.lo = 35 ∧ q.hi = 45 := by
 refine (parcelOf_any B k (beachE A c) 20 40 w hE (by rw [beach_len]; decide) hk).mono ?_
 rintro e w' ⟨hb, ⟨en, hf, _⟩ | ⟨_, ids, hi, hin, rfl⟩⟩
 ·exact absurd hf (nofail (fun ids h => bids (.inl rfl) h) (by decide))
 ·rw [count20]
  obtain ⟨h1, h2, h3, h4, h5⟩ := parcel40 A c
  exact ⟨hb, _, rfl, h1, h2, h3, h4, h5⟩
theorem s_origins (hE : EntsAt w B (beachE A c)) (hk : (beachE A c).length ≤ k) :
  Calls Tryz.prog 11 #[.slice B (beachE A c).length k, .int .i64 20, .int .i64 40] w fun e w' => Below w.heap.size w w' ∧ ∃ v, e = .returned (.tuple #[v, .int .i64 0]) ∧ w'.ownsRow w.heap.size 3 1 v 2 (ints [10, 20]) := by
 refine (origins_any B k (beachE A c) 20 40 w hE (by rw [beach_len]; decide) hk).mono ?_
 rintro e w' ⟨hb, ⟨en, hf, _⟩ | ⟨_, ids, hi, hin, ys, v, rfl, ho, hs, hm⟩⟩
 ·exact absurd hf (nofail (fun ids h => bids (.inl rfl) h) (by decide))
 ·have e1 := bids (.inl rfl) hi
  subst e1
  rw [count20] at hm
  have e2 := origins40 hs hm
  subst e2
  exact ⟨hb, v, rfl, ho⟩
theorem s_remains (hE : EntsAt w B (beachE A c)) (hk : (beachE A c).length ≤ k) :
  Calls Tryz.prog 13 #[.slice B (beachE A c).length k, .int .i64 20, .int .i64 10] w fun e w' => Below w.heap.size w w' ∧ ∃ v, e = .returned (.tuple #[v, .int .i64 0]) ∧ w'.ownsRow w.heap.size 3 1 v 2 (ints [30, 40]) := by
 refine (remains_any B k (beachE A c) 20 10 w hE (by rw [beach_len]; decide) hk).mono ?_
 rintro e w' ⟨hb, ⟨en, hf, _⟩ | ⟨_, ids, hi, hin, ys, v, rfl, ho, hs, hm⟩⟩
 ·exact absurd hf (nofail (fun ids h => bids (.inl rfl) h) (by decide))
 ·have e1 := bids (.inl rfl) hi
  subst e1
  rw [count20] at hm
  have e2 := remains10 hs hm
  subst e2
  exact ⟨hb, v, rfl, ho⟩
theorem s_chain (hE : EntsAt w B (beachE A c)) (hk : (beachE A c).length ≤ k) :
  Calls Tryz.prog 16 #[.slice B (beachE A c).length k, .int .i64 20, .int .i64 10, .int .i64 40] w fun e w' => Below w.heap.size w w' ∧ ∃ v, e = .returned (.tuple #[v, .int .i64 0]) ∧ w'.ownsRow w.heap.size 3 1 v 2 (ints [3, 4]) := by
 refine (chain_any B k (beachE A c) 20 10 40 w hE (by rw [beach_len]; decide) hk (R := some [3, 4]) (fun _ _ => by rw [count20]; exact chain1040 A c)).mono ?_
 rintro e w' ⟨hb, ⟨en, hf, _⟩ | ⟨_, ids, hi, _, _, v, rfl, ho⟩⟩
 ·exact absurd hf (nofail (fun ids h => bids (.inl rfl) h) (by decide))
 ·exact ⟨hb, v, rfl, ho⟩
theorem s_weight13 (hE : EntsAt w B (beachE A c)) (hk : (beachE A c).length ≤ k) :
  Calls Tryz.prog 24 #[.slice B (beachE A c).length k, .int .i64 13, .int .i64 31] w fun e w' => Below w.heap.size w w' ∧ e = .returned (.tuple #[.int .i64 15, .int .i64 35, .int .i64 0]) := by
 refine (weight_any B k (beachE A c) 13 31 w hE (by rw [beach_len]; decide) hk (lo := 15) (hi := 35) (en := 0) (fun ids hi _ => by
  rw [bids13 hi]
  have e : countE (beachE A c) 13 = beach5 A c := count13 A c
  rw [e]
  exact weight13 A c)).mono ?_
 rintro e w' ⟨hb, ⟨en, hf, _⟩ | ⟨_, ids, hi, _, rfl⟩⟩
 ·exact absurd hf (nofail (fun ids h => bids13 h) (by decide))
 ·exact ⟨hb, rfl⟩
theorem s_weight14 (hE : EntsAt w B (beachE A c)) (hk : (beachE A c).length ≤ k) :
  Calls Tryz.prog 24 #[.slice B (beachE A c).length k, .int .i64 14, .int .i64 31] w fun e w' => Below w.heap.size w w' ∧ e = .returned (.tuple #[.int .i64 15, .int .i64 30, .int .i64 0]) := by
 refine (weight_any B k (beachE A c) 14 31 w hE (by rw [beach_len]; decide) hk (lo := 15) (hi := 30) (en := 0) (fun ids hi _ => by
  rw [bids (.inr rfl) hi, count14]
  exact weight14 A c)).mono ?_
 rintro e w' ⟨hb, ⟨en, hf, _⟩ | ⟨_, ids, hi, _, rfl⟩⟩
 ·exact absurd hf (nofail (fun ids h => bids (.inr rfl) h) (by decide))
 ·exact ⟨hb, rfl⟩
theorem s_side {S : Option Addr} {sc : Nat} (hE : EntsAt w B (beachE A c)) (hk : (beachE A c).length ≤ k) (hS : IntsAt w S [3]) :
  Calls Tryz.prog 30 #[.slice B (beachE A c).length k, .int .i64 14, .int .i64 31, .bool true, .int .i64 30, .slice S 1 sc] w fun e w' => Below w.heap.size w w' ∧ e = .returned (.tuple #[.bool true, .int .i64 0]) := by
 refine (checkSide_any B k (beachE A c) 14 31 true 30 (side := [3]) (S := S) (sc := sc) w hE (by rw [beach_len]; decide) hk hS (by decide)).mono ?_
 rintro e w' ⟨hb, ⟨en, hf, _⟩ | ⟨_, ids, hi, _, t, rfl, ht⟩⟩
 ·exact absurd hf (nofail (fun ids h => bids (.inr rfl) h) (by decide))
 ·rw [bids (.inr rfl) hi, count14] at ht
  have h := ht.2 ⟨side3, shows14 A c⟩
  subst h
  exact ⟨hb, rfl⟩
theorem s_rests {S : Option Addr} {sc : Nat} (hE : EntsAt w B (beachE A c)) (hk : (beachE A c).length ≤ k) (hS : IntsAt w S [4]) :
  Calls Tryz.prog 34 #[.slice B (beachE A c).length k, .int .i64 14, .int .i64 31, .bool true, .slice S 1 sc] w fun e w' => Below w.heap.size w w' ∧ ∃ v, e = .returned (.tuple #[v, .int .i64 0]) ∧ w'.ownsRow w.heap.size 3 1 v 2 (ints [2, 5]) := by
 refine (rests_any B k (beachE A c) 14 31 true (side := [4]) (S := S) (sc := sc) w hE (by rw [beach_len]; decide) hk hS (by decide)).mono ?_
 rintro e w' ⟨hb, ⟨en, hf, _⟩ | ⟨_, ids, hi, _, ⟨hn, _⟩ | ⟨_, l, hl, ys, v, rfl, ho, hs, hm⟩⟩⟩
 ·exact absurd hf (nofail (fun ids h => bids (.inr rfl) h) (by decide))
 ·rw [bids (.inr rfl) hi, count14] at hn
  exact absurd ⟨side4, terms_some⟩ hn
 ·rw [bids (.inr rfl) hi, count14] at hl
  rw [count14] at hm
  have e2 := rests14 hl hs hm
  subst e2
  exact ⟨hb, v, rfl, ho⟩
theorem s_changed (hE : EntsAt w B (beachE A c)) (hk : (beachE A c).length ≤ k) :
  Calls Tryz.prog 45 #[.slice B (beachE A c).length k, .int .i64 13, .int .i64 14] w fun e w' => Below w.heap.size w w' ∧ ∃ v, e = .returned (.tuple #[v, .int .i64 0]) ∧ w'.ownsRow w.heap.size 3 1 v 3 (ints [10, 30, 31]) := by
 refine (changed_any B k (beachE A c) 13 14 w hE (by rw [beach_len]; decide) hk (R := some [10, 30, 31]) (fun ids1 ids2 h1 h2 => by
  rw [bids13 h1, bids (.inr rfl) h2, count14]
  have e : countE (beachE A c) 13 = beach5 A c := count13 A c
  rw [e]
  exact changed1314 A c)).mono ?_
 rintro e w' ⟨hb, ⟨K, en, hf, _⟩ | ⟨_, v, rfl, ho⟩⟩
 ·exact absurd hf (beach_fails beach_valid (fun ids h p hp => by simp at hp))
 ·exact ⟨hb, v, rfl, ho⟩
end
end
theorem two_same {w : World} {base : Nat} {v : Value} {xs : List Int} (h : w.ownsRow base 3 1 v xs.length (ints xs)) : ∃ A k, v = .slice A xs.length k ∧ IntsAt w A xs := by
 obtain ⟨A, k, rfl, hx⟩ := ownsRow.form h
 exact ⟨A, k, rfl, ownsRow_ints h⟩
theorem ints_three (w : World) (p q r : Int) : IntsAt (w.alloc (.cells #[.int .i64 p, .int .i64 q, .int .i64 r] 3)) (some ⟨w.heap.size, 0, none⟩) [p, q, r] := fun _ => ⟨w.heap.size, 0, rfl, fun j hj => by
 have h : j = 0 ∨ j = 1 ∨ j = 2 := by simp at hj; omega
 rcases h with rfl | rfl | rfl <;> simp⟩
theorem same_lit {A : Option Addr} {k : Nat} {xs : List Int} {B : Option Addr} {cb : Nat} {w : World} (hm : xs.length ≤ 1000000) (hA : IntsAt w A xs) (hB : IntsAt w B xs) :
  Calls Tryz.prog 15 #[.slice A xs.length k, .slice B xs.length cb] w fun e w' => e = .returned (.bool true) ∧ Below w.heap.size w w' := by
 have h := sameInts_any A k xs B cb xs w hm hm hA hB
 rwa [decide_eq_true rfl] at h
set_option maxHeartbeats 16000000 in
theorem sane_any (w : World) : Calls Tryz.prog 10 #[] w fun e w' => e = .returned (.bool true) ∧ Below w.heap.size w w' := by
 go_enter Tryz.func10, Tryz.ntmps10
 go_wp2_with fail
 refine (beach_any w).mono ?_
 rintro e w1 ⟨A, c, B, k, rfl, hk, hE, hb1⟩
 have HE1 := hid hE
 have HB1 := hid hb1
 have HL : Hid ((beachE A c).length = 6) := hid rfl
 obtain ⟨n, hn⟩ : ∃ n, (beachE A c).length = n := ⟨_, rfl⟩
 have HC1 := hid (s_parcel (k := k) hE hk)
 rw [hn] at HC1 ⊢
 clear hE hb1
 go_wp2_with fail
 refine HC1.out.mono ?_
 rintro e w2 ⟨hb2, q, rfl, q1, q2, q3, q4, q5⟩
 have HQ := hid (And.intro q1 (And.intro q2 (And.intro q3 (And.intro q4 q5))))
 have HB2 := hid (HB1.out.trans (hb2.mono HB1.out.size))
 have HE2 := hid (HE1.out.below hb2)
 clear hb2 q1 q2 q3 q4 q5 HC1
 go_upto_region 3 with (refine store_pcl_new rfl _ _ rfl rfl rfl (q := q) rfl rfl ?_; intro W2 hbx2 hb3 hlt3; have HX := hid hbx2; have HB3 := hid (HB2.out.trans (hb3.mono HB2.out.size)); have HE3 := hid (HE2.out.below hb3); clear hbx2 hb3)
 have HC2 := hid (s_origins (k := k) HE3.out hk)
 rw [hn] at HC2
 go_wp2_with fail
 refine HC2.out.mono ?_
 rintro e w4 ⟨hb4, v4, rfl, ho4⟩
 obtain ⟨A4, k4, rfl, hI4⟩ := two_same (xs := [10, 20]) ho4
 have HI4 := hid hI4
 have HB4 := hid (HB3.out.trans (hb4.mono HB3.out.size))
 have HE4 := hid (HE3.out.below hb4)
 have HX4 := hid (HX.out.below hb4)
 have HC3 := hid (s_remains (k := k) HE4.out hk)
 rw [hn] at HC3
 clear hb4 ho4 hI4 HC2
 go_wp2_with fail
 refine HC3.out.mono ?_
 rintro e w5 ⟨hb5, v5, rfl, ho5⟩
 obtain ⟨A5, k5, rfl, hI5⟩ := two_same (xs := [30, 40]) ho5
 have HI5 := hid hI5
 have HI45 := hid (HI4.out.kept (Kept.of_below hb5))
 have HB5 := hid (HB4.out.trans (hb5.mono HB4.out.size))
 have HE5 := hid (HE4.out.below hb5)
 have HX5 := hid (HX4.out.below hb5)
 have HC4 := hid (s_chain (k := k) HE5.out hk)
 rw [hn] at HC4
 clear hb5 ho5 hI5 HC3
 go_wp2_with fail
 refine HC4.out.mono ?_
 rintro e w6 ⟨hb6, v6, rfl, ho6⟩
 obtain ⟨A6, k6, rfl, hI6⟩ := two_same (xs := [3, 4]) ho6
 have HI6 := hid hI6
 have HI46 := hid (HI45.out.kept (Kept.of_below hb6))
 have HI56 := hid (HI5.out.kept (Kept.of_below hb6))
 have HB6 := hid (HB5.out.trans (hb6.mono HB5.out.size))
 have HE6 := hid (HE5.out.below hb6)
 have HX6 := hid (HX5.out.below hb6)
 have HC5 := hid (s_weight13 (k := k) HE6.out hk)
 rw [hn] at HC5
 clear hb6 ho6 hI6 HC4
 go_wp2_with fail
 refine HC5.out.mono ?_
 rintro e w7 ⟨hb7, rfl⟩
 have HE7 := hid (HE6.out.below hb7)
 have HC6 := hid (s_weight14 (k := k) HE7.out hk)
 rw [hn] at HC6
 have HB67 := hid hb7
 clear hb7 HC5
 go_wp2_with fail
 refine HC6.out.mono ?_
 rintro e w8 ⟨hb8, rfl⟩
 have HB68 := hid (HB67.out.trans (hb8.mono HB67.out.size))
 have hbs : Below w8.heap.size w8 (w8.alloc (.cells #[.int .i64 3] 3)) := (Below.refl _ _).alloc (Nat.le_refl _) _
 have HB69 := hid (HB68.out.trans (hbs.mono HB68.out.size))
 have HE8 := hid (HE6.out.below HB69.out)
 have HC7 := hid (s_side (k := k) (sc := 1) HE8.out hk (one_int w8 3 rfl))
 rw [hn] at HC7
 clear hb8 hbs HC6
 go_wp2_with fail
 refine HC7.out.mono ?_
 rintro e w9 ⟨hb9, rfl⟩
 have HB6a := hid (HB69.out.trans (hb9.mono HB69.out.size))
 have hbs : Below w9.heap.size w9 (w9.alloc (.cells #[.int .i64 4] 3)) := (Below.refl _ _).alloc (Nat.le_refl _) _
 have HB6b := hid (HB6a.out.trans (hbs.mono HB6a.out.size))
 have HE9 := hid (HE6.out.below HB6b.out)
 have HC8 := hid (s_rests (k := k) (sc := 1) HE9.out hk (one_int w9 4 rfl))
 rw [hn] at HC8
 clear hb9 hbs HC7
 go_wp2_with fail
 refine HC8.out.mono ?_
 rintro e wa ⟨hba, va, rfl, hoa⟩
 obtain ⟨Aa, ka, rfl, hIa⟩ := two_same (xs := [2, 5]) hoa
 have HIa := hid hIa
 have HB6c := hid (HB6b.out.trans (hba.mono HB6b.out.size))
 have HEa := hid (HE6.out.below HB6c.out)
 have HC9 := hid (s_changed (k := k) HEa.out hk)
 rw [hn] at HC9
 clear hba hoa hIa HC8
 go_wp2_with fail
 refine HC9.out.mono ?_
 rintro e wb ⟨hbb, vb, rfl, hob⟩
 obtain ⟨Ab, kb, rfl, hIb⟩ := two_same (xs := [10, 30, 31]) hob
 have HIb := hid hIb
 have HIab := hid (HIa.out.kept (Kept.of_below hbb))
 have HB6d := hid (HB6c.out.trans (hbb.mono HB6c.out.size))
 have HXb := hid (HX6.out.below HB6d.out)
 have HI4b := hid (HI46.out.kept (Kept.of_below HB6d.out))
 have HI5b := hid (HI56.out.kept (Kept.of_below HB6d.out))
 have HI6b := hid (HI6.out.kept (Kept.of_below HB6d.out))
 have HBb := hid (HB6.out.trans (HB6d.out.mono HB6.out.size))
 clear hbb hob hIb HC9 HE1 HE2 HE3 HE4 HE5 HE6 HE7 HE8 HE9 HEa
 go_upto_region 13 with fail
 have HBw := hid HBb.out
 have HXw := hid HXb.out
 have hal : Below wb.heap.size wb (wb.alloc (.cells #[.int .i64 10, .int .i64 20] 3)) := (Below.refl _ _).alloc (Nat.le_refl _) _
 have HS0 := hid (same_lit (k := k4) (cb := 2) (xs := [10, 20]) (by decide) (HI4b.out.kept (Kept.of_below hal)) (ints_lit wb 10 20))
 have HAL := hid hal
 clear hal
 go_wp2_with fail
 refine HS0.out.mono ?_
 rintro e y0 ⟨rfl, hby⟩
 have hbz := HAL.out.trans (hby.mono HAL.out.size)
 have HI5b := hid (HI5b.out.kept (Kept.of_below hbz))
 have HI6b := hid (HI6b.out.kept (Kept.of_below hbz))
 have HIab := hid (HIab.out.kept (Kept.of_below hbz))
 have HIb := hid (HIb.out.kept (Kept.of_below hbz))
 have HBw := hid (HBw.out.trans (hbz.mono HBw.out.size))
 have HXw := hid (HXw.out.below hbz)
 clear hby hbz HS0 HAL
 have hal : Below y0.heap.size y0 (y0.alloc (.cells #[.int .i64 30, .int .i64 40] 3)) := (Below.refl _ _).alloc (Nat.le_refl _) _
 have HS1 := hid (same_lit (k := k5) (cb := 2) (xs := [30, 40]) (by decide) (HI5b.out.kept (Kept.of_below hal)) (ints_lit y0 30 40))
 have HAL := hid hal
 clear hal
 go_wp2_with fail
 refine HS1.out.mono ?_
 rintro e y1 ⟨rfl, hby⟩
 have hbz := HAL.out.trans (hby.mono HAL.out.size)
 have HI6b := hid (HI6b.out.kept (Kept.of_below hbz))
 have HIab := hid (HIab.out.kept (Kept.of_below hbz))
 have HIb := hid (HIb.out.kept (Kept.of_below hbz))
 have HBw := hid (HBw.out.trans (hbz.mono HBw.out.size))
 have HXw := hid (HXw.out.below hbz)
 clear hby hbz HS1 HAL
 have hal : Below y1.heap.size y1 (y1.alloc (.cells #[.int .i64 3, .int .i64 4] 3)) := (Below.refl _ _).alloc (Nat.le_refl _) _
 have HS2 := hid (same_lit (k := k6) (cb := 2) (xs := [3, 4]) (by decide) (HI6b.out.kept (Kept.of_below hal)) (ints_lit y1 3 4))
 have HAL := hid hal
 clear hal
 go_wp2_with fail
 refine HS2.out.mono ?_
 rintro e y2 ⟨rfl, hby⟩
 have hbz := HAL.out.trans (hby.mono HAL.out.size)
 have HIab := hid (HIab.out.kept (Kept.of_below hbz))
 have HIb := hid (HIb.out.kept (Kept.of_below hbz))
 have HBw := hid (HBw.out.trans (hbz.mono HBw.out.size))
 have HXw := hid (HXw.out.below hbz)
 clear hby hbz HS2 HAL
 have hal : Below y2.heap.size y2 (y2.alloc (.cells #[.int .i64 2, .int .i64 5] 3)) := (Below.refl _ _).alloc (Nat.le_refl _) _
 have HS3 := hid (same_lit (k := ka) (cb := 2) (xs := [2, 5]) (by decide) (HIab.out.kept (Kept.of_below hal)) (ints_lit y2 2 5))
 have HAL := hid hal
 clear hal
 go_wp2_with fail
 refine HS3.out.mono ?_
 rintro e y3 ⟨rfl, hby⟩
 have hbz := HAL.out.trans (hby.mono HAL.out.size)
 have HIb := hid (HIb.out.kept (Kept.of_below hbz))
 have HBw := hid (HBw.out.trans (hbz.mono HBw.out.size))
 have HXw := hid (HXw.out.below hbz)
 clear hby hbz HS3 HAL
 have hal : Below y3.heap.size y3 (y3.alloc (.cells #[.int .i64 10, .int .i64 30, .int .i64 31] 3)) := (Below.refl _ _).alloc (Nat.le_refl _) _
 have HS4 := hid (same_lit (k := kb) (cb := 3) (xs := [10, 30, 31]) (by decide) (HIb.out.kept (Kept.of_below hal)) (ints_three y3 10 30 31))
 have HAL := hid hal
 clear hal
 go_wp2_with fail
 refine HS4.out.mono ?_
 rintro e y4 ⟨rfl, hby⟩
 have hbz := HAL.out.trans (hby.mono HAL.out.size)
 have HBw := hid (HBw.out.trans (hbz.mono HBw.out.size))
 have HXw := hid (HXw.out.below hbz)
 clear hby hbz HS4 HAL
 obtain ⟨_, x1, _, x3, x4, x5, x6, _⟩ := HXw.out.at_
 rw [HQ.out.1] at x1
 rw [HQ.out.2.1] at x4
 rw [HQ.out.2.2.1] at x3
 rw [HQ.out.2.2.2.1] at x5
 rw [HQ.out.2.2.2.2] at x6
 go_wp2_with fail
 go_ret
 exact ⟨rfl, HBw.out⟩
end Go.Proofs.YtfaoillnakhejaaGreat
