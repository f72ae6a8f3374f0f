/- Rests; The chapter's example of Rests (plain). -/
import Derived.Test.YtfaoillnakhejaaGreatH26
import Derived.Test.YtfaoillnakhejaaGreatG15
import Derived.Test.YtfaoillnakhejaaGreatH5
import Derived.Test.YtfaoillnakhejaaGreatH24
import Derived.RangeFuncLeaves
import Derived.RangeFuncBox
import Derived.Deep.CutRange
import Derived.Test.YtfaoillnakhejaaGreatH27
namespace Go.Proofs.YtfaoillnakhejaaGreat
set_option maxRecDepth 100000
open Go.RowKit
section
open Go.RowKit
/-- 'range_box', for a body that may leave the loop. -/
theorem range_boxX {F : Fence} {n : Nat} {P : Program} {α : Type} {g : Operand} {p : Tmp} {assign body : Code} {Q : Exit → Act → World → Prop} {a : Act} {w : World}
  (hro : F.round = none) (h1 : 1 ≤ n) {gf : Nat} {lb : Array Value} (hg : a.eval g = .func (.func gf) #[] lb) (hFg : F.fn gf) (eg : ∀ args w, (callFunc gf args).run P w = .ok (.enter gf args) w)
  {enc : α → Value} {Kp : World → World → Prop} {S Sp : List α → Prop} {N : Nat} {w0 : World} (hseq : SeqStopsK F (n - 1) P gf lb (fun x => #[enc x]) Kp S Sp N w0)
  (hKt : ∀ {A B C : World}, Kp A B → Kp B C → Kp A C) (hKb : ∀ (W : World) (l : Nat) (o o' : Obj), w.heap.size ≤ l → W.heap[l]? = some o → o.isCells = false → o.isWalk = false → Kp W (W.putObj l o')) (hb0 : Below w0.heap.size w0 w)
  (I : List α → World → Prop) (Ix : Code → List α → World → Prop) (hI : OwnFrom w.heap.size I) (hIx : ∀ c, OwnFrom w.heap.size (Ix c)) (h0 : I [] w) (d : Nat) (BX : World → Nat → α → Prop) (hBX : ∀ x b, OwnFrom w.heap.size (fun (_ : Unit) W => BX W b x))
  (hassign : ∀ (l : Nat) (pre : List α) (x : α) (W : World) (K : Act → World → Prop), I pre W → (∀ b W', KeepsFrom w.heap.size W W' → Kp W W' → I pre W' → BX W' b x → K { tmps := (a.tmps.setIfInBounds p (enc x)).setIfInBounds d (.pointer (some ⟨b, 0, none⟩)), defers := [] } W') →
   assign.wpIn (F.inRound l) (n - 1 - 1) P (Exit.then K (fun _ _ _ => False)) { tmps := a.tmps.setIfInBounds p (enc x), defers := [] } W)
  (hbody : ∀ (l : Nat) (pre : List α) (x : α) (b : Nat) (W : World), I pre W → BX W b x → pre.length < N →
   body.wpIn (F.inRound l) (n - 1 - 1) P (ownPostG w.heap.size Kp I Ix (pre ++ [x]) W) { tmps := (a.tmps.setIfInBounds p (enc x)).setIfInBounds d (.pointer (some ⟨b, 0, none⟩)), defers := [] } W)
  (hdone : ∀ (D : Nat) (xs : List α) (W : World), w.heap.size ≤ D → S xs → I xs W → W.heap[D]? = some (.deferred (some [])) → Q .normal { a with defers := { target := .collected D, args := #[] } :: a.defers } W)
  (hstop : ∀ (D : Nat) (c : Code) (pre : List α) (W : World), w.heap.size ≤ D → Sp pre → Ix c pre W → W.heap[D]? = some (.deferred (some [])) → c.wpIn F n P Q { a with defers := { target := .collected D, args := #[] } :: a.defers } W) :
  (Code.rangeFunc g #[p] assign body).wpIn F n P Q a w := by
 have hf : ∀ x, (((#[p] : Array Tmp).zip #[enc x]).foldl (fun t (p, v) => t.setIfInBounds p v) a.tmps) = a.tmps.setIfInBounds p (enc x) := fun x => by simp
 refine wpIn_rangeFunc_ownH hro h1 hg hFg eg hseq hKt hKb hb0 (fun _ => rfl) I Ix hI hIx h0
  (fun x a' W => ∃ b, BX W b x ∧ a' = { tmps := (a.tmps.setIfInBounds p (enc x)).setIfInBounds d (.pointer (some ⟨b, 0, none⟩)), defers := [] })
  (fun x a' u X Y row hs hg hr => by obtain ⟨b, h1, h3⟩ := hs; exact ⟨b, hBX x b () X Y row h1 hg hr, h3⟩) ?_ ?_ hdone hstop
 ·intro l pre x W K hi hK
  rw [hf x]
  exact hassign l pre x W K hi (fun b W' h1 h2 h3 h4 => hK _ W' h1 h2 h3 ⟨b, h4, rfl⟩)
 ·rintro l pre x a' W hl hr hi ⟨b, h1, rfl⟩ hlt
  exact hbody l pre x b W hi h1 hlt
abbrev mark (D : Nat) : Deferred := { target := .collected D, args := #[] }
/-- The marks that a function's loops have laid are taken up again where it leaves. -/
theorem leaves_marks {F : Fence} {n : Nat} {P : Program} {fn : Func} {tmps : Array Value} {R : Ending → World → Prop} {v : Value} (hres : ∀ w', (results fn tmps).run P w' = .ok v w') (base : Nat) (I : World → Prop)
  (hI : ∀ W D, base ≤ D → W.heap[D]? = some (.deferred (some [])) → I W → I (W.putObj D (.deferred none))) (hR : ∀ W, I W → R (.returned v) W) : ∀ (Ds : List Nat) (W : World), I W → (∀ D ∈ Ds, base ≤ D ∧ W.heap[D]? = some (.deferred (some []))) → Ds.Nodup → LeavesInM F n P fn tmps R (Ds.map mark) .returning W
 | [], W, h, _, _ => ⟨v, hres W, hR W h⟩
 | D :: Ds, W, h, hm, hn => by
  rw [List.nodup_cons] at hn
  obtain ⟨h1, h2⟩ := hm D (by simp)
  refine ⟨by simp, .inl ⟨D, _, rfl, run_takeDeferred h2, ?_⟩⟩
  refine leaves_marks hres base I hI hR Ds _ (hI W D h1 h2 h) (fun D' hD' => ⟨(hm D' (by simp [hD'])).1, ?_⟩) hn.2
  rw [World.putObj_heap_other (by rintro rfl; exact hn.1 hD')]
  exact (hm D' (by simp [hD'])).2
def hitT (t : Term) (e : Ent) : Bool := if t.up then decide (e.1.hi = endF t.arc t.up) else decide (e.1.lo = endF t.arc t.up)
def skipT (t : Term) : Bool := if t.up then decide (endF t.arc t.up = 100000000) else decide (endF t.arc t.up = 1)
/-- The report on which a term rests. -/
def restT (C : List Ent) (t : Term) : List Int := if skipT t then [] else match (saysE C t.arc.parcel).find? (hitT t) with
 | none => []
 | some e => [e.1.id]
def restsF (C : List Ent) (l : List Term) : List Int := l.flatMap (restT C)
theorem rests_snoc (C : List Ent) (l : List Term) (k : Nat) (h : k < l.length) : restsF C (l.take (k + 1)) = restsF C (l.take k) ++ restT C l[k] := by
 unfold restsF
 rw [List.take_succ_eq_append_getElem h, List.flatMap_append]
 simp
/-- What Rests hands back. -/
def RestsPost (L : List Ent) (K p : Int) (up : Bool) (side : List Int) (w : World) (e : Ending) (w' : World) : Prop :=
 Below w.heap.size w w' ∧ ((∃ er, FailsBy L K [p] er ∧ e = .returned (.tuple #[.slice none 0 0, .int .i64 er])) ∨ (Valid (reps L) ∧ ∃ ids, IdsOf (countE L K) ids ∧ p ∈ ids ∧
  ((¬ (IsSideP (reps (countE L K)) side ∧ (termsF (arcsF (countE L K) ids) p up side (arcF (countE L K) p)).isSome = true) ∧ e = .returned (.tuple #[.slice none 0 0, .int .i64 1])) ∨
   (IsSideP (reps (countE L K)) side ∧ ∃ l, termsF (arcsF (countE L K) ids) p up side (arcF (countE L K) p) = some l ∧ ∃ ys v, e = .returned (.tuple #[v, .int .i64 0]) ∧ w'.ownsRow w.heap.size 3 1 v ys.length (ints ys) ∧ ys.Pairwise (· < ·) ∧ ∀ x, x ∈ ys ↔ x ∈ restsF (countE L K) l))))
theorem find_pre {α : Type} {q : α → Bool} {l pre : List α} {x : α} (hp : (pre ++ [x]) <+: l) (hno : ∀ y ∈ pre, q y = false) (hx : q x = true) : l.find? q = some x := by
 obtain ⟨t, rfl⟩ := hp
 rw [List.find?_append, List.find?_append, List.find?_eq_none.2 (fun y hy => by simp [hno y hy])]
 simp [hx]
theorem memF_iff (l : List Int) (x : Int) : (memF l x).isSome = true ↔ x ∈ l := by
 unfold memF
 by_cases h : x ∈ l <;> simp [h]
attribute [local go_sem] Oper.semAt_some
theorem enters_weighs : Enters 75 := fun args w => by kernel_rfl
set_option maxHeartbeats 32000000 in
theorem rests_any (A : Option Addr) (cap : Nat) (L : List Ent) (K p : Int) (up : Bool) {S : Option Addr} {sc : Nat} {side : List Int} (w : World) (hA : EntsAt w A L) (hl : L.length ≤ 210) (hcap : L.length ≤ cap) (hS : IntsAt w S side) (hsl : side.length ≤ 1000000) :
  Calls Tryz.prog 34 #[.slice A L.length cap, .int .i64 K, .int .i64 p, .bool up, .slice S side.length sc] w (RestsPost L K p up side w) := by
 have HLK := hid (looks_later hA hl hcap K [p] (by simp) 1)
 have HCL : Hid ((countE L K).length ≤ 210) := hid (Nat.le_trans (countE_len L K) hl)
 have HS := hid hS
 clear hA hS
 refine callsIn_wide.1 (callsIn_of_wp_marks (F := Fence.wide) (n := 9) Tryz.func34 rfl trivial ?_ rfl)
 simp only [Tryz.ntmps34, List.size_toArray, List.length_cons, List.length_nil, Nat.reduceAdd, Nat.reduceSub, Array.replicate_succ, Array.replicate_zero, List.push_toArray, List.append_toArray, List.nil_append, List.cons_append]
 refine (wpIn_wide (n := 9)).2 ?_
 go_wp2_with fail
 refine (HLK.out _ _ ((Below.refl _ _).alloc (Nat.le_refl _) _) (ints_new w p)).mono ?_
 rintro e w2 hpost
 obtain ⟨hb2, hcase⟩ := looks_two hpost
 have HB2 := hid (((Below.refl _ w).alloc (Nat.le_refl _) (.cells #[.int .i64 p] 3)).trans (hb2.mono (by simp)))
 clear hpost hb2
 rcases hcase with ⟨er, hf, rfl⟩ | ⟨hv, ids, hids, hin, bb, s, r1, r2, r3, r4, A2, cap2, rfl, hla⟩
 ·have hne : (er != 0) = true := bne_iff_ne.2 hf.ne
  have HF := hid hf
  clear hf
  go_wp2_with fail
  refine ⟨_, results_tmp2 rfl _ _ _, ?_⟩
  unfold RestsPost
  exact ⟨HB2.out, .inl ⟨er, HF.out, rfl⟩⟩
 have HI := hid hids
 have HIN := hid (hin p (by simp))
 have HV := hid hv
 have hso := hla.sound
 have hil := ids_few hso HCL.out hids
 have HSO := hid hso
 have HLA := hid hla
 obtain ⟨C, hC⟩ : ∃ C, countE L K = C := ⟨_, rfl⟩
 rw [hC] at HI HCL HSO HLA
 have HCE := hid hC
 have HIS := hid (isSide_any HLA.out HCL.out (sc := sc) (HS.out.kept (Kept.of_below HB2.out)) hsl)
 clear hids hin hv hla hso hC HLK
 go_wp2_with fail
 refine HIS.out.mono ?_
 rintro e w3 ⟨⟨t, rfl, ht⟩, hb3⟩
 have HB23 := hid hb3
 have HB3 := hid (HB2.out.trans (hb3.mono HB2.out.size))
 have HLA3 := hid (HLA.out.below hb3)
 have HT := hid ht
 clear hb3 HIS ht
 rcases t with _ | _
 ·go_wp2_with fail
  refine ⟨_, results_tmp2 rfl _ _ _, ?_⟩
  unfold RestsPost
  rw [HCE.out]
  exact ⟨HB3.out, .inr ⟨HV.out, ids, HI.out, HIN.out, .inl ⟨fun h => (by have := HT.out.2 h.1; cases this), rfl⟩⟩⟩
 have HTE := hid (terms_any HLA3.out (by omega) p HIN.out up (sc := sc) (HS.out.kept (Kept.of_below HB3.out)) hsl)
 have hmem : arcF C p ∈ arcsF C ids := List.mem_map_of_mem (f := arcF C) HIN.out
 have hgl := arcs_good HSO.out ids
 have hLl : (arcsF C ids).length = ids.length := by simp [arcsF]
 have htm := fun l (h : termsF (arcsF C ids) p up side (arcF C p) = some l) => terms_mem hmem h
 have htl := fun l (h : termsF (arcsF C ids) p up side (arcF C p) = some l) => terms_len hmem h
 have hpo : ∀ (e : Ending) (w' : World), RestsPost L K p up side w e w' ↔ RestsPost L K p up side w e w' := fun _ _ => Iff.rfl
 obtain ⟨TF, hTF⟩ : ∃ TF, termsF (arcsF C ids) p up side (arcF C p) = TF := ⟨_, rfl⟩
 rw [hTF] at HTE
 simp only [hTF] at htm htl
 have HTFE := hid hTF
 have HTM := hid htm
 have HTL := hid htl
 have HGL := hid hgl
 clear hTF hmem htm htl hgl hpo
 go_wp2_with fail
 refine HTE.out.mono ?_
 rintro e w4 ⟨hb4, hcase⟩
 have HB24 := hid (HB23.out.trans (hb4.mono HB23.out.size))
 have HB4 := hid (HB3.out.trans (hb4.mono HB3.out.size))
 clear hb4 HTE
 rcases TF with _ | l
 ·dsimp only at hcase
  subst hcase
  go_wp2_with fail
  refine ⟨_, results_tmp2 rfl _ _ _, ?_⟩
  unfold RestsPost
  rw [HCE.out]
  exact ⟨HB4.out, .inr ⟨HV.out, ids, HI.out, HIN.out, .inl ⟨fun h => (by have := h.2; rw [HTFE.out] at this; cases this), rfl⟩⟩⟩
 obtain ⟨v, rfl, ho⟩ := hcase
 obtain ⟨A7, k7, rfl, hx1, hx2, hx3⟩ := ownsRow.form ho
 have HTA := hid (terms_of_cells hx1)
 have HTM2 := hid (HTM.out l rfl)
 have hll : l.length ≤ 2000 := by have := HTL.out l rfl; omega
 have hb24s := HB24.out.size
 have hmm := @run_makeMap Tryz.prog
 clear hx1 hx3 ho HTM HTL HLA3
 obtain ⟨W5, hW5⟩ : ∃ W, w4.alloc (.map #[] 0) = W := ⟨_, rfl⟩
 have hm5 : MapOf W5 w4.heap.size Value.bool (memF []) := by rw [← hW5, memF_nil]; exact MapOf.new _
 have hb5 : Below w4.heap.size w4 W5 := by rw [← hW5]; exact (Below.refl _ _).alloc (Nat.le_refl _) _
 go_upto_region 10 with (fail)
 clear hmm
 refine box_gen rfl ?_
 intro W6 hbx6 hb6 hlt6
 have hM6 := hm5.below hb6
 have HM6 := hid hM6
 have hr6 : w4.heap.size < W6.heap.size := hM6.lt
 have HBX6 := hid hbx6
 have HB46 := hid (hb5.trans (hb6.mono hb5.size))
 have h6n : w4.heap.size < W5.heap.size := hm5.lt
 have HTA6 := hid (HTA.out.kept (Kept.of_below HB46.out))
 have hw5s : w4.heap.size < W5.heap.size := h6n
 clear hbx6 hb6 hb5 hm5 hM6 h6n
 clear hW5
 obtain ⟨bx, hbxe⟩ : ∃ r, W5.heap.size = r := ⟨_, rfl⟩
 rw [hbxe] at HBX6 hlt6 hw5s ⊢
 clear hbxe
 go_upto_region 11 with (fail)
 refine wp_loop_ghost_k (fun gm a' w' => ∃ (u0 u1 u2 u3 u4 u5 u6 u7 u8 u9 u10 u11 u13 u14 u15 u17 u18 u19 u20 u21 u22 u23 u24 u25 u26 u27 u28 u29 u30 u31 u32 u33 u34 u35 u36 u37 u38 u39 u40 u41 u42 u43 u44 u45 u46 u49 u50 u51 u52 u53 u54 u55 u56 u57 u58 u59 u60 u61 u62 u63 u64 u65 u66 u67 u68 u69 u70 u71 u72 u73 u74 u75 u76 u77 u78 u79 u80 u81 u82 u83 u84 u85 u86 u87 u88 u89 u90 u91 u92 u93 u94 u95 u96 u97 u98 u99 u100 u101 u102 u103 u104 u105 u106 u107 u108 : Value) (ds : List Deferred), (∃ (k : Nat) (Ds : List Nat), k ≤ l.length ∧ gm = l.length - k ∧ u49 = .int .i64 k ∧ ds = Ds.map mark ∧ Hid (MapOf w' w4.heap.size Value.bool (memF (restsF C (l.take k)))) ∧ Hid (Below w4.heap.size w4 w') ∧ Hid (w'.cell? ⟨bx, 0, none⟩ = some (.map (some w4.heap.size))) ∧ Hid (∀ D ∈ Ds, W6.heap.size ≤ D ∧ w'.heap[D]? = some (.deferred (some []))) ∧ Hid Ds.Nodup ∧ Hid (W6.heap.size ≤ w'.heap.size)) ∧ a' = { tmps := #[u0, u1, u2, u3, u4, u5, u6, u7, u8, u9, u10, u11, .pointer (some ⟨bb, 0, none⟩), u13, u14, u15, .pointer (some ⟨bx, 0, none⟩), u17, u18, u19, u20, u21, u22, u23, u24, u25, u26, u27, u28, u29, u30, u31, u32, u33, u34, u35, u36, u37, u38, u39, u40, u41, u42, u43, u44, u45, u46, .slice A7 l.length k7, .int .i64 l.length, u49, u50, u51, u52, u53, u54, u55, u56, u57, u58, u59, u60, u61, u62, u63, u64, u65, u66, u67, u68, u69, u70, u71, u72, u73, u74, u75, u76, u77, u78, u79, u80, u81, u82, u83, u84, u85, u86, u87, u88, u89, u90, u91, u92, u93, u94, u95, u96, u97, u98, u99, u100, u101, u102, u103, u104, u105, u106, u107, u108], defers := ds }) l.length ?_ ?_
 ·(repeat apply Exists.intro)
  refine ⟨?_, rfl⟩
  exact ⟨0, [], by omega, by omega, rfl, rfl, HM6, HB46, HBX6, hid (by simp), hid List.nodup_nil, hid (Nat.le_refl _)⟩
 intro gk _ wr hinv
 obtain ⟨u0, hinv⟩ := hinv
 obtain ⟨u1, hinv⟩ := hinv
 obtain ⟨u2, hinv⟩ := hinv
 obtain ⟨u3, hinv⟩ := hinv
 obtain ⟨u4, hinv⟩ := hinv
 obtain ⟨u5, hinv⟩ := hinv
 obtain ⟨u6, hinv⟩ := hinv
 obtain ⟨u7, hinv⟩ := hinv
 obtain ⟨u8, hinv⟩ := hinv
 obtain ⟨u9, hinv⟩ := hinv
 obtain ⟨u10, hinv⟩ := hinv
 obtain ⟨u11, hinv⟩ := hinv
 obtain ⟨u13, hinv⟩ := hinv
 obtain ⟨u14, hinv⟩ := hinv
 obtain ⟨u15, hinv⟩ := hinv
 obtain ⟨u17, hinv⟩ := hinv
 obtain ⟨u18, hinv⟩ := hinv
 obtain ⟨u19, hinv⟩ := hinv
 obtain ⟨u20, hinv⟩ := hinv
 obtain ⟨u21, hinv⟩ := hinv
 obtain ⟨u22, hinv⟩ := hinv
 obtain ⟨u23, hinv⟩ := hinv
 obtain ⟨u24, hinv⟩ := hinv
 obtain ⟨u25, hinv⟩ := hinv
 obtain ⟨u26, hinv⟩ := hinv
 obtain ⟨u27, hinv⟩ := hinv
 obtain ⟨u28, hinv⟩ := hinv
 obtain ⟨u29, hinv⟩ := hinv
 obtain ⟨u30, hinv⟩ := hinv
 obtain ⟨u31, hinv⟩ := hinv
 obtain ⟨u32, hinv⟩ := hinv
 obtain ⟨u33, hinv⟩ := hinv
 obtain ⟨u34, hinv⟩ := hinv
 obtain ⟨u35, hinv⟩ := hinv
 obtain ⟨u36, hinv⟩ := hinv
 obtain ⟨u37, hinv⟩ := hinv
 obtain ⟨u38, hinv⟩ := hinv
 obtain ⟨u39, hinv⟩ := hinv
 obtain ⟨u40, hinv⟩ := hinv
 obtain ⟨u41, hinv⟩ := hinv
 obtain ⟨u42, hinv⟩ := hinv
 obtain ⟨u43, hinv⟩ := hinv
 obtain ⟨u44, hinv⟩ := hinv
 obtain ⟨u45, hinv⟩ := hinv
 obtain ⟨u46, hinv⟩ := hinv
 obtain ⟨u49, hinv⟩ := hinv
 obtain ⟨u50, hinv⟩ := hinv
 obtain ⟨u51, hinv⟩ := hinv
 obtain ⟨u52, hinv⟩ := hinv
 obtain ⟨u53, hinv⟩ := hinv
 obtain ⟨u54, hinv⟩ := hinv
 obtain ⟨u55, hinv⟩ := hinv
 obtain ⟨u56, hinv⟩ := hinv
 obtain ⟨u57, hinv⟩ := hinv
 obtain ⟨u58, hinv⟩ := hinv
 obtain ⟨u59, hinv⟩ := hinv
 obtain ⟨u60, hinv⟩ := hinv
 obtain ⟨u61, hinv⟩ := hinv
 obtain ⟨u62, hinv⟩ := hinv
 obtain ⟨u63, hinv⟩ := hinv
 obtain ⟨u64, hinv⟩ := hinv
 obtain ⟨u65, hinv⟩ := hinv
 obtain ⟨u66, hinv⟩ := hinv
 obtain ⟨u67, hinv⟩ := hinv
 obtain ⟨u68, hinv⟩ := hinv
 obtain ⟨u69, hinv⟩ := hinv
 obtain ⟨u70, hinv⟩ := hinv
 obtain ⟨u71, hinv⟩ := hinv
 obtain ⟨u72, hinv⟩ := hinv
 obtain ⟨u73, hinv⟩ := hinv
 obtain ⟨u74, hinv⟩ := hinv
 obtain ⟨u75, hinv⟩ := hinv
 obtain ⟨u76, hinv⟩ := hinv
 obtain ⟨u77, hinv⟩ := hinv
 obtain ⟨u78, hinv⟩ := hinv
 obtain ⟨u79, hinv⟩ := hinv
 obtain ⟨u80, hinv⟩ := hinv
 obtain ⟨u81, hinv⟩ := hinv
 obtain ⟨u82, hinv⟩ := hinv
 obtain ⟨u83, hinv⟩ := hinv
 obtain ⟨u84, hinv⟩ := hinv
 obtain ⟨u85, hinv⟩ := hinv
 obtain ⟨u86, hinv⟩ := hinv
 obtain ⟨u87, hinv⟩ := hinv
 obtain ⟨u88, hinv⟩ := hinv
 obtain ⟨u89, hinv⟩ := hinv
 obtain ⟨u90, hinv⟩ := hinv
 obtain ⟨u91, hinv⟩ := hinv
 obtain ⟨u92, hinv⟩ := hinv
 obtain ⟨u93, hinv⟩ := hinv
 obtain ⟨u94, hinv⟩ := hinv
 obtain ⟨u95, hinv⟩ := hinv
 obtain ⟨u96, hinv⟩ := hinv
 obtain ⟨u97, hinv⟩ := hinv
 obtain ⟨u98, hinv⟩ := hinv
 obtain ⟨u99, hinv⟩ := hinv
 obtain ⟨u100, hinv⟩ := hinv
 obtain ⟨u101, hinv⟩ := hinv
 obtain ⟨u102, hinv⟩ := hinv
 obtain ⟨u103, hinv⟩ := hinv
 obtain ⟨u104, hinv⟩ := hinv
 obtain ⟨u105, hinv⟩ := hinv
 obtain ⟨u106, hinv⟩ := hinv
 obtain ⟨u107, hinv⟩ := hinv
 obtain ⟨u108, hinv⟩ := hinv
 obtain ⟨ds, hrel, ha⟩ := hinv
 subst ha
 intro _ _ _ _
 obtain ⟨k, Ds, hk, hgk, rfl, rfl, HMP, HBL, HCX, HMK, HND, HSZ⟩ := hrel
 by_cases hkl : k < l.length
 rotate_left
 ·obtain rfl : k = l.length := by omega
  have hm := HMP.out
  rw [List.take_length] at hm
  have HSR := hid (sorted_any hm (fun ys hn hy => by
   have h1 := nodup_le hn (ys := restsF C l) (fun x hx => by
    have := hy x hx
    unfold memF at this
    split at this
    ·assumption
    ·cases this)
   have h2 : ∀ l : List Term, (restsF C l).length ≤ l.length := fun l => by
    induction l with
    | nil => simp [restsF]
    | cons t l ih =>
     have h3 : (restT C t).length ≤ 1 := by
      unfold restT
      split
      ·simp
      ·split <;> simp
     have : restsF C (t :: l) = restT C t ++ restsF C l := rfl
     rw [this, List.length_append, List.length_cons]
     omega
   have := h2 l
   omega))
  have hcx := HCX.out
  clear hm
  go_wp2_with fail
  refine HSR.out.mono ?_
  rintro e w9 ⟨ys, v9, rfl, hys, hmem, ho9, hb9⟩
  have HYS := hid hys
  have HMEM := hid hmem
  have HO9 := hid (own_lo (base' := w.heap.size) ho9 (by have := HB4.out.size; have := HBL.out.size; omega))
  have HB9 := hid (HB4.out.trans ((HBL.out.trans (hb9.mono HBL.out.size)).mono HB4.out.size))
  have HM9 : Hid (∀ D ∈ Ds, W6.heap.size ≤ D ∧ w9.heap[D]? = some (.deferred (some []))) := hid (fun D hD => ⟨(HMK.out D hD).1, (hb9.block D (Array.getElem?_eq_some_iff.1 (HMK.out D hD).2).1).trans (HMK.out D hD).2⟩)
  have h6w : w.heap.size ≤ W6.heap.size := by have := HB4.out.size; omega
  clear hys hmem ho9 hb9 hcx
  go_wp2_with fail
  refine leaves_marks (fun w' => results_tmp2 rfl _ _ w') W6.heap.size (fun W => Below w.heap.size w W ∧ W.ownsRow w.heap.size 3 1 v9 ys.length (ints ys)) ?_ ?_ Ds w9 ⟨HB9.out, HO9.out⟩ HM9.out HND.out
  ·rintro W D h1 h2 ⟨h3, h4⟩
   exact ⟨h3.trans (belowK_b (w := w) (Nat.le_refl _) W D _ _ (by omega) h2 rfl rfl), ownsRow_putObj h4 _ h2 rfl⟩
  ·rintro W ⟨h3, h4⟩
   unfold RestsPost
   refine ⟨h3, .inr ⟨HV.out, ids, by rw [HCE.out]; exact HI.out, HIN.out, .inr ⟨by rw [HCE.out]; exact HT.out.1 (by simp), l, by rw [HCE.out]; exact HTFE.out, ys, v9, rfl, h4, HYS.out, fun x => ?_⟩⟩⟩
   rw [HCE.out, HMEM.out x, memF_iff]
 obtain ⟨V, hV⟩ : ∃ V, V = wr := ⟨_, rfl⟩
 subst hV
 obtain ⟨b4, off4, hAe, hrg⟩ := (HTA.out.kept (Kept.of_below HBL.out)) (by omega)
 subst hAe
 have hra := hrg k hkl
 have hst := rests_snoc C l k hkl
 have htm := HTM2.out l[k] (List.getElem_mem hkl)
 obtain ⟨t, htk⟩ : ∃ t, l[k] = t := ⟨_, rfl⟩
 rw [htk] at hra hst htm
 have hea : okN (endF t.arc t.up) = true := by
  have h1 := HGL.out t.arc htm.1
  unfold endF
  rcases t.up with _ | _
  ·exact h1.1
  ·exact h1.2
 have HRA := hid hra
 have HST := hid hst
 have i0 : (0 : Int) ≤ k := by omega
 have i1 : (k : Int) < l.length := by omega
 obtain ⟨ev, hev⟩ : ∃ ev, endF t.arc t.up = ev := ⟨_, rfl⟩
 have HEV := hid hev
 clear hrg hra hst htk hea hev htm
 go_upto_region 13 with (first | refine load_term_mid rfl _ rfl _ _ rfl HRA.out ?_ | (refine store_term_new rfl _ _ rfl rfl rfl (q := t) rfl rfl ?_; intro W7 hax7 hb7 hlt7; have HAX := hid hax7; have HB7 := hid hb7; clear hax7 hb7))
 have HEN := hid (end_any t.arc t.up W7)
 rw [HEV.out] at HEN
 obtain ⟨tc0, tc1, tc2, tc3, tc4, tc5, _⟩ := HAX.out.at_
 go_wp2_with fail
 refine HEN.out.mono ?_
 rintro e w8 ⟨rfl, hb8⟩
 have HB8 := hid (HB7.out.trans (hb8.mono HB7.out.size))
 have HAX8 := hid (HAX.out.below hb8)
 clear hb8 tc0 tc1 tc2 tc3 tc4 tc5 HEN
 go_upto_region 14 with (fail)
 refine box_gen rfl ?_
 intro W9 hbx9 hb9 hlt9
 have HB9 := hid (HB8.out.trans (hb9.mono HB8.out.size))
 have HAX9 := hid (HAX8.out.below hb9)
 have HBX9 := hid hbx9
 have hlt8 : V.heap.size < w8.heap.size := by have := HB8.out; have h := (Array.getElem?_eq_some_iff.1 HAX8.out).1; exact h
 clear hb9 hbx9
 obtain ⟨ub, hub⟩ : ∃ b, t.up = b := ⟨_, rfl⟩
 obtain ⟨sk, hsk⟩ : ∃ b, skipT t = b := ⟨_, rfl⟩
 have hskd : sk = if ub then decide (ev = 100000000) else decide (ev = 1) := by rw [← hsk]; unfold skipT; rw [HEV.out, hub]
 have hhit : ∀ e : Ent, hitT t e = if ub then decide (e.1.hi = ev) else decide (e.1.lo = ev) := fun e => by unfold hitT; rw [HEV.out, hub]
 have HUB := hid hub
 have HSK := hid hsk
 have HSKD := hid hskd
 have HHIT := hid hhit
 clear hub hsk hskd hhit
 go_cut [72] from 50 to 106 (fun s wx => s = .bool sk ∧ W9 = wx)
 case first =>
  obtain ⟨_, _, _, _, _, tc5, _⟩ := HAX9.out.at_
  rw [HUB.out] at tc5
  have hcv := HBX9.out
  rcases ub with _ | _
  ·by_cases he : ev = 1
   ·have de : (ev == 1) = true := beq_iff_eq.2 he
    have HZ : Hid (sk = true) := hid (by rw [HSKD.out]; simp [he])
    clear he
    go_wp2_with fail
    go_meet
    case rel => exact ⟨by rw [HZ.out], rfl⟩
   ·have de : (ev == 1) = false := beq_eq_false_iff_ne.2 he
    have HZ : Hid (sk = false) := hid (by rw [HSKD.out]; simp [he])
    clear he
    go_wp2_with fail
    go_meet
    case rel => exact ⟨by rw [HZ.out], rfl⟩
  ·by_cases he : ev = 100000000
   ·have de : (ev == 100000000) = true := beq_iff_eq.2 he
    have HZ : Hid (sk = true) := hid (by rw [HSKD.out]; simp [he])
    clear he
    go_wp2_with fail
    go_meet
    case rel => exact ⟨by rw [HZ.out], rfl⟩
   ·have de : (ev == 100000000) = false := beq_eq_false_iff_ne.2 he
    have HZ : Hid (sk = false) := hid (by rw [HSKD.out]; simp [he])
    clear he
    go_wp2_with fail
    go_meet
    case rel => exact ⟨by rw [HZ.out], rfl⟩
 case rest =>
  obtain ⟨rfl, rfl⟩ := hcut
  rcases sk with _ | _
  case true =>
   have HN : Hid (restsF C (l.take (k + 1)) = restsF C (l.take k)) := hid (by rw [HST.out]; unfold restT; rw [HSK.out, if_pos rfl, List.append_nil])
   go_wp2_with fail
   refine Handed.intro (l.length - (k + 1)) ?measure ?_
   rotate_left
   go_step
   (repeat apply Exists.intro)
   refine ⟨?rel, rfl⟩
   case measure => omega
   case rel => exact ⟨k + 1, Ds, by omega, rfl, by go_num, rfl, hid (by rw [HN.out]; exact HMP.out.below HB9.out), hid (HBL.out.trans (HB9.out.mono HBL.out.size)), hid (Kept.of_below HB9.out _ _ HCX.out), hid (fun D hD => ⟨(HMK.out D hD).1, (HB9.out.block D (Array.getElem?_eq_some_iff.1 (HMK.out D hD).2).1).trans (HMK.out D hD).2⟩), HND, hid (Nat.le_trans HSZ.out HB9.out.size)⟩
  case false =>
   obtain ⟨X, hX⟩ : ∃ X, X = W9 := ⟨_, rfl⟩
   subst hX
   have HBX2 := hid (HB24.out.trans ((HBL.out.trans (HB9.out.mono HBL.out.size)).mono HB24.out.size))
   have HLAX := hid (HLA.out.below HBX2.out)
   have hb0 := HLAX.out.cells.1
   have HB0 := hid hb0
   have HTC : Hid (X.cell? ⟨V.heap.size, 0, none⟩ = some (.int .i64 t.arc.parcel)) := hid HAX9.out.at_.1
   have HWE := hid (weighs_any s t.arc.parcel X.drew)
   have hbbn : (some (⟨bb, 0, none⟩ : Addr)).isSome = true := rfl
   clear hb0
   go_upto_region 15 with fail
   refine wp_region_noPanic ?_
   refine wp_region_held_drew (S := fun w' => w'.cell? ⟨bb, 0, none⟩ = some (.pointer (some ⟨s, 0, none⟩)) ∧ w'.cell? ⟨V.heap.size, 0, none⟩ = some (.int .i64 t.arc.parcel)) (by kernel_rfl) (⟨HB0.out, HTC.out⟩) (fun hHeld => ?_)
   refine tk 0 (fun _ _ _ _ _ h => h) (by kernel_rfl) ‹_› ⟨_, ?_, by simp only [zz1, zz2]; rfl, .inl ⟨by rfl, ?_⟩, ?_⟩; rotate_left; · (intro w hSw; (try dsimp only at hSw); go_simp; all_goals with_reducible rfl)
   simp only [Act.put, zz4, zz5, zz6]
   refine tk 1 (fun _ _ _ _ _ h => h) (by kernel_rfl) ‹_› ⟨_, ?_, by simp only [zz1, zz2, zz3]; rfl, .inl ⟨by rfl, ?_⟩, ?_⟩; rotate_left; · (intro w hSw; (try dsimp only at hSw); go_simp; all_goals with_reducible rfl)
   simp only [Act.put, zz4, zz5, zz6]
   refine tk 2 (fun _ _ _ _ _ h => h) (by kernel_rfl) ‹_› ⟨_, ?_, by simp only [zz1, zz2, zz3]; rfl, .inl ⟨by rfl, ?_⟩, ?_⟩; rotate_left; · (intro w hSw; (try dsimp only at hSw); go_simp; all_goals with_reducible rfl)
   simp only [Act.put, zz4, zz5, zz6]
   refine tk 3 (fun _ _ _ _ _ h => h) (by kernel_rfl) ‹_› ⟨_, ?_, by simp only [zz1, zz2, zz3]; rfl, .inl ⟨by rfl, ?_⟩, ?_⟩; rotate_left; · (intro w hSw; (try dsimp only at hSw); go_simp; all_goals with_reducible rfl)
   simp only [Act.put, zz4, zz5, zz6]
   refine tk 4 (fun _ _ _ _ _ h => h) (by kernel_rfl) ‹_› ⟨_, ?_, by simp only [zz1, zz2, zz3]; rfl, .inl ⟨by rfl, ?_⟩, ?_⟩; rotate_left; · (intro w hSw; (try dsimp only at hSw); go_simp; all_goals with_reducible rfl)
   simp only [Act.put, zz4, zz5, zz6]
   refine tk 5 (fun _ _ _ _ _ h => h) (by kernel_rfl) ‹_› ⟨_, ?_, by simp only [zz1, zz2, zz3]; rfl, .inl ⟨by rfl, ?_⟩, ?_⟩; rotate_left; · (intro w hSw; (try dsimp only at hSw); go_simp; all_goals with_reducible rfl)
   simp only [Act.put, zz4, zz5, zz6]
   refine tk 6 (fun _ _ _ _ _ h => h) (by kernel_rfl) ‹_› ⟨_, ?_, by simp only [zz1, zz2, zz3]; rfl, .inl ⟨by rfl, ?_⟩, ?_⟩; rotate_left; · (intro w hSw; (try dsimp only at hSw); go_simp; all_goals with_reducible rfl)
   simp only [Act.put, zz4, zz5, zz6]
   refine wpAnyH_ready (rs := [7]) (by kernel_rfl) (by simp) ?_
   refine cons_one (i := 7) ⟨_, by simp only [zz1, zz2, zz3]; rfl, fun K hK => ?_⟩ ?_
   rotate_left
   ·exact AllReadyH.nil
   refine step_call rfl #[.tmp 76, .tmp 79] 75 _ rfl enters_weighs #[.pointer (some ⟨s, 0, none⟩), .int .i64 t.arc.parcel] ?hs (fun u w' => u = .func (.func 114) #[] #[.pointer (some ⟨X.heap.size, 0, none⟩), .pointer (some ⟨X.heap.size + 1, 0, none⟩)] ∧ Below X.heap.size X.drew w' ∧
    w'.cell? ⟨X.heap.size, 0, none⟩ = some (.pointer (some ⟨s, 0, none⟩)) ∧ w'.cell? ⟨X.heap.size + 1, 0, none⟩ = some (.int .i64 t.arc.parcel) ∧ X.heap.size + 1 < w'.heap.size) (HWE.out.mono (fun e w' h => ⟨_, h.1, rfl, h.2⟩)) ?_
   case hs => simp [Act.eval]
   rintro _ Y ⟨rfl, hbY, cY1, cY2, hsY⟩
   have HBY : Hid (Below X.heap.size X Y) := hid ((Below.refl _ X).drew.trans hbY)
   clear hbY
   clear hHeld
   refine hK.out _ _ (⟨Kept.of_below HBY.out _ _ HB0.out, Kept.of_below HBY.out _ _ HTC.out⟩) (fun hHeld => ?_)
   clear hK K
   try simp only [Act.put]
   refine wpAnyH_done (by kernel_rfl) ?_ _
   refine NoPanic.normal ?_
   go_wp2_with fail
   have HVY := hid (HB9.out.trans (HBY.out.mono HB9.out.size))
   have HB2Y := hid (HBX2.out.trans (HBY.out.mono HBX2.out.size))
   have hrsY : w4.heap.size < Y.heap.size := by have := HBL.out.size; have := HVY.out.size; have := HMP.out.lt; omega
   have hcvY := Kept.of_below HBY.out _ _ HBX9.out
   have HCV := hid hcvY
   have HT5 : Hid (Y.cell? ⟨V.heap.size, 5, none⟩ = some (.bool ub)) := hid (by
    have := (HAX9.out.below HBY.out).at_.2.2.2.2.2.1
    rwa [HUB.out] at this)
   have hw8Y : w8.heap.size < Y.heap.size := by have := HBY.out.size; omega
   have HMPY := hid (HMP.out.below HVY.out)
   have HCXY := hid (Kept.of_below HVY.out _ _ HCX.out)
   have HMKY : Hid (∀ D ∈ Ds, W6.heap.size ≤ D ∧ Y.heap[D]? = some (.deferred (some []))) := hid (fun D hD => ⟨(HMK.out D hD).1, (HVY.out.block D (Array.getElem?_eq_some_iff.1 (HMK.out D hD).2).1).trans (HMK.out D hD).2⟩)
   have HSZY : Hid (W6.heap.size ≤ Y.heap.size) := hid (Nat.le_trans HSZ.out HVY.out.size)
   have HBLY : Hid (Below w4.heap.size w4 Y) := hid (HBL.out.trans (HVY.out.mono HBL.out.size))
   obtain ⟨RL, hRL⟩ : ∃ r, restsF C (l.take k) = r := ⟨_, rfl⟩
   rw [hRL] at HMPY HST
   refine (wpIn_wide (n := 9)).1 ?_
   refine range_boxX (F := Fence.wide) (n := 9) rfl (by decide) (gf := 114) rfl trivial enters59 (weighs_stops (9 - 1) (by decide) X.heap.size (X.heap.size + 1) w2 HLA.out.store HLA.out.ents HSO.out HCL.out t.arc.parcel Y HB2Y.out cY1 cY2)
    (fun h k => h.t k) (Keep2.put HB2Y.out.size) (Below.refl _ _)
    (fun pre W => Below Y.heap.size Y W ∧ ∀ e ∈ pre, hitT t e = false)
    (fun c pre W => c = Code.exit 2 ∧ ∃ pre' x, pre = pre' ++ [x] ∧ (∀ e ∈ pre', hitT t e = false) ∧ hitT t x = true ∧ MapOf W w4.heap.size Value.bool (memF (RL ++ [x.1.id])) ∧ Y.grownBy W (some w4.heap.size))
    ?hI ?hIx ⟨Below.refl _ _, by simp⟩ 20 (fun W b e => BoxIs W b e.1 e.2.1 e.2.2) (fun e b => block_stays) ?assign ?body ?done ?stop
   case hI => exact fun pre W W' row hs hg hr => ⟨hs.1.grown hg hs.1.size (fun k e => (hr k e).1), hs.2⟩
   case hIx =>
    rintro c pre W W' row ⟨rfl, pre', x, h1, h2, h3, h4, h5⟩ hg hr
    refine ⟨rfl, pre', x, h1, h2, h3, h4.same (hg.block _ h4.lt (fun e => by have := (hr _ e.symm).1; omega)), ?_⟩
    exact ⟨hg.os.trans h5.os, hg.tape.trans h5.tape, hg.output.trans h5.output, Nat.le_trans h5.size hg.size, fun i hi hne => (hg.block i (Nat.lt_of_lt_of_le hi h5.size) (fun e => by have := (hr _ e.symm).1; omega)).trans (h5.block i hi hne)⟩
   case assign =>
    rintro lb pre e W K ⟨hB, hP⟩ hK
    simp only [zz4, zz5, zz6] at hK ⊢
    have HK := hid hK
    have HBI := hid hB
    have HPI := hid hP
    clear hK hB hP
    gi_wp2_with (first | (refine store_rep_newIn rfl _ _ rfl rfl rfl (r := e.1) rfl rfl ?_; intro W' hbx hbw hlt))
    exact HK.out _ _ (keeps_below hbw) ((Keep2.r W).below (Nat.le_trans HB2Y.out.size HBI.out.size) hbw) ⟨HBI.out.trans (hbw.mono HBI.out.size), HPI.out⟩ hbx
   case body =>
    rintro lb pre e b W ⟨hB, hP⟩ hbx hlt
    simp only [zz4, zz5, zz6]
    obtain ⟨x0, _, _, _, _, _, _, _, _, _, x10, x11, _⟩ := hbx.at_
    have hc5 := Kept.of_below hB _ _ HT5.out
    have hcv := Kept.of_below hB _ _ HCV.out
    have hcm := Kept.of_below hB _ _ HCXY.out
    have HMW := hid (HMPY.out.below hB)
    have HBI := hid hB
    have HPI := hid hP
    have hhe := HHIT.out e
    have HHE := hid hhe
    clear hB hP hbx hhe
    have HNO : Hid (hitT t e = false → ∀ y ∈ pre ++ [e], hitT t y = false) := hid (fun h y hy => by
     rcases List.mem_append.1 hy with h9 | h9
     ·exact HPI.out y h9
     ·rw [List.mem_singleton] at h9
      subst h9
      exact h)
    obtain ⟨w9, hup, hm9, hg9⟩ := HMW.out.put mapB_u e.1.id true
    rw [memF_put] at hm9
    have HM9 := hid hm9
    have HG9 := hid hg9
    have HW9 : Hid (Y.grownBy w9 (some w4.heap.size)) := hid ⟨hg9.os.trans HBI.out.os, hg9.tape.trans HBI.out.tape, hg9.output.trans HBI.out.output, Nat.le_trans HBI.out.size hg9.size, fun i hi hne => (hg9.block i (Nat.lt_of_lt_of_le hi HBI.out.size) hne).trans (HBI.out.block i hi)⟩
    clear hm9 hg9
    rcases ub with _ | _
    ·by_cases he : e.1.lo = ev
     ·have de : (e.1.lo == ev) = true := beq_iff_eq.2 he
      have HY : Hid (hitT t e = true) := hid (by rw [HHE.out]; simp [he])
      clear he
      gi_wp2_with fail
      first | exact ⟨KeepsFrom.of_grownBy HG9.out (fun j e => by cases e; omega), rfl, pre, e, rfl, HPI.out, HY.out, HM9.out, HW9.out⟩ | exact ⟨KeepsFrom.of_grownBy HG9.out (fun j e => by cases e; omega), rfl, pre, e.1, e.2.1, e.2.2, rfl, fun a1 a2 a3 h => HPI.out (a1, a2, a3) h, HY.out, HM9.out, HW9.out⟩
     ·have de : (e.1.lo == ev) = false := beq_eq_false_iff_ne.2 he
      have HY : Hid (hitT t e = false) := hid (by rw [HHE.out]; simp [he])
      clear he hup
      gi_wp2_with fail
      first | exact ⟨keeps_below (Below.refl _ _), Keep2.r W, HBI.out, HNO.out HY.out⟩ | exact ⟨keeps_below (Below.refl _ _), Keep2.r W, HBI.out, fun a1 a2 a3 h => HNO.out HY.out (a1, a2, a3) h⟩
    ·by_cases he : e.1.hi = ev
     ·have de : (e.1.hi == ev) = true := beq_iff_eq.2 he
      have HY : Hid (hitT t e = true) := hid (by rw [HHE.out]; simp [he])
      clear he
      gi_wp2_with fail
      first | exact ⟨KeepsFrom.of_grownBy HG9.out (fun j e => by cases e; omega), rfl, pre, e, rfl, HPI.out, HY.out, HM9.out, HW9.out⟩ | exact ⟨KeepsFrom.of_grownBy HG9.out (fun j e => by cases e; omega), rfl, pre, e.1, e.2.1, e.2.2, rfl, fun a1 a2 a3 h => HPI.out (a1, a2, a3) h, HY.out, HM9.out, HW9.out⟩
     ·have de : (e.1.hi == ev) = false := beq_eq_false_iff_ne.2 he
      have HY : Hid (hitT t e = false) := hid (by rw [HHE.out]; simp [he])
      clear he hup
      gi_wp2_with fail
      first | exact ⟨keeps_below (Below.refl _ _), Keep2.r W, HBI.out, HNO.out HY.out⟩ | exact ⟨keeps_below (Below.refl _ _), Keep2.r W, HBI.out, fun a1 a2 a3 h => HNO.out HY.out (a1, a2, a3) h⟩
   case done =>
    rintro D ysE W hD rfl ⟨hB, hP⟩ hK
    have HBI := hid hB
    have HPI := hid hP
    have HK := hid hK
    have HN : Hid (restsF C (l.take (k + 1)) = RL) := hid (by
     rw [HST.out]
     unfold restT
     rw [HSK.out, if_neg (by decide), List.find?_eq_none.2 (fun e he => by rw [HPI.out e he]; decide), List.append_nil])
    clear hB hP hK
    go_wp2_with fail
    refine Handed.intro (l.length - (k + 1)) ?measure ?_
    rotate_left
    go_step
    (repeat apply Exists.intro)
    refine ⟨?rel, rfl⟩
    case measure => omega
    case rel => exact ⟨k + 1, D :: Ds, by omega, rfl, by go_num, rfl, hid (by rw [HN.out]; exact HMPY.out.below HBI.out), hid (HBLY.out.trans (HBI.out.mono HBLY.out.size)), hid (Kept.of_below HBI.out _ _ HCXY.out), hid (fun D' hD' => by
     rcases List.mem_cons.1 hD' with rfl | h9
     ·exact ⟨Nat.le_trans HSZY.out hD, HK.out⟩
     ·exact ⟨(HMKY.out D' h9).1, (HBI.out.block D' (Array.getElem?_eq_some_iff.1 (HMKY.out D' h9).2).1).trans (HMKY.out D' h9).2⟩), hid (List.nodup_cons.2 ⟨fun h9 => by have := (Array.getElem?_eq_some_iff.1 (HMKY.out D h9).2).1; omega, HND.out⟩), hid (Nat.le_trans HSZY.out HBI.out.size)⟩
   case stop =>
    rintro D c pre W hD hsp ⟨rfl, pre', x, rfl, h2, h3, h4, h5⟩ hK
    have HK := hid hK
    have HM9 := hid h4
    have HG := hid h5
    have HN : Hid (restsF C (l.take (k + 1)) = RL ++ [x.1.id]) := hid (by
     have hpre := hsp
     rw [HST.out]
     unfold restT
     rw [HSK.out, if_neg (by decide), find_pre hpre h2 h3])
    have HBE : Hid (Below w4.heap.size Y W) := hid ((Below.refl _ Y).grown h5 (by omega) (fun k e => by cases e; exact Nat.le_refl _))
    clear h2 h3 h4 h5 hsp hK
    refine (wpIn_wide (n := 9)).2 ?_
    go_wp2_with fail
    refine Handed.intro (l.length - (k + 1)) ?measure ?_
    rotate_left
    go_step
    (repeat apply Exists.intro)
    refine ⟨?rel, rfl⟩
    case measure => omega
    case rel => exact ⟨k + 1, D :: Ds, by omega, rfl, by go_num, rfl, hid (by rw [HN.out]; exact HM9.out), hid (HBLY.out.trans HBE.out), hid ((World.cell?_of_block (HG.out.block bx (by have := cell_lt HCXY.out; exact this) (fun e => by cases e; omega))).trans HCXY.out), hid (fun D' hD' => by
     rcases List.mem_cons.1 hD' with rfl | h9
     ·exact ⟨Nat.le_trans HSZY.out hD, HK.out⟩
     ·exact ⟨(HMKY.out D' h9).1, (HG.out.block D' (Array.getElem?_eq_some_iff.1 (HMKY.out D' h9).2).1 (fun e => by cases e; have := (HMKY.out _ h9).1; omega)).trans (HMKY.out D' h9).2⟩), hid (List.nodup_cons.2 ⟨fun h9 => by have := (Array.getElem?_eq_some_iff.1 (HMKY.out D h9).2).1; omega, HND.out⟩), hid (Nat.le_trans HSZY.out HG.out.size)⟩
end
theorem side4 : IsSideP beachR [4] := by
 intro j h
 obtain rfl : j = 0 := by simpa using h
 exact ⟨by kernel_rfl, fun h => absurd h (by omega)⟩
theorem rests_terms (A : Option Addr) (c : Nat) : ((termsF (arcsF (beachE A c) ids5) 31 true [4] (arcF (beachE A c) 31)).map fun l => (restsF (beachE A c) l).all (fun x => decide (x ∈ ([2, 5] : List Int))) && ([2, 5] : List Int).all (fun x => decide (x ∈ restsF (beachE A c) l))) = some true := by kernel_rfl
theorem rests14 {A : Option Addr} {c : Nat} {l : List Term} (hl : termsF (arcsF (beachE A c) ids5) 31 true [4] (arcF (beachE A c) 31) = some l) {ys : List Int} (hs : ys.Pairwise (· < ·)) (h : ∀ x, x ∈ ys ↔ x ∈ restsF (beachE A c) l) : ys = [2, 5] := by
 have h1 := rests_terms A c
 rw [hl, Option.map_some, Option.some.injEq, Bool.and_eq_true] at h1
 refine sorted_same hs (by decide) (fun p => ?_)
 rw [h p]
 constructor
 ·intro hp
  exact of_decide_eq_true (List.all_eq_true.1 h1.1 p hp)
 ·intro hp
  exact of_decide_eq_true (List.all_eq_true.1 h1.2 p hp)
theorem terms_some {A : Option Addr} {c : Nat} : (termsF (arcsF (beachE A c) ids5) 31 true [4] (arcF (beachE A c) 31)).isSome = true := by
 have h1 := rests_terms A c
 rcases h : termsF (arcsF (beachE A c) ids5) 31 true [4] (arcF (beachE A c) 31) with _ | l
 ·rw [h] at h1
  cases h1
 ·rfl
end Go.Proofs.YtfaoillnakhejaaGreat
