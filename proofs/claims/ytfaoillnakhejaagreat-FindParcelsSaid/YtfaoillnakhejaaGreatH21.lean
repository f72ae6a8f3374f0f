/- path: the search for a way. -/
import Derived.Test.YtfaoillnakhejaaGreatH20
import Derived.BigQuiet
import Derived.BigRegion
namespace Go.Proofs.YtfaoillnakhejaaGreat
set_option maxRecDepth 100000
open Go.RowKit
/-- What is asked of the nodes: the answer, and that only the note of the last one turns. -/
def Wants (w0 : World) (lb : Option Nat) (fid : FuncId) (caps : Array Value) (want : Int → Bool) : Prop :=
 ∀ (v : Int) (wr : World), w0.grownBy wr lb → (∀ b, lb = some b → ∃ u, Boxed wr b 3 u) → Calls Tryz.prog fid (#[.int .i64 v] ++ caps) wr fun e w' => e = .returned (.bool (want v)) ∧ w' = noted lb v wr
/-- The graph lies as it lay. -/
structure Lies (w0 : World) (lb : Option Nat) (g : Nat) (A : Option Addr) (c : Nat) (L : List Arc) (X : Option Addr) (xc : Nat) (x : List Int) : Prop where
 at_ : ∀ wr, w0.grownBy wr lb → GraphAt wr g A c L X x.length xc ∧ IntsAt wr X x
 len : L.length = x.length
 few : L.length ≤ 2000
 cap : x.length ≤ xc
/-- What path hands back. -/
def PathPost (w0 : World) (lb : Option Nat) (R : PathR) (e : Ending) (w' : World) : Prop :=
 w0.grownBy w' lb ∧ match R with
 | .way o last => (∃ v, e = .returned (.tuple #[v, .map none]) ∧ w'.ownsRow w0.heap.size 174 2 v o.length (flatS o)) ∧ ∀ b, lb = some b → Boxed w' b 3 (.int .i64 last)
 | .lost seen => ∃ r, e = .returned (.tuple #[.slice none 0 0, .map (some r)]) ∧ MapOf w' r Value.bool (setF seen)
/-- The two maps of the search, and what it begins from. -/
theorem path_start (w0 : World) {lb : Option Nat} (start : Int) (hlast : ∀ b, lb = some b → b < w0.heap.size ∧ ∃ u, Boxed w0 b 3 u) : ∃ W, (Instr.mapUpdate 69 (.map (some (w0.heap.size + 1))) (.int .i64 start) (.bool true)).run Tryz.prog ((w0.alloc (.map #[] 0)).alloc (.map #[] 0)) = .ok () W ∧
  PM w0 lb (W.alloc (.cells #[.int .i64 start] 3)) w0.heap.size (w0.heap.size + 1) ⟨withP (fun _ => false) start, fun _ => none, [start]⟩ (.slice (some ⟨W.heap.size, 0, none⟩) 1 1) := by
 have h1 : MapOf ((w0.alloc (.map #[] 0)).alloc (.map #[] 0)) (w0.alloc (.map #[] 0)).heap.size Value.bool (setF fun _ => false) := by rw [setF_none]; exact MapOf.new _
 have h2 : MapOf ((w0.alloc (.map #[] 0)).alloc (.map #[] 0)) w0.heap.size evS (fun _ => none) := (MapOf.new w0).below ((Below.refl _ _).alloc (Nat.le_refl _) _)
 rw [World.size_alloc] at h1
 obtain ⟨W, h3, h4, h5⟩ := h1.put mapB_u start true
 rw [← setF_with] at h4
 have hb : Below w0.heap.size w0 W := (((Below.refl _ w0).alloc (Nat.le_refl _) _).alloc (by simp) _).grown h5 (by simp; omega) (fun k e => by cases e; omega)
 exact ⟨W, h3, pm_start start hlast hb (h2.same (h5.block _ (by simp; omega) (by simp))) h4 (Nat.le_refl _) (by omega) (by omega)⟩
set_option maxHeartbeats 16000000 in
theorem path_any {w0 : World} {lb : Option Nat} {g : Nat} {A : Option Addr} {c : Nat} {L : List Arc} {X : Option Addr} {xc : Nat} {x : List Int} (hL : Lies w0 lb g A c L X xc x) (start : Int) {fid : FuncId} (hcf : Enters fid) {caps : Array Value} {want : Int → Bool} (hF : Wants w0 lb fid caps want)
  (hlast : ∀ b, lb = some b → b < w0.heap.size ∧ ∃ u, Boxed w0 b 3 u) (skip : Int) {R : PathR} (hR : pathOf L x start want skip = some R) :
  Calls Tryz.prog 126 #[.pointer (some ⟨g, 0, none⟩), .int .i64 start, .func (.func fid) #[] caps, .int .i64 skip] w0 (PathPost w0 lb R) := by
 have HL := hid hL
 have HF := hid hF
 have HLA := hid hlast
 unfold pathOf at hR
 obtain ⟨fuel, hfuel⟩ : ∃ n : Nat, n = 2000 := ⟨_, rfl⟩
 rw [← hfuel] at hR
 have HR := hid hR
 have hmm := @run_makeMap Tryz.prog
 unfold Enters at hcf
 clear hL hF hlast hR hfuel
 go_enter Tryz.func126, Tryz.ntmps126
 obtain ⟨W, hput, hpm⟩ := path_start w0 start HLA.out
 have HPM := hid hpm
 clear hpm
 go_upto_region 2 with (fail)
 go_upto_region 3 with (fail)
 clear hmm hput
 go_upto_region 4 with (fail)
 go_loopg [12] (fuel) (fun g rowv wr => ∃ (s : PS) (n : Nat), g = n ∧ Hid (PM w0 lb wr w0.heap.size (w0.heap.size + 1) s rowv) ∧ Hid (pathF L x start want skip n s = some R))
 case atStart => exact ⟨_, fuel, rfl, HPM, HR⟩
 case round =>
  obtain ⟨s, n, hgn, HP, HRn⟩ := hrel
  rcases n with _ | n
  ·have := HRn.out
   cases this
  ·have hrn := HRn.out
   unfold pathF at hrn
   rcases s with ⟨seen, by_, row⟩
   rcases row with _ | ⟨v, rest⟩
   ·dsimp only at hrn
    obtain ⟨gq, off, cap, cur, hv, _⟩ := HP.out.q
    subst hv
    have HRR := hid hrn
    clear hrn HRn
    dsimp only [List.length_nil]
    go_wp2_with fail
    go_ret2
    cases HRR.out
    exact ⟨HP.out.near, _, rfl, HP.out.ms⟩
   ·dsimp only at hrn
    obtain ⟨gq, off, cap, hv, hc0, hcap, hpm2⟩ := HP.out.pop
    subst hv
    have HRR := hid hrn
    obtain ⟨qa, hqa⟩ : ∃ qa, (if cap = 0 then some (⟨gq, off, none⟩ : Addr) else some ⟨gq, off + 1, none⟩) = qa := ⟨_, rfl⟩
    rw [hqa] at hpm2
    have HQA := hid hqa
    clear hqa
    have HP2 := hid hpm2
    have i0 : (0 : Int) < (rest.length : Int) + 1 := by omega
    clear hrn HRn HP hpm2
    go_upto_region 7 with (fail)
    rw [HQA.out]
    clear hc0 i0
    have HFV := hid (HF.out v wr HP2.out.near (fun b e => (HP2.out.last b e).2))
    go_wp2_with fail
    refine HFV.out.mono ?_
    rintro e w2 ⟨rfl, rfl⟩
    have HP3 := hid (HP2.out.noted v)
    have HNL := hid (noted_last HP2.out v)
    clear HFV
    rcases hw : want v with _ | _
    ·rw [hw] at HRR
     have hrr := HRR.out
     rw [if_neg (by simp)] at hrr
     by_cases hr1000 : 1000 < rest.length
     ·rw [if_pos hr1000] at hrr
      cases hrr
     rw [if_neg hr1000] at hrr
     have HRS := hid hrr
     have hrl : rest.length ≤ 1000 := by omega
     clear hrr HRR hr1000
     obtain ⟨W5, hW5⟩ : ∃ W5, noted lb v wr = W5 := ⟨_, rfl⟩
     rw [hW5] at HP3 HNL ⊢
     clear hW5 HNL
     obtain ⟨S0, hS0⟩ : ∃ S0 : PS, (⟨seen, by_, rest⟩ : PS) = S0 := ⟨_, rfl⟩
     rw [hS0] at HP3 HRS
     have hS0r : S0.row.length ≤ 1000 := by rw [← hS0]; exact hrl
     have hg5 := (HL.out.at_ W5 HP3.out.near).1
     obtain ⟨g0, _, _⟩ := hg5.at_
     have hgcap := hg5.cap
     have hLlen := HL.out.len
     have hLfew := HL.out.few
     have hxcap := HL.out.cap
     clear hS0 hg5 hrl hcap HP2
     go_upto_region 17 with fail
     clear g0
     go_loopg [12, 72] (L.length) (fun g rv iv wr => ∃ k : Nat, k ≤ L.length ∧ g = L.length - k ∧ iv = .int .i64 k ∧ Hid (PM w0 lb wr w0.heap.size (w0.heap.size + 1) (scanF L x v skip k S0) rv) ∧ Hid ((scanF L x v skip k S0).row.length ≤ 1000 + 2 * k))
     case atStart => exact ⟨0, by omega, by omega, rfl, HP3, hid hS0r⟩
     case round =>
      obtain ⟨k, hk, hgk, rfl, HPK, HRL⟩ := hrel
      by_cases hklt : k < L.length
      ·obtain ⟨sk, hsk⟩ : ∃ sk, scanF L x v skip k S0 = sk := ⟨_, rfl⟩
       have hsc : scanF L x v skip (k + 1) S0 = look1 L x v skip k sk := by rw [← hsk]; rfl
       rw [hsk] at HPK HRL
       obtain ⟨a, ha⟩ : ∃ a, L[k] = a := ⟨_, rfl⟩
       have hxk : k < x.length := by omega
       obtain ⟨xi, hxi⟩ : ∃ xi, x[k] = xi := ⟨_, rfl⟩
       have hl1 : look1 L x v skip k sk = if (k : Int) = skip then sk else bwd v a xi k (fwd v a xi k sk) := by
        unfold look1
        rw [List.getElem?_eq_getElem hklt, List.getElem?_eq_getElem hxk, ha, hxi]
       rw [hl1] at hsc
       have HSC := hid hsc
       obtain ⟨hgr, hix⟩ := HL.out.at_ wr HPK.out.near
       obtain ⟨b2, off2, hAe, hrg⟩ := hgr.arcs (by omega)
       subst hAe
       have hra := hrg k hklt
       rw [ha] at hra
       have HRA := hid hra
       have i0 : (0 : Int) ≤ k := by omega
       have i1 : (k : Int) < L.length := by omega
       clear hgr hix hrg hra hl1 hsc hsk ha
       go_upto_region 19 with (first | refine load_arc_mid rfl _ rfl _ _ rfl HRA.out ?_ | (refine store_arc_new rfl _ _ rfl rfl rfl (q := a) rfl rfl rfl ?_; intro W6 hax6 hb6 hlt6; have HAX := hid hax6; have HPM6 := hid (HPK.out.below hb6); clear hax6 hb6))
       go_frame
       by_cases hks : (k : Int) = skip
       ·have dk : ((k : Int) == skip) = true := beq_iff_eq.2 hks
        have HS2 : Hid (scanF L x v skip (k + 1) S0 = sk) := hid (by rw [HSC.out, if_pos hks])
        clear hks
        go_wp2_with fail
        go_roundg (L.length - (k + 1))
        case measure => omega
        case rel => exact ⟨k + 1, by omega, rfl, by go_num, by rw [HS2.out]; exact HPM6, hid (by have := HRL.out; rw [HS2.out]; omega)⟩
       ·have dk : ((k : Int) == skip) = false := beq_eq_false_iff_ne.2 hks
        have HS2 : Hid (scanF L x v skip (k + 1) S0 = bwd v a xi k (fwd v a xi k sk)) := hid (by rw [HSC.out, if_neg hks])
        clear hks HSC
        obtain ⟨hgr, hix⟩ := HL.out.at_ W6 HPM6.out.near
        have HG1 := hid hgr.at_.2.1
        obtain ⟨b3, off3, hXe, hrx⟩ := hix (by omega)
        subst hXe
        have HX1 := hid (hrx k hxk)
        rw [hxi] at HX1
        clear hgr hix hrx
        go_upto_region 20 with fail
        have j1 : (k : Int) < x.length := by omega
        obtain ⟨gb, hgb⟩ : ∃ gb, decide (a.from_ = v ∧ sk.seen a.to_ = false ∧ xi < a.hi) = gb := ⟨_, rfl⟩
        have HGB := hid hgb
        clear hgb
        go_cut [102] from 80 to 103 (fun r wx => r = .bool gb ∧ PM w0 lb wx w0.heap.size (w0.heap.size + 1) sk u12 ∧ ArcIs wx wr.heap.size a)
        case first =>
         have g1q := HG1.out
         have x1q := HX1.out
         obtain ⟨_, a1, a2, a3, a4⟩ := HAX.out.at_
         by_cases c1 : a.from_ = v
         ·have d1 : (a.from_ == v) = true := beq_iff_eq.2 c1
          have hlk := fun n => (HPM6.out.below (Below.drewN' (Below.refl _ _) n)).look a.to_
          rcases c2 : sk.seen a.to_ with _ | _
          ·simp only [c2] at hlk
           by_cases c3 : xi < a.hi
           ·have d3 : decide (xi < a.hi) = true := decide_eq_true c3
            have HZ : Hid (gb = true) := hid (by rw [← HGB.out]; exact decide_eq_true ⟨c1, c2, c3⟩)
            go_quiet (fail)
            go_wp2_with fail
            go_meet
            case rel => exact ⟨by rw [HZ.out], HPM6.out.below (Below.drewN' (Below.refl _ _) _), HAX.out.below (Below.drewN' (Below.refl _ _) _)⟩
           ·have d3 : decide (xi < a.hi) = false := decide_eq_false c3
            have HZ : Hid (gb = false) := hid (by rw [← HGB.out]; exact decide_eq_false fun h => c3 h.2.2)
            go_quiet (fail)
            go_wp2_with fail
            go_meet
            case rel => exact ⟨by rw [HZ.out], HPM6.out.below (Below.drewN' (Below.refl _ _) _), HAX.out.below (Below.drewN' (Below.refl _ _) _)⟩
          ·simp only [c2] at hlk
           have HZ : Hid (gb = false) := hid (by rw [← HGB.out]; exact decide_eq_false fun h => by rw [c2] at h; cases h.2.1)
           go_quiet (fail)
           go_wp2_with fail
           go_meet
           case rel => exact ⟨by rw [HZ.out], HPM6.out.below (Below.drewN' (Below.refl _ _) _), HAX.out.below (Below.drewN' (Below.refl _ _) _)⟩
         ·have d1 : (a.from_ == v) = false := beq_eq_false_iff_ne.2 c1
          have HZ : Hid (gb = false) := hid (by rw [← HGB.out]; exact decide_eq_false fun h => c1 h.1)
          go_quiet (fail)
          go_wp2_with fail
          go_meet
          case rel => exact ⟨by rw [HZ.out], HPM6.out.below (Below.drewN' (Below.refl _ _) _), HAX.out.below (Below.drewN' (Below.refl _ _) _)⟩
        case rest =>
         obtain ⟨rfl, hpq, haq⟩ := hcut
         have HPQ := hid hpq
         have HAQ := hid haq
         clear hpq haq
         go_upto_if 102 with (fail)
         go_cut [12] from 103 to 116 (fun rv wx => Hid (PM w0 lb wx w0.heap.size (w0.heap.size + 1) (fwd v a xi k sk) rv) ∧ Hid (ArcIs wx wr.heap.size a))
         case first =>
          rcases gb with _ | _
          ·have HFW : Hid (fwd v a xi k sk = sk) := hid (by unfold fwd; rw [if_neg (of_decide_eq_false HGB.out)])
           go_wp2_with fail
           go_meet
           case rel => exact ⟨by rw [HFW.out]; exact HPQ, HAQ⟩
          ·have HFW : Hid (fwd v a xi k sk = ⟨withP sk.seen a.to_, setAt sk.by_ a.to_ (k, 1), sk.row ++ [a.to_]⟩) := hid (by unfold fwd; rw [if_pos (of_decide_eq_true HGB.out)])
           go_upto_region 21 with (fail)
           have HP7 : Hid (PM w0 lb wc.drew w0.heap.size (w0.heap.size + 1) sk u12) := hid HPQ.out.drew
           have HA7 : Hid (ArcIs wc.drew wr.heap.size a) := hid (HAQ.out.below (Below.refl _ _).drew)
           obtain ⟨W8, r8, P8, k8, b8⟩ := HP7.out.putS a.to_
           obtain ⟨W9, r9, P9, k9, b9⟩ := P8.putB a.to_ (k, 1)
           have hrl9 : sk.row.length ≤ 100000 := by have := HRL.out; omega
           obtain ⟨v10, W10, r10, P10, e10⟩ := P9.push a.to_ hrl9
           have HA8 : Hid (ArcIs W8 wr.heap.size a) := hid (k8 _ _ _ _ HA7.out)
           have HA9 : Hid (ArcIs W9 wr.heap.size a) := hid (k9 _ _ _ _ HA8.out)
           have HA10 : Hid (ArcIs W10 wr.heap.size a) := hid (e10 _ _ _ _ HA9.out (by decide))
           have R8 := hid r8
           have R9 := hid r9
           have R10 := hid r10
           have P10 := hid P10
           clear r8 r9 r10 e10 k8 k9 b8 b9 P8 P9
           refine wp_region_noPanic ?_
           refine wp_region_held_drew (S := fun w' => w'.cell? ⟨wr.heap.size, 2, none⟩ = some (.int .i64 a.to_)) (by kernel_rfl) (HA7.out.at_.2.2.1) (fun hHeld => ?_)
           refine tk 0 (fun _ _ _ _ _ h => h) (by kernel_rfl) ‹_› ⟨_, ?_, by simp only [zz1, zz2]; rfl, .inl ⟨by rfl, ?_⟩, ?_⟩; rotate_left; · (intro w hSw; (try dsimp only at hSw); go_simp; all_goals with_reducible rfl)
           simp only [Act.put, zz4, zz5, zz6]
           refine tk 1 (fun _ _ _ _ _ h => h) (by kernel_rfl) ‹_› ⟨_, ?_, by simp only [zz1, zz2, zz3]; rfl, .inl ⟨by rfl, ?_⟩, ?_⟩; rotate_left; · (intro w hSw; (try dsimp only at hSw); go_simp; all_goals with_reducible rfl)
           simp only [Act.put, zz4, zz5, zz6]
           refine tk 2 (fun _ _ _ _ _ h => h) (by kernel_rfl) ‹_› ⟨_, ?_, by simp only [zz1, zz2, zz3]; rfl, .inl ⟨by rfl, ?_⟩, ?_⟩; rotate_left; · (intro w hSw; (try dsimp only at hSw); go_simp; all_goals with_reducible rfl)
           simp only [Act.put, zz4, zz5, zz6]
           refine tk 3 (fun _ _ _ _ _ h => h) (by kernel_rfl) ‹_› ⟨_, ?_, by simp only [zz1, zz2, zz3]; rfl, .inl ⟨by rfl, ?_⟩, ?_⟩; rotate_left; · (intro w hSw; (try dsimp only at hSw); go_simp; all_goals with_reducible rfl)
           simp only [Act.put, zz4, zz5, zz6]
           refine tk 4 (fun _ _ _ _ _ h => h) (by kernel_rfl) ‹_› ⟨_, ?_, by simp only [zz1, zz2, zz3]; rfl, .inl ⟨by rfl, ?_⟩, ?_⟩; rotate_left; · (intro w hSw; (try dsimp only at hSw); go_simp; all_goals with_reducible rfl)
           simp only [Act.put, zz4, zz5, zz6]
           refine tk 5 (fun _ _ _ _ _ h => h) (by kernel_rfl) ‹_› ⟨_, ?_, by simp only [zz1, zz2, zz3]; rfl, .inl ⟨by rfl, ?_⟩, ?_⟩; rotate_left; · (intro w hSw; (try dsimp only at hSw); go_simp; all_goals with_reducible rfl)
           simp only [Act.put, zz4, zz5, zz6]
           refine tk 6 (fun _ _ _ _ _ h => h) (by kernel_rfl) ‹_› ⟨_, ?_, by simp only [zz1, zz2, zz3]; rfl, .inl ⟨by rfl, ?_⟩, ?_⟩; rotate_left; · (intro w hSw; (try dsimp only at hSw); go_simp; all_goals with_reducible rfl)
           simp only [Act.put, zz4, zz5, zz6]
           refine tk 7 (fun _ _ _ _ _ h => h) (by kernel_rfl) ‹_› ⟨_, ?_, by simp only [zz1, zz2, zz3]; rfl, .inl ⟨by rfl, ?_⟩, ?_⟩; rotate_left; · (intro w hSw; (try dsimp only at hSw); go_simp; all_goals with_reducible rfl)
           simp only [Act.put, zz4, zz5, zz6]
           refine wpAnyH_ready (rs := [8]) (by kernel_rfl) (by simp) ?_
           refine cons_one (i := 8) ⟨_, by simp only [zz1, zz2, zz3]; rfl, fun K hK => ?_⟩ ?_
           rotate_left
           ·exact AllReadyH.nil
           refine step_put rfl _ _ _ rfl ?hx ?hk ?hy R8.out ?_
           case hx => simp [Act.eval]
           case hk => simp [Act.eval]
           case hy => simp [Act.eval]
           clear hHeld
           refine hK.out _ _ (HA8.out.at_.2.2.1) (fun hHeld => ?_)
           clear hK K
           try simp only [Act.put]
           refine wpAnyH_ready (rs := [9]) (by kernel_rfl) (by simp) ?_
           refine cons_one (i := 9) ⟨_, by simp only [zz1, zz2, zz3]; rfl, fun K hK => ?_⟩ ?_
           rotate_left
           ·exact AllReadyH.nil
           refine step_put rfl _ _ _ rfl ?hx ?hk ?hy R9.out ?_
           case hx => simp [Act.eval]
           case hk => simp [Act.eval]
           case hy => simp [Act.eval]
           clear hHeld
           refine hK.out _ _ (HA9.out.at_.2.2.1) (fun hHeld => ?_)
           clear hK K
           try simp only [Act.put]
           have c10 := HA9.out.at_.2.2.1
           refine wpAnyH_done (by kernel_rfl) ?_ _
           refine NoPanic.normal ?_
           go_wp2_with (first | (at_builtin; refine wpList_app rfl rfl rfl rfl rfl R10.out ?_))
           go_meet
           case rel => exact ⟨by rw [HFW.out]; exact P10, HA10⟩
         case rest =>
          obtain ⟨hpm7, hax7⟩ := hcut
          obtain ⟨s1, hs1⟩ : ∃ s1, fwd v a xi k sk = s1 := ⟨_, rfl⟩
          have HRL1 : Hid (s1.row.length ≤ 1001 + 2 * k) := hid (by
           have h1 := fwd_row v a xi k sk
           have h2 := HRL.out
           rw [← hs1]
           omega)
          rw [hs1] at hpm7 HS2
          have HPM7 := hid hpm7.out
          have HAX7 := hid hax7.out
          clear hpm7 hax7 hs1 HG1 HX1 HPQ HAQ HGB HAX HPM6
          obtain ⟨hgr, hix⟩ := HL.out.at_ wc HPM7.out.near
          have HG1 := hid hgr.at_.2.1
          obtain ⟨b4, off4, hXe, hrx⟩ := hix (by omega)
          cases hXe
          have HX1 := hid (hrx k hxk)
          rw [hxi] at HX1
          clear hgr hix hrx
          go_upto_region 23 with fail
          obtain ⟨gb, hgb⟩ : ∃ gb, decide (a.to_ = v ∧ s1.seen a.from_ = false ∧ a.lo < xi) = gb := ⟨_, rfl⟩
          have HGB := hid hgb
          clear hgb
          go_cut [138] from 116 to 139 (fun r wx => r = .bool gb ∧ PM w0 lb wx w0.heap.size (w0.heap.size + 1) s1 u12 ∧ ArcIs wx wr.heap.size a)
          case first =>
           have g1q := HG1.out
           have x1q := HX1.out
           obtain ⟨_, a1, a2, a3, a4⟩ := HAX7.out.at_
           by_cases c1 : a.to_ = v
           ·have d1 : (a.to_ == v) = true := beq_iff_eq.2 c1
            have hlk := fun n => (HPM7.out.below (Below.drewN' (Below.refl _ _) n)).look a.from_
            rcases c2 : s1.seen a.from_ with _ | _
            ·simp only [c2] at hlk
             by_cases c3 : a.lo < xi
             ·have d3 : decide (a.lo < xi) = true := decide_eq_true c3
              have HZ : Hid (gb = true) := hid (by rw [← HGB.out]; exact decide_eq_true ⟨c1, c2, c3⟩)
              go_quiet (fail)
              go_wp2_with fail
              go_meet
              case rel => exact ⟨by rw [HZ.out], HPM7.out.below (Below.drewN' (Below.refl _ _) _), HAX7.out.below (Below.drewN' (Below.refl _ _) _)⟩
             ·have d3 : decide (a.lo < xi) = false := decide_eq_false c3
              have HZ : Hid (gb = false) := hid (by rw [← HGB.out]; exact decide_eq_false fun h => c3 h.2.2)
              go_quiet (fail)
              go_wp2_with fail
              go_meet
              case rel => exact ⟨by rw [HZ.out], HPM7.out.below (Below.drewN' (Below.refl _ _) _), HAX7.out.below (Below.drewN' (Below.refl _ _) _)⟩
            ·simp only [c2] at hlk
             have HZ : Hid (gb = false) := hid (by rw [← HGB.out]; exact decide_eq_false fun h => by rw [c2] at h; cases h.2.1)
             go_quiet (fail)
             go_wp2_with fail
             go_meet
             case rel => exact ⟨by rw [HZ.out], HPM7.out.below (Below.drewN' (Below.refl _ _) _), HAX7.out.below (Below.drewN' (Below.refl _ _) _)⟩
           ·have d1 : (a.to_ == v) = false := beq_eq_false_iff_ne.2 c1
            have HZ : Hid (gb = false) := hid (by rw [← HGB.out]; exact decide_eq_false fun h => c1 h.1)
            go_quiet (fail)
            go_wp2_with fail
            go_meet
            case rel => exact ⟨by rw [HZ.out], HPM7.out.below (Below.drewN' (Below.refl _ _) _), HAX7.out.below (Below.drewN' (Below.refl _ _) _)⟩
          case rest =>
           obtain ⟨rfl, hpq, haq⟩ := hcut
           have HPQ := hid hpq
           have HAQ := hid haq
           clear hpq haq
           go_upto_if 138 with (fail)
           rcases gb with _ | _
           ·have HFW : Hid (bwd v a xi k s1 = s1) := hid (by unfold bwd; rw [if_neg (of_decide_eq_false HGB.out)])
            go_wp2_with fail
            go_roundg (L.length - (k + 1))
            case measure => omega
            case rel => exact ⟨k + 1, by omega, rfl, by go_num, by rw [HS2.out, HFW.out]; exact HPQ, hid (by
             have h1 := bwd_row v a xi k s1
             have h2 := HRL1.out
             rw [HS2.out]
             omega)⟩
           ·have HFW : Hid (bwd v a xi k s1 = ⟨withP s1.seen a.from_, setAt s1.by_ a.from_ (k, -1), s1.row ++ [a.from_]⟩) := hid (by unfold bwd; rw [if_pos (of_decide_eq_true HGB.out)])
            go_upto_region 24 with (fail)
            have HP7 : Hid (PM w0 lb wc.drew w0.heap.size (w0.heap.size + 1) s1 u12) := hid HPQ.out.drew
            have HA7 : Hid (ArcIs wc.drew wr.heap.size a) := hid (HAQ.out.below (Below.refl _ _).drew)
            obtain ⟨W8, r8, P8, k8, b8⟩ := HP7.out.putS a.from_
            obtain ⟨W9, r9, P9, k9, b9⟩ := P8.putB a.from_ (k, -1)
            have hrl9 : s1.row.length ≤ 100000 := by have := HRL1.out; omega
            obtain ⟨v10, W10, r10, P10, e10⟩ := P9.push a.from_ hrl9
            have HA8 : Hid (ArcIs W8 wr.heap.size a) := hid (k8 _ _ _ _ HA7.out)
            have HA9 : Hid (ArcIs W9 wr.heap.size a) := hid (k9 _ _ _ _ HA8.out)
            have R8 := hid r8
            have R9 := hid r9
            have R10 := hid r10
            have P10 := hid P10
            clear r8 r9 r10 e10 k8 k9 b8 b9 P8 P9
            refine wp_region_noPanic ?_
            refine wp_region_held_drew (S := fun w' => w'.cell? ⟨wr.heap.size, 1, none⟩ = some (.int .i64 a.from_)) (by kernel_rfl) (HA7.out.at_.2.1) (fun hHeld => ?_)
            refine tk 0 (fun _ _ _ _ _ h => h) (by kernel_rfl) ‹_› ⟨_, ?_, by simp only [zz1, zz2]; rfl, .inl ⟨by rfl, ?_⟩, ?_⟩; rotate_left; · (intro w hSw; (try dsimp only at hSw); go_simp; all_goals with_reducible rfl)
            simp only [Act.put, zz4, zz5, zz6]
            refine tk 1 (fun _ _ _ _ _ h => h) (by kernel_rfl) ‹_› ⟨_, ?_, by simp only [zz1, zz2, zz3]; rfl, .inl ⟨by rfl, ?_⟩, ?_⟩; rotate_left; · (intro w hSw; (try dsimp only at hSw); go_simp; all_goals with_reducible rfl)
            simp only [Act.put, zz4, zz5, zz6]
            refine tk 2 (fun _ _ _ _ _ h => h) (by kernel_rfl) ‹_› ⟨_, ?_, by simp only [zz1, zz2, zz3]; rfl, .inl ⟨by rfl, ?_⟩, ?_⟩; rotate_left; · (intro w hSw; (try dsimp only at hSw); go_simp; all_goals with_reducible rfl)
            simp only [Act.put, zz4, zz5, zz6]
            refine tk 3 (fun _ _ _ _ _ h => h) (by kernel_rfl) ‹_› ⟨_, ?_, by simp only [zz1, zz2, zz3]; rfl, .inl ⟨by rfl, ?_⟩, ?_⟩; rotate_left; · (intro w hSw; (try dsimp only at hSw); go_simp; all_goals with_reducible rfl)
            simp only [Act.put, zz4, zz5, zz6]
            refine tk 4 (fun _ _ _ _ _ h => h) (by kernel_rfl) ‹_› ⟨_, ?_, by simp only [zz1, zz2, zz3]; rfl, .inl ⟨by rfl, ?_⟩, ?_⟩; rotate_left; · (intro w hSw; (try dsimp only at hSw); go_simp; all_goals with_reducible rfl)
            simp only [Act.put, zz4, zz5, zz6]
            refine tk 5 (fun _ _ _ _ _ h => h) (by kernel_rfl) ‹_› ⟨_, ?_, by simp only [zz1, zz2, zz3]; rfl, .inl ⟨by rfl, ?_⟩, ?_⟩; rotate_left; · (intro w hSw; (try dsimp only at hSw); go_simp; all_goals with_reducible rfl)
            simp only [Act.put, zz4, zz5, zz6]
            refine tk 6 (fun _ _ _ _ _ h => h) (by kernel_rfl) ‹_› ⟨_, ?_, by simp only [zz1, zz2, zz3]; rfl, .inl ⟨by rfl, ?_⟩, ?_⟩; rotate_left; · (intro w hSw; (try dsimp only at hSw); go_simp; all_goals with_reducible rfl)
            simp only [Act.put, zz4, zz5, zz6]
            refine tk 7 (fun _ _ _ _ _ h => h) (by kernel_rfl) ‹_› ⟨_, ?_, by simp only [zz1, zz2, zz3]; rfl, .inl ⟨by rfl, ?_⟩, ?_⟩; rotate_left; · (intro w hSw; (try dsimp only at hSw); go_simp; all_goals with_reducible rfl)
            simp only [Act.put, zz4, zz5, zz6]
            refine wpAnyH_ready (rs := [8]) (by kernel_rfl) (by simp) ?_
            refine cons_one (i := 8) ⟨_, by simp only [zz1, zz2, zz3]; rfl, fun K hK => ?_⟩ ?_
            rotate_left
            ·exact AllReadyH.nil
            refine step_put rfl _ _ _ rfl ?hx ?hk ?hy R8.out ?_
            case hx => simp [Act.eval]
            case hk => simp [Act.eval]
            case hy => simp [Act.eval]
            clear hHeld
            refine hK.out _ _ (HA8.out.at_.2.1) (fun hHeld => ?_)
            clear hK K
            try simp only [Act.put]
            refine wpAnyH_ready (rs := [9]) (by kernel_rfl) (by simp) ?_
            refine cons_one (i := 9) ⟨_, by simp only [zz1, zz2, zz3]; rfl, fun K hK => ?_⟩ ?_
            rotate_left
            ·exact AllReadyH.nil
            refine step_put rfl _ _ _ rfl ?hx ?hk ?hy R9.out ?_
            case hx => simp [Act.eval]
            case hk => simp [Act.eval]
            case hy => simp [Act.eval]
            clear hHeld
            refine hK.out _ _ (HA9.out.at_.2.1) (fun hHeld => ?_)
            clear hK K
            try simp only [Act.put]
            have c10 := HA9.out.at_.2.1
            refine wpAnyH_done (by kernel_rfl) ?_ _
            refine NoPanic.normal ?_
            go_wp2_with (first | (at_builtin; refine wpList_app rfl rfl rfl rfl rfl R10.out ?_))
            go_roundg (L.length - (k + 1))
            case measure => omega
            case rel => exact ⟨k + 1, by omega, rfl, by go_num, by rw [HS2.out, HFW.out]; exact P10, hid (by
             have h1 := bwd_row v a xi k s1
             have h2 := HRL1.out
             rw [HS2.out]
             omega)⟩
      ·obtain rfl : k = L.length := by omega
       go_wp2_with fail
       go_roundg n
       case measure => omega
       case rel => exact ⟨_, n, rfl, HPK, HRS⟩
    ·rw [hw] at HRR
     have hrr := HRR.out
     rw [if_pos rfl] at hrr
     obtain ⟨o, ho, hRo⟩ := Option.map_eq_some_iff.1 hrr
     subst hRo
     have HO := hid ho
     clear hrr HRR ho
     obtain ⟨W5, hW5⟩ : ∃ W5, noted lb v wr = W5 := ⟨_, rfl⟩
     rw [hW5] at HP3 HNL ⊢
     clear hW5
     have HT := hid (HP3.out.trace HNL.out)
     have hsz5 := HP3.out.size
     clear hcap
     go_upto_region 9 with fail
     go_loopg [13, 14] (400) (fun g vv ov wr' => ∃ (m : Nat) (vn : Int) (out : List Step), g = m ∧ vv = .int .i64 vn ∧ Hid (traceF L start by_ m vn out = some o) ∧ Hid (wr'.ownsRow w0.heap.size 174 2 ov out.length (flatS out)) ∧ Hid (TB w0 lb wr' w0.heap.size by_ v))
     case atStart => exact ⟨400, v, [], rfl, rfl, HO, hid ⟨rfl, .inl ⟨rfl, rfl⟩⟩, HT⟩
     case round =>
      obtain ⟨m, vn, out, hgm, rfl, HO2, HOW, HTB⟩ := hrel
      rcases m with _ | m
      ·have := HO2.out
       cases this
      have ho2 := HO2.out
      unfold traceF at ho2
      by_cases hvs : vn = start
      ·rw [if_pos hvs] at ho2
       obtain ⟨A7, k7, hv7, hx1⟩ := ownsRow.form HOW.out
       have HOW2 := HOW.out
       subst hv7
       have HOW2 := hid HOW2
       clear hx1 HOW
       have hne : (vn != start) = false := by simp [hvs]
       have HOO := hid ho2
       clear hvs ho2 HO2
       go_wp2_with fail
       go_ret2
       cases HOO.out
       exact ⟨HTB.out.near, ⟨_, rfl, HOW2.out⟩, fun b e => (HTB.out.last b e).2⟩
      ·rw [if_neg hvs] at ho2
       have hol : out.length ≤ 400 := by
        have := HO2.out
        have h3 := (traceF_len HO2.out).1
        have h4 := (traceF_len HO.out).2
        simp at h4
        omega
       have hlk := HTB.out.lookB vn
       obtain ⟨⟨sa, sw⟩, hsa⟩ : ∃ q, (by_ vn).getD (0, 0) = q := ⟨_, rfl⟩
       rw [hsa] at hlk ho2
       dsimp only at ho2
       rcases hLa : L[sa]? with _ | a
       ·rw [hLa] at ho2
        cases ho2
       rw [hLa] at ho2
       dsimp only at ho2
       obtain ⟨hsl, hLg⟩ := List.getElem?_eq_some_iff.1 hLa
       have hne : (vn != start) = true := bne_iff_ne.2 hvs
       have HOO := hid ho2
       have HLG := hid hLg
       clear hvs ho2 HO2 hsa hLa hLg
       go_upto_region 11 with (first | (refine store_step_new rfl _ _ rfl rfl rfl (q := (sa, sw)) rfl rfl ?_; intro W6 hst6 hb6 hlt6; have HS6 := hid hst6; have HTB6 := hid (HTB.out.below hb6); have HOW6 := hid (own_below HOW.out hb6); clear hb6 hst6))
       obtain ⟨v7, w7, hr7, ho7, hb7, hk7, hf7⟩ := app_step (sa, sw) HOW6.out (by omega) HTB6.out.near.size
       obtain ⟨g8, c8, rfl⟩ : ∃ g8 c8, v7 = .slice (some ⟨g8, 0, none⟩) (out.length + 1) c8 := ownsRow_succ (by simpa using ho7)
       have HR7 := hid hr7
       have HO7 := hid ho7
       have HTB7 := hid (HTB6.out.on hb7 hk7)
       have hob : ∀ k, u14.ownBlock = some k → k < wr.heap.size := fun k e => (HOW.out.lt k e).2
       have hst7 : StepIs w7 wr.heap.size (sa, sw) := (hf7 _ HS6.out.lt (fun e => by have := hob _ e; omega)).trans HS6.out
       have HST7 := hid hst7
       have hof : u14 = u14 := rfl
       obtain ⟨A9, k9, hv9, hx9⟩ := ownsRow.form HOW.out
       subst hv9
       have hln : (out ++ [(sa, sw)]).length = out.length + 1 := by simp
       rw [hln] at ho7
       have HO7 := hid ho7
       clear hr7 ho7 hb7 hk7 hf7 hob hst7 hof hx9 hlk
       go_upto_region 12 with (first | refine load_step rfl _ rfl _ rfl HS6.out ?_ | refine build_step rfl _ rfl (r := (sa, sw)) rfl ?_ | (at_builtin; refine wpList_app rfl rfl rfl rfl rfl HR7.out ?_))
       have hGA := (HL.out.at_ w7 HTB7.out.near).1
       obtain ⟨g0, _, _⟩ := hGA.at_
       obtain ⟨b2, off2, hAe, hrg⟩ := hGA.arcs (by omega)
       subst hAe
       have hra := hrg sa hsl
       rw [HLG.out] at hra
       have a1 := hra 1 _ rfl
       have a2 := hra 2 _ rfl
       obtain ⟨s0, s1⟩ := HST7.out.at_
       have hgcap := hGA.cap
       have i0 : (0 : Int) ≤ sa := by omega
       have i1 : (sa : Int) < L.length := by omega
       clear hGA hrg hra
       by_cases hsw : 0 < sw
       ·have hswd : decide (0 < sw) = true := decide_eq_true hsw
        have HOO2 := HOO.out
        rw [if_pos hsw] at HOO2
        have HOO2 := hid HOO2
        clear HOO hsw
        go_upto_region 13 with (fail)
        go_quiet (fail)
        go_wp2_with fail
        go_roundg m
        case measure => omega
        case rel => exact ⟨m, a.from_, out ++ [(sa, sw)], rfl, rfl, HOO2, hid (by rw [hln]; exact HO7.out), hid (HTB7.out.below (Below.drewN' (Below.refl _ _) _))⟩
       ·have hswd : decide (0 < sw) = false := decide_eq_false hsw
        have HOO2 := HOO.out
        rw [if_neg hsw] at HOO2
        have HOO2 := hid HOO2
        clear HOO hsw
        go_upto_region 14 with (fail)
        go_quiet (fail)
        go_wp2_with fail
        go_roundg m
        case measure => omega
        case rel => exact ⟨m, a.to_, out ++ [(sa, sw)], rfl, rfl, HOO2, hid (by rw [hln]; exact HO7.out), hid (HTB7.out.below (Below.drewN' (Below.refl _ _) _))⟩
end Go.Proofs.YtfaoillnakhejaaGreat
