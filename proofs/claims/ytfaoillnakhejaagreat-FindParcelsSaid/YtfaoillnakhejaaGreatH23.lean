/- raise and sink: the greatest and the least amount of an arc; balance, the plain part and its memory: what goes in and out of the nodes. -/
import Derived.Test.YtfaoillnakhejaaGreatH21
import Derived.Test.YtfaoillnakhejaaGreatH22
import Derived.Test.YtfaoillnakhejaaGreatH20
import Derived.Laws.Cover3
namespace Go.Proofs.YtfaoillnakhejaaGreat
set_option maxRecDepth 100000
open Go.RowKit
/-- An arc's amount driven up, or down, as far as it goes: the amounts, and what is seen where it stops. -/
def driveF (L : List Arc) (i : Nat) (a : Arc) (up : Bool) : Nat → List Int → Option (List Int × Option (Int → Bool))
 | 0, _ => none
 | n + 1, x => match x[i]? with
  | none => none
  | some xi => if (if up then xi < a.hi else a.lo < xi) then
    match pathOf L x (if up then a.to_ else a.from_) (fun v => v == (if up then a.from_ else a.to_)) i with
    | none => none
    | some (.lost seen) => some (x, some seen)
    | some (.way o _) => match roomF L x o (if up then a.hi - xi else xi - a.lo) with
     | none => none
     | some m => if okN m = true then match leadF m o x with
      | none => none
      | some y => match y[i]? with
       | none => none
       | some yi => if okN (if up then yi + m else yi - m) = true then driveF L i a up n (y.set i (if up then yi + m else yi - m)) else none
      else none
   else some (x, none)
def sideV (C : List Rep) : Option (Int → Bool) → List Int
 | none => []
 | some seen => sideF C seen
theorem raise1_any {w : World} {b : Nat} {a : Arc} (h : ArcIs w b a) (v : Int) : Calls Tryz.prog 147 #[.int .i64 v, .pointer (some ⟨b, 0, none⟩)] w fun e w' => e = .returned (.bool (v == a.from_)) ∧ w' = w := by
 obtain ⟨_, a1, _⟩ := h.at_
 clear h
 go_enter Tryz.func147, Tryz.ntmps147
 go_wp2_with fail
 go_ret
 exact ⟨rfl, rfl⟩
theorem sink1_any {w : World} {b : Nat} {a : Arc} (h : ArcIs w b a) (v : Int) : Calls Tryz.prog 146 #[.int .i64 v, .pointer (some ⟨b, 0, none⟩)] w fun e w' => e = .returned (.bool (v == a.to_)) ∧ w' = w := by
 obtain ⟨_, _, a2, _⟩ := h.at_
 clear h
 go_enter Tryz.func146, Tryz.ntmps146
 go_wp2_with fail
 go_ret
 exact ⟨rfl, rfl⟩
theorem below_of_none {w w' : World} (h : w.grownBy w' none) : Below w.heap.size w w' := (Below.refl _ w).grown h (Nat.le_refl _) (fun k e => by cases e)
theorem pathF_len {L : List Arc} {x : List Int} {start : Int} {want : Int → Bool} {skip : Int} : ∀ {n : Nat} {s : PS} {o : List Step} {v : Int}, pathF L x start want skip n s = some (.way o v) → o.length ≤ 400
 | 0, _, _, _, h => by cases h
 | n + 1, s, o, v, h => by
  unfold pathF at h
  split at h
  ·cases h
  ·split at h
   ·obtain ⟨o', ho, e⟩ := Option.map_eq_some_iff.1 h
    cases e
    have := (traceF_len ho).2
    simpa using this
   ·split at h
    ·cases h
    ·exact pathF_len h
theorem neq_nil (m : Option Nat) (w : World) : (binOp .neq 69 (.map m) (.map none)).run Tryz.prog w = .ok (.bool (!m.isNone)) w := run_neq_map_nil w _ _ _ m mapB_u
theorem enters_raise1 : Enters 147 := fun args w => by kernel_rfl
theorem enters_sink1 : Enters 146 := fun args w => by kernel_rfl
theorem enters_room : Enters 129 := fun args w => by kernel_rfl
set_option maxHeartbeats 16000000 in
theorem raise_any {w : World} {bb s r1 r2 r3 r4 : Nat} {As : Option Addr} {cap : Nat} {C : List Ent} {ids : List Int} (hcl : C.length ≤ 210) {g : Nat} {A : Option Addr} {c : Nat} {L : List Arc} {xb : Nat} {x : List Int} (hG : GX w g A c L xb x) (hbx : ∀ wr, w.grownBy wr (some xb) → LooksAt wr bb s r1 r2 r3 r4 As cap C ids)
  (hlx : L.length = x.length ∧ L.length ≤ 2000) (hgd : GoodN L x) (i : Nat) (hi : i < L.length) {fuel : Nat} {x' : List Int} {sn : Option (Int → Bool)} (hR : driveF L i L[i] true fuel x = some (x', sn)) :
  Calls Tryz.prog 104 #[.pointer (some ⟨bb, 0, none⟩), .pointer (some ⟨g, 0, none⟩), .int .i64 i] w fun e w' => (∃ v, e = .returned v ∧ w'.ownsRow w.heap.size 3 1 v (sideV (reps C) sn).length (ints (sideV (reps C) sn))) ∧ GX w' g A c L xb x' ∧ w.grownBy w' (some xb) ∧ x'.length = x.length ∧ GoodN L x' := by
 have HBX := hid hbx
 have HG := hid hG
 have HGD := hid hgd
 obtain ⟨hLx, hLf⟩ := hlx
 obtain ⟨a, ha⟩ : ∃ a, L[i] = a := ⟨_, rfl⟩
 have HGA := hid (hgd.2 a (by rw [← ha]; exact List.getElem_mem hi))
 rw [ha] at hR
 have HR := hid hR
 obtain ⟨g0, _, _⟩ := hG.graph.1.at_
 have hcapA := hG.cap
 have hxbl := hG.lt.2
 obtain ⟨b2, off2, hAe, hrg⟩ := hG.arcs (by omega)
 subst hAe
 have hra := hrg i hi
 rw [ha] at hra
 have HRA := hid hra
 have i0 : (0 : Int) ≤ i := by omega
 have i1 : (i : Int) < L.length := by omega
 clear hG hbx hgd hR hrg hra ha
 go_enter Tryz.func104, Tryz.ntmps104
 go_upto_region 2 with (first | refine load_arc_mid rfl _ rfl _ _ rfl HRA.out ?_ | (refine store_arc_new rfl _ _ rfl rfl rfl (q := a) rfl rfl rfl ?_; intro W1 hax1 hb1 hlt1; have HAX := hid hax1; have HG1 := hid (HG.out.below hb1); have HB1 := hid (grown_some (r := xb) hb1); clear hax1 hb1))
 clear g0
 go_frame
 go_loopg [] (fuel) (fun gm wr => ∃ (n : Nat) (y : List Int), gm = n ∧ Hid (driveF L i a true n y = some (x', sn)) ∧ Hid (GX wr g (some ⟨b2, off2, none⟩) c L xb y) ∧ Hid (w.grownBy wr (some xb)) ∧ Hid (ArcIs wr w.heap.size a) ∧ Hid (GoodN L y) ∧ y.length = x.length)
 case atStart => exact ⟨fuel, x, rfl, HR, HG1, HB1, HAX, HGD, rfl⟩
 case round =>
  obtain ⟨n, y, hgn, HRn, HGY, HGW, HAY, HGO, hyl⟩ := hrel
  rcases n with _ | n
  ·have := HRn.out
   cases this
  have hrn := HRn.out
  unfold driveF at hrn
  have hiy : i < y.length := by omega
  obtain ⟨xi, hxi⟩ : ∃ xi, y[i] = xi := ⟨_, rfl⟩
  rw [List.getElem?_eq_getElem hiy, hxi] at hrn
  dsimp only at hrn
  obtain ⟨_, g1, gf⟩ := HGY.out.graph.1.at_
  obtain ⟨b3, off3, hXe, hrx⟩ := HGY.out.graph.2 (by omega)
  cases hXe
  have hxx := hrx i hiy
  rw [hxi, Nat.zero_add] at hxx
  have HXX := hid hxx
  obtain ⟨a0, a1, a2, a3, a4⟩ := HAY.out.at_
  have j1 : (i : Int) < y.length := by omega
  have hokx := okN_le (HGO.out.1 xi (by rw [← hxi]; exact List.getElem_mem hiy))
  have hoklo := okN_le HGA.out.1
  have hokhi := okN_le HGA.out.2
  clear hrx
  by_cases hcmp : xi < a.hi
  ·have hcd : decide (xi < a.hi) = true := decide_eq_true hcmp
   rw [if_pos (by simpa using hcmp)] at hrn
   have HRN := hid hrn
   have HXI := hid hxi
   clear hrn HRn hxi hcmp
   go_upto_region 2 with (fail)
   go_quiet (fail)
   go_upto_region 3 with (fail)
   obtain ⟨W2, hW2⟩ : ∃ W2, wr.drewN nq = W2 := ⟨_, rfl⟩
   have hb2 : Below wr.heap.size wr W2 := by rw [← hW2]; exact Below.drewN' (Below.refl _ _) _
   have HG2 := hid (HGY.out.below hb2)
   have HA2 := hid (HAY.out.below hb2)
   have HW2 := hid (HGW.out.trans (grown_some (r := xb) hb2))
   rw [hW2]
   clear hW2 hb2 g1 gf hxx a0 a1 a2 a3 a4 hcd
   have hbw2 := HW2.out.size
   obtain ⟨_, a1, a2, _, _⟩ := HA2.out.at_
   have hLies : Lies W2 none g (some ⟨b2, off2, none⟩) c L (some ⟨xb, 0, none⟩) y.length y :=
    ⟨fun wr' hg' => (HG2.out.below (below_of_none hg')).graph, by omega, hLf, Nat.le_refl _⟩
   have hWants : Wants W2 none 147 #[.pointer (some ⟨w.heap.size, 0, none⟩)] (fun v => v == a.from_) := fun v wr' hg' _ => raise1_any (HA2.out.below (below_of_none hg')) v
   rcases hpo : pathOf L y a.to_ (fun v => v == a.from_) i with _ | R
   ·have := HRN.out
    simp only [↓reduceIte] at this
    rw [hpo] at this
    cases this
   have HPA := hid (path_any hLies a.to_ enters_raise1 hWants (fun b e => by cases e) i hpo)
   have hrr := HRN.out
   simp only [↓reduceIte] at hrr
   rw [hpo] at hrr
   have HRR := hid hrr
   have HPO := hid hpo
   clear hLies hWants hpo hrr HRN
   have HYL := hid hyl
   clear hyl
   go_wp2_with fail
   refine HPA.out.mono ?_
   rintro e w3 hpost
   clear HPA
   have hyl := HYL.out
   rcases R with ⟨o, last⟩ | seen
   ·obtain ⟨hnear, ⟨v3, rfl, ho3⟩, _⟩ := hpost
    obtain ⟨A7, k7, rfl, hx1, hx2, hx3⟩ := ownsRow.form ho3
    have hol : o.length ≤ 400 := pathF_len HPO.out
    have hrr := HRR.out
    dsimp only at hrr
    rcases hro : roomF L y o (a.hi - xi) with _ | m
    ·rw [hro] at hrr
     cases hrr
    rw [hro] at hrr
    dsimp only at hrr
    by_cases hom : okN m = true
    case neg =>
     rw [if_neg hom] at hrr
     cases hrr
    rw [if_pos hom] at hrr
    rcases hle : leadF m o y with _ | y1
    ·rw [hle] at hrr
     cases hrr
    rw [hle] at hrr
    dsimp only at hrr
    have hl1 := leadF_len hle
    have hiy1 : i < y1.length := by omega
    obtain ⟨yi, hyi⟩ : ∃ yi, y1[i] = yi := ⟨_, rfl⟩
    rw [List.getElem?_eq_getElem hiy1, hyi] at hrr
    dsimp only at hrr
    by_cases hoy : okN (yi + m) = true
    case neg =>
     rw [if_neg hoy] at hrr
     cases hrr
    rw [if_pos hoy] at hrr
    have hokm := okN_le hom
    have hoky := okN_le hoy
    have hg1 := leadF_good hle HGO.out.1
    have hokyi := okN_le (hg1 yi (by rw [← hyi]; exact List.getElem_mem hiy1))
    have HG3 := hid (HG2.out.below (below_of_none hnear))
    have HA3 := hid (HA2.out.below (below_of_none hnear))
    have HW3 := hid (HW2.out.trans (grown_some (r := xb) (below_of_none hnear)))
    have HST := hid (steps_of_cells hx1)
    have HX3 := hid hx3
    have HRR := hid hrr
    have HG1 := hid hg1
    have HYI := hid hyi
    have hww : IntKind.i64.wrap (a.hi - xi) = a.hi - xi := by
     simp only [IntKind.wrap, IntKind.bits, IntKind.signed]
     simp
     omega
    have HRM := hid (room_any (HG3.out.below (Below.refl _ _).drew).graph.1 (HG3.out.below (Below.refl _ _).drew).graph.2 (by omega) HGO.out (sc := k7) (HST.out.kept (Kept.of_below (Below.refl _ _).drew)) (by omega) (a.hi - xi) hro)
    have HLE := hid hle
    have HL1 := hid hl1
    have HLX := hid hLx
    have hxx3 : w3.cell? ⟨xb, i, none⟩ = some (.int .i64 xi) := by
     have := HXX.out
     obtain ⟨b4, off4, e4, hr4⟩ := HG3.out.graph.2 (by omega)
     cases e4
     have := hr4 i hiy
     rw [HXI.out, Nat.zero_add] at this
     exact this
    have HXX3 := hid hxx3
    clear hx1 hx2 hx3 ho3 hrr hro hle hyi hnear hg1 a1 a2 hxx3 hyl hLx hl1
    have hnn := neq_nil none
    simp only [Option.isNone_none, Bool.not_true] at hnn
    go_upto_region 6 with (fail)
    refine wp_region_noPanic ?_
    refine wp_region_held_drew (S := fun w' => w'.cell? ⟨w.heap.size, 4, none⟩ = some (.int .i64 a.hi) ∧ w'.cell? ⟨g, 1, none⟩ = some (.slice (some ⟨xb, 0, none⟩) y.length y.length) ∧ w'.cell? ⟨xb, i, none⟩ = some (.int .i64 xi)) (by kernel_rfl) (⟨(HA3.out.below (Below.refl _ _).drew).at_.2.2.2.2, (HG3.out.below (Below.refl _ _).drew).graph.1.at_.2.1, HXX3.out⟩) (fun hHeld => ?_)
    refine tk 0 (fun _ _ _ _ _ h => h) (by kernel_rfl) ‹_› ⟨_, ?_, by simp only [zz1, zz2]; rfl, .inl ⟨by rfl, ?_⟩, ?_⟩; rotate_left; · (intro w hSw; (try dsimp only at hSw); go_simp; all_goals with_reducible rfl)
    simp only [Act.put, zz4, zz5, zz6]
    refine tk 1 (fun _ _ _ _ _ h => h) (by kernel_rfl) ‹_› ⟨_, ?_, by simp only [zz1, zz2, zz3]; rfl, .inl ⟨by rfl, ?_⟩, ?_⟩; rotate_left; · (intro w hSw; (try dsimp only at hSw); go_simp; all_goals with_reducible rfl)
    simp only [Act.put, zz4, zz5, zz6]
    refine tk 2 (fun _ _ _ _ _ h => h) (by kernel_rfl) ‹_› ⟨_, ?_, by simp only [zz1, zz2, zz3]; rfl, .inl ⟨by rfl, ?_⟩, ?_⟩; rotate_left; · (intro w hSw; (try dsimp only at hSw); go_simp; all_goals with_reducible rfl)
    simp only [Act.put, zz4, zz5, zz6]
    refine tk 3 (fun _ _ _ _ _ h => h) (by kernel_rfl) ‹_› ⟨_, ?_, by simp only [zz1, zz2, zz3]; rfl, .inl ⟨by rfl, ?_⟩, ?_⟩; rotate_left; · (intro w hSw; (try dsimp only at hSw); go_simp; all_goals with_reducible rfl)
    simp only [Act.put, zz4, zz5, zz6]
    refine tk 4 (fun _ _ _ _ _ h => h) (by kernel_rfl) ‹_› ⟨_, ?_, by simp only [zz1, zz2, zz3]; rfl, .inl ⟨by rfl, ?_⟩, ?_⟩; rotate_left; · (intro w hSw; (try dsimp only at hSw); go_simp; all_goals with_reducible rfl)
    simp only [Act.put, zz4, zz5, zz6]
    refine tk 5 (fun _ _ _ _ _ h => h) (by kernel_rfl) ‹_› ⟨_, ?_, by simp only [zz1, zz2, zz3]; rfl, .inl ⟨by rfl, ?_⟩, ?_⟩; rotate_left; · (intro w hSw; (try dsimp only at hSw); go_simp; all_goals with_reducible rfl)
    simp only [Act.put, zz4, zz5, zz6]
    refine tk 6 (fun _ _ _ _ _ h => h) (by kernel_rfl) ‹_› ⟨_, ?_, by simp only [zz1, zz2, zz3]; rfl, .inl ⟨by rfl, ?_⟩, ?_⟩; rotate_left; · (intro w hSw; (try dsimp only at hSw); go_simp; all_goals with_reducible rfl)
    simp only [Act.put, zz4, zz5, zz6]
    refine tk 7 (fun _ _ _ _ _ h => h) (by kernel_rfl) ‹_› ⟨_, ?_, by simp only [zz1, zz2, zz3]; rfl, .inl ⟨by rfl, ?_⟩, ?_⟩; rotate_left; · (intro w hSw; (try dsimp only at hSw); go_simp; all_goals with_reducible rfl)
    simp only [Act.put, zz4, zz5, zz6]
    refine tk 8 (fun _ _ _ _ _ h => h) (by kernel_rfl) ‹_› ⟨_, ?_, by simp only [zz1, zz2, zz3]; rfl, .inl ⟨by rfl, ?_⟩, ?_⟩; rotate_left; · (intro w hSw; (try dsimp only at hSw); go_simp; all_goals with_reducible rfl)
    simp only [Act.put, zz4, zz5, zz6]
    refine tk 9 (fun _ _ _ _ _ h => h) (by kernel_rfl) ‹_› ⟨_, ?_, by simp only [zz1, zz2, zz3]; rfl, .inl ⟨by rfl, ?_⟩, ?_⟩; rotate_left; · (intro w hSw; (try dsimp only at hSw); go_simp; all_goals with_reducible rfl)
    simp only [Act.put, zz4, zz5, zz6]
    refine tk 10 (fun _ _ _ _ _ h => h) (by kernel_rfl) ‹_› ⟨_, ?_, by simp only [zz1, zz2, zz3]; rfl, .inl ⟨by rfl, ?_⟩, ?_⟩; rotate_left; · (intro w hSw; (try dsimp only at hSw); go_simp; all_goals with_reducible rfl)
    simp only [Act.put, zz4, zz5, zz6]
    refine tk 11 (fun _ _ _ _ _ h => h) (by kernel_rfl) ‹_› ⟨_, ?_, by simp only [zz1, zz2, zz3]; rfl, .inl ⟨by rfl, ?_⟩, ?_⟩; rotate_left; · (intro w hSw; (try dsimp only at hSw); go_simp; all_goals with_reducible rfl)
    simp only [Act.put, zz4, zz5, zz6]
    refine wpAnyH_ready (rs := [12]) (by kernel_rfl) (by simp) ?_
    refine cons_one (i := 12) ⟨_, by simp only [zz1, zz2, zz3]; rfl, fun K hK => ?_⟩ ?_
    rotate_left
    ·exact AllReadyH.nil
    refine step_call rfl #[.tmp 42, .tmp 43, .tmp 53] 129 _ rfl enters_room #[.pointer (some ⟨g, 0, none⟩), .slice A7 o.length k7, .int .i64 (a.hi - xi)] ?hs (fun u w' => u = .int .i64 m ∧ Below w3.heap.size w3 w') (HRM.out.mono (fun e w' h => ⟨_, h.1, rfl, (Below.refl _ _).drew.trans h.2⟩)) ?_
    case hs => simp [Act.eval]
    rintro _ w4 ⟨rfl, hb4⟩
    have HG4 := hid (HG3.out.below hb4)
    have HA4 := hid (HA3.out.below hb4)
    have HB4 := hid hb4
    have hx4 := Kept.of_below hb4 _ _ HXX3.out
    clear hb4
    clear hHeld
    refine hK.out _ _ (⟨HA4.out.at_.2.2.2.2, HG4.out.graph.1.at_.2.1, hx4⟩) (fun hHeld => ?_)
    clear hK K
    try simp only [Act.put, zz4, zz5, zz6]
    refine tk 13 (fun _ _ _ _ _ h => h) (by kernel_rfl) ‹_› ⟨_, ?_, by simp only [zz1, zz2, zz3]; rfl, .inl ⟨by rfl, ?_⟩, ?_⟩; rotate_left; · (intro w hSw; (try dsimp only at hSw); go_simp; all_goals with_reducible rfl)
    simp only [Act.put, zz4, zz5, zz6]
    refine wpAnyH_done (by kernel_rfl) ?_ _
    refine NoPanic.normal ?_
    have HLD := hid (lead_any HG4.out (by have := HYL.out; have := HLX.out; omega) HGO.out.1 (sc := k7) (HST.out.kept (Kept.of_below HB4.out)) (fun a' e => by
     have h1 := (HX3.out a' e).1
     have h2 := HG2.out.lt.2
     omega) (by omega) m hom HLE.out)
    go_wp2_with fail
    refine HLD.out.mono ?_
    rintro e w5 ⟨⟨v5, rfl⟩, hg5, hgr5⟩
    have HG5 := hid hg5
    have HW5 := hid ((HW3.out.trans (grown_some (r := xb) HB4.out)).trans hgr5)
    have HA5 : Hid (ArcIs w5 w.heap.size a) := hid ((hgr5.block _ HA4.out.lt (fun e => by cases e; omega)).trans HA4.out)
    obtain ⟨_, g1, _⟩ := hg5.graph.1.at_
    obtain ⟨b5, off5, e5, hr5⟩ := hg5.graph.2 (by omega)
    cases e5
    have hx5 := hr5 i hiy1
    rw [HYI.out, Nat.zero_add] at hx5
    have hf5 := hg5.loose i
    have j1' : (i : Int) < y1.length := by omega
    clear hr5 hg5 hgr5 HLD
    go_wp2_with fail
    go_roundg n
    case measure => omega
    case rel => exact ⟨n, y1.set i (yi + m), rfl, HRR, hid (HG5.out.set i _), hid (HW5.out.trans (grown_set w5 xb i _)), hid (HA5.out.other (by omega)), hid ⟨fun v hv => by
     rcases List.mem_or_eq_of_mem_set hv with h | h
     ·exact HG1.out v h
     ·rw [h]; exact hoy, HGO.out.2⟩, by rw [List.length_set]; have := HL1.out; have := HYL.out; omega⟩
   ·obtain ⟨hnear, r, rfl, hms⟩ := hpost
    have HSD := hid (side_any (HBX.out w3 (HW2.out.trans (grown_some (below_of_none hnear)))) hcl hms)
    have HG3 := hid (HG2.out.below (below_of_none hnear))
    have HW3 := hid (HW2.out.trans (grown_some (r := xb) (below_of_none hnear)))
    clear hnear hms a1 a2 hyl
    have hnn := neq_nil (some r)
    simp only [Option.isNone_some, Bool.not_false] at hnn
    go_wp2_with fail
    refine HSD.out.mono ?_
    rintro e w4 ⟨v4, rfl, ho4, hb4⟩
    obtain ⟨A7, k7, rfl, hx1⟩ := ownsRow.form ho4
    have HO4 := hid ho4
    have HB4 := hid hb4
    clear hx1 ho4 hb4 HSD
    go_wp2_with fail
    go_ret
    cases HRR.out
    exact ⟨⟨_, rfl, own_lo HO4.out HW3.out.size⟩, HG3.out.below HB4.out, HW3.out.trans (grown_some HB4.out), HYL.out, HGO.out⟩
  ·have hcd : decide (xi < a.hi) = false := decide_eq_false hcmp
   rw [if_neg (by simpa using hcmp)] at hrn
   have HRN := hid hrn
   clear hrn HRn hxi hcmp
   go_upto_region 2 with (fail)
   go_quiet (fail)
   go_wp2_with fail
   go_ret
   cases HRN.out
   exact ⟨⟨_, rfl, ⟨rfl, .inl ⟨rfl, rfl⟩⟩⟩, HGY.out.below (Below.drewN' (Below.refl _ _) _), HGW.out.trans (grown_some (Below.drewN' (Below.refl _ _) _)), hyl, HGO.out⟩
set_option maxHeartbeats 16000000 in
theorem sink_any {w : World} {bb s r1 r2 r3 r4 : Nat} {As : Option Addr} {cap : Nat} {C : List Ent} {ids : List Int} (hcl : C.length ≤ 210) {g : Nat} {A : Option Addr} {c : Nat} {L : List Arc} {xb : Nat} {x : List Int} (hG : GX w g A c L xb x) (hbx : ∀ wr, w.grownBy wr (some xb) → LooksAt wr bb s r1 r2 r3 r4 As cap C ids)
  (hlx : L.length = x.length ∧ L.length ≤ 2000) (hgd : GoodN L x) (i : Nat) (hi : i < L.length) {fuel : Nat} {x' : List Int} {sn : Option (Int → Bool)} (hR : driveF L i L[i] false fuel x = some (x', sn)) :
  Calls Tryz.prog 103 #[.pointer (some ⟨bb, 0, none⟩), .pointer (some ⟨g, 0, none⟩), .int .i64 i] w fun e w' => (∃ v, e = .returned v ∧ w'.ownsRow w.heap.size 3 1 v (sideV (reps C) sn).length (ints (sideV (reps C) sn))) ∧ GX w' g A c L xb x' ∧ w.grownBy w' (some xb) ∧ x'.length = x.length ∧ GoodN L x' := by
 have HBX := hid hbx
 have HG := hid hG
 have HGD := hid hgd
 obtain ⟨hLx, hLf⟩ := hlx
 obtain ⟨a, ha⟩ : ∃ a, L[i] = a := ⟨_, rfl⟩
 have HGA := hid (hgd.2 a (by rw [← ha]; exact List.getElem_mem hi))
 rw [ha] at hR
 have HR := hid hR
 obtain ⟨g0, _, _⟩ := hG.graph.1.at_
 have hcapA := hG.cap
 have hxbl := hG.lt.2
 obtain ⟨b2, off2, hAe, hrg⟩ := hG.arcs (by omega)
 subst hAe
 have hra := hrg i hi
 rw [ha] at hra
 have HRA := hid hra
 have i0 : (0 : Int) ≤ i := by omega
 have i1 : (i : Int) < L.length := by omega
 clear hG hbx hgd hR hrg hra ha
 go_enter Tryz.func103, Tryz.ntmps103
 go_upto_region 2 with (first | refine load_arc_mid rfl _ rfl _ _ rfl HRA.out ?_ | (refine store_arc_new rfl _ _ rfl rfl rfl (q := a) rfl rfl rfl ?_; intro W1 hax1 hb1 hlt1; have HAX := hid hax1; have HG1 := hid (HG.out.below hb1); have HB1 := hid (grown_some (r := xb) hb1); clear hax1 hb1))
 clear g0
 go_frame
 go_loopg [] (fuel) (fun gm wr => ∃ (n : Nat) (y : List Int), gm = n ∧ Hid (driveF L i a false n y = some (x', sn)) ∧ Hid (GX wr g (some ⟨b2, off2, none⟩) c L xb y) ∧ Hid (w.grownBy wr (some xb)) ∧ Hid (ArcIs wr w.heap.size a) ∧ Hid (GoodN L y) ∧ y.length = x.length)
 case atStart => exact ⟨fuel, x, rfl, HR, HG1, HB1, HAX, HGD, rfl⟩
 case round =>
  obtain ⟨n, y, hgn, HRn, HGY, HGW, HAY, HGO, hyl⟩ := hrel
  rcases n with _ | n
  ·have := HRn.out
   cases this
  have hrn := HRn.out
  unfold driveF at hrn
  have hiy : i < y.length := by omega
  obtain ⟨xi, hxi⟩ : ∃ xi, y[i] = xi := ⟨_, rfl⟩
  rw [List.getElem?_eq_getElem hiy, hxi] at hrn
  dsimp only at hrn
  obtain ⟨_, g1, gf⟩ := HGY.out.graph.1.at_
  obtain ⟨b3, off3, hXe, hrx⟩ := HGY.out.graph.2 (by omega)
  cases hXe
  have hxx := hrx i hiy
  rw [hxi, Nat.zero_add] at hxx
  have HXX := hid hxx
  obtain ⟨a0, a1, a2, a3, a4⟩ := HAY.out.at_
  have j1 : (i : Int) < y.length := by omega
  have hokx := okN_le (HGO.out.1 xi (by rw [← hxi]; exact List.getElem_mem hiy))
  have hoklo := okN_le HGA.out.1
  have hokhi := okN_le HGA.out.2
  clear hrx
  by_cases hcmp : a.lo < xi
  ·have hcd : decide (a.lo < xi) = true := decide_eq_true hcmp
   rw [if_pos (by simpa using hcmp)] at hrn
   have HRN := hid hrn
   have HXI := hid hxi
   clear hrn HRn hxi hcmp
   go_upto_region 2 with (fail)
   go_quiet (fail)
   go_upto_region 3 with (fail)
   obtain ⟨W2, hW2⟩ : ∃ W2, wr.drewN nq = W2 := ⟨_, rfl⟩
   have hb2 : Below wr.heap.size wr W2 := by rw [← hW2]; exact Below.drewN' (Below.refl _ _) _
   have HG2 := hid (HGY.out.below hb2)
   have HA2 := hid (HAY.out.below hb2)
   have HW2 := hid (HGW.out.trans (grown_some (r := xb) hb2))
   rw [hW2]
   clear hW2 hb2 g1 gf hxx a0 a1 a2 a3 a4 hcd
   have hbw2 := HW2.out.size
   obtain ⟨_, a1, a2, _, _⟩ := HA2.out.at_
   have hLies : Lies W2 none g (some ⟨b2, off2, none⟩) c L (some ⟨xb, 0, none⟩) y.length y :=
    ⟨fun wr' hg' => (HG2.out.below (below_of_none hg')).graph, by omega, hLf, Nat.le_refl _⟩
   have hWants : Wants W2 none 146 #[.pointer (some ⟨w.heap.size, 0, none⟩)] (fun v => v == a.to_) := fun v wr' hg' _ => sink1_any (HA2.out.below (below_of_none hg')) v
   rcases hpo : pathOf L y a.from_ (fun v => v == a.to_) i with _ | R
   ·have := HRN.out
    simp only [Bool.false_eq_true, ↓reduceIte] at this
    rw [hpo] at this
    cases this
   have HPA := hid (path_any hLies a.from_ enters_sink1 hWants (fun b e => by cases e) i hpo)
   have hrr := HRN.out
   simp only [Bool.false_eq_true, ↓reduceIte] at hrr
   rw [hpo] at hrr
   have HRR := hid hrr
   have HPO := hid hpo
   clear hLies hWants hpo hrr HRN
   have HYL := hid hyl
   clear hyl
   go_wp2_with fail
   refine HPA.out.mono ?_
   rintro e w3 hpost
   clear HPA
   have hyl := HYL.out
   rcases R with ⟨o, last⟩ | seen
   ·obtain ⟨hnear, ⟨v3, rfl, ho3⟩, _⟩ := hpost
    obtain ⟨A7, k7, rfl, hx1, hx2, hx3⟩ := ownsRow.form ho3
    have hol : o.length ≤ 400 := pathF_len HPO.out
    have hrr := HRR.out
    dsimp only at hrr
    rcases hro : roomF L y o (xi - a.lo) with _ | m
    ·rw [hro] at hrr
     cases hrr
    rw [hro] at hrr
    dsimp only at hrr
    by_cases hom : okN m = true
    case neg =>
     rw [if_neg hom] at hrr
     cases hrr
    rw [if_pos hom] at hrr
    rcases hle : leadF m o y with _ | y1
    ·rw [hle] at hrr
     cases hrr
    rw [hle] at hrr
    dsimp only at hrr
    have hl1 := leadF_len hle
    have hiy1 : i < y1.length := by omega
    obtain ⟨yi, hyi⟩ : ∃ yi, y1[i] = yi := ⟨_, rfl⟩
    rw [List.getElem?_eq_getElem hiy1, hyi] at hrr
    dsimp only at hrr
    by_cases hoy : okN (yi - m) = true
    case neg =>
     rw [if_neg hoy] at hrr
     cases hrr
    rw [if_pos hoy] at hrr
    have hokm := okN_le hom
    have hoky := okN_le hoy
    have hg1 := leadF_good hle HGO.out.1
    have hokyi := okN_le (hg1 yi (by rw [← hyi]; exact List.getElem_mem hiy1))
    have HG3 := hid (HG2.out.below (below_of_none hnear))
    have HA3 := hid (HA2.out.below (below_of_none hnear))
    have HW3 := hid (HW2.out.trans (grown_some (r := xb) (below_of_none hnear)))
    have HST := hid (steps_of_cells hx1)
    have HX3 := hid hx3
    have HRR := hid hrr
    have HG1 := hid hg1
    have HYI := hid hyi
    have hww : IntKind.i64.wrap (xi - a.lo) = xi - a.lo := by
     simp only [IntKind.wrap, IntKind.bits, IntKind.signed]
     simp
     omega
    have HRM := hid (room_any (HG3.out.below (Below.refl _ _).drew).graph.1 (HG3.out.below (Below.refl _ _).drew).graph.2 (by omega) HGO.out (sc := k7) (HST.out.kept (Kept.of_below (Below.refl _ _).drew)) (by omega) (xi - a.lo) hro)
    have HLE := hid hle
    have HL1 := hid hl1
    have HLX := hid hLx
    have hxx3 : w3.cell? ⟨xb, i, none⟩ = some (.int .i64 xi) := by
     have := HXX.out
     obtain ⟨b4, off4, e4, hr4⟩ := HG3.out.graph.2 (by omega)
     cases e4
     have := hr4 i hiy
     rw [HXI.out, Nat.zero_add] at this
     exact this
    have HXX3 := hid hxx3
    clear hx1 hx2 hx3 ho3 hrr hro hle hyi hnear hg1 a1 a2 hxx3 hyl hLx hl1
    have hnn := neq_nil none
    simp only [Option.isNone_none, Bool.not_true] at hnn
    go_upto_region 6 with (fail)
    refine wp_region_noPanic ?_
    refine wp_region_held_drew (S := fun w' => w'.cell? ⟨w.heap.size, 3, none⟩ = some (.int .i64 a.lo) ∧ w'.cell? ⟨g, 1, none⟩ = some (.slice (some ⟨xb, 0, none⟩) y.length y.length) ∧ w'.cell? ⟨xb, i, none⟩ = some (.int .i64 xi)) (by kernel_rfl) (⟨(HA3.out.below (Below.refl _ _).drew).at_.2.2.2.1, (HG3.out.below (Below.refl _ _).drew).graph.1.at_.2.1, HXX3.out⟩) (fun hHeld => ?_)
    refine tk 0 (fun _ _ _ _ _ h => h) (by kernel_rfl) ‹_› ⟨_, ?_, by simp only [zz1, zz2]; rfl, .inl ⟨by rfl, ?_⟩, ?_⟩; rotate_left; · (intro w hSw; (try dsimp only at hSw); go_simp; all_goals with_reducible rfl)
    simp only [Act.put, zz4, zz5, zz6]
    refine tk 1 (fun _ _ _ _ _ h => h) (by kernel_rfl) ‹_› ⟨_, ?_, by simp only [zz1, zz2, zz3]; rfl, .inl ⟨by rfl, ?_⟩, ?_⟩; rotate_left; · (intro w hSw; (try dsimp only at hSw); go_simp; all_goals with_reducible rfl)
    simp only [Act.put, zz4, zz5, zz6]
    refine tk 2 (fun _ _ _ _ _ h => h) (by kernel_rfl) ‹_› ⟨_, ?_, by simp only [zz1, zz2, zz3]; rfl, .inl ⟨by rfl, ?_⟩, ?_⟩; rotate_left; · (intro w hSw; (try dsimp only at hSw); go_simp; all_goals with_reducible rfl)
    simp only [Act.put, zz4, zz5, zz6]
    refine tk 3 (fun _ _ _ _ _ h => h) (by kernel_rfl) ‹_› ⟨_, ?_, by simp only [zz1, zz2, zz3]; rfl, .inl ⟨by rfl, ?_⟩, ?_⟩; rotate_left; · (intro w hSw; (try dsimp only at hSw); go_simp; all_goals with_reducible rfl)
    simp only [Act.put, zz4, zz5, zz6]
    refine tk 4 (fun _ _ _ _ _ h => h) (by kernel_rfl) ‹_› ⟨_, ?_, by simp only [zz1, zz2, zz3]; rfl, .inl ⟨by rfl, ?_⟩, ?_⟩; rotate_left; · (intro w hSw; (try dsimp only at hSw); go_simp; all_goals with_reducible rfl)
    simp only [Act.put, zz4, zz5, zz6]
    refine tk 5 (fun _ _ _ _ _ h => h) (by kernel_rfl) ‹_› ⟨_, ?_, by simp only [zz1, zz2, zz3]; rfl, .inl ⟨by rfl, ?_⟩, ?_⟩; rotate_left; · (intro w hSw; (try dsimp only at hSw); go_simp; all_goals with_reducible rfl)
    simp only [Act.put, zz4, zz5, zz6]
    refine tk 6 (fun _ _ _ _ _ h => h) (by kernel_rfl) ‹_› ⟨_, ?_, by simp only [zz1, zz2, zz3]; rfl, .inl ⟨by rfl, ?_⟩, ?_⟩; rotate_left; · (intro w hSw; (try dsimp only at hSw); go_simp; all_goals with_reducible rfl)
    simp only [Act.put, zz4, zz5, zz6]
    refine tk 7 (fun _ _ _ _ _ h => h) (by kernel_rfl) ‹_› ⟨_, ?_, by simp only [zz1, zz2, zz3]; rfl, .inl ⟨by rfl, ?_⟩, ?_⟩; rotate_left; · (intro w hSw; (try dsimp only at hSw); go_simp; all_goals with_reducible rfl)
    simp only [Act.put, zz4, zz5, zz6]
    refine tk 8 (fun _ _ _ _ _ h => h) (by kernel_rfl) ‹_› ⟨_, ?_, by simp only [zz1, zz2, zz3]; rfl, .inl ⟨by rfl, ?_⟩, ?_⟩; rotate_left; · (intro w hSw; (try dsimp only at hSw); go_simp; all_goals with_reducible rfl)
    simp only [Act.put, zz4, zz5, zz6]
    refine tk 9 (fun _ _ _ _ _ h => h) (by kernel_rfl) ‹_› ⟨_, ?_, by simp only [zz1, zz2, zz3]; rfl, .inl ⟨by rfl, ?_⟩, ?_⟩; rotate_left; · (intro w hSw; (try dsimp only at hSw); go_simp; all_goals with_reducible rfl)
    simp only [Act.put, zz4, zz5, zz6]
    refine tk 10 (fun _ _ _ _ _ h => h) (by kernel_rfl) ‹_› ⟨_, ?_, by simp only [zz1, zz2, zz3]; rfl, .inl ⟨by rfl, ?_⟩, ?_⟩; rotate_left; · (intro w hSw; (try dsimp only at hSw); go_simp; all_goals with_reducible rfl)
    simp only [Act.put, zz4, zz5, zz6]
    refine tk 11 (fun _ _ _ _ _ h => h) (by kernel_rfl) ‹_› ⟨_, ?_, by simp only [zz1, zz2, zz3]; rfl, .inl ⟨by rfl, ?_⟩, ?_⟩; rotate_left; · (intro w hSw; (try dsimp only at hSw); go_simp; all_goals with_reducible rfl)
    simp only [Act.put, zz4, zz5, zz6]
    refine wpAnyH_ready (rs := [12]) (by kernel_rfl) (by simp) ?_
    refine cons_one (i := 12) ⟨_, by simp only [zz1, zz2, zz3]; rfl, fun K hK => ?_⟩ ?_
    rotate_left
    ·exact AllReadyH.nil
    refine step_call rfl #[.tmp 42, .tmp 43, .tmp 53] 129 _ rfl enters_room #[.pointer (some ⟨g, 0, none⟩), .slice A7 o.length k7, .int .i64 (xi - a.lo)] ?hs (fun u w' => u = .int .i64 m ∧ Below w3.heap.size w3 w') (HRM.out.mono (fun e w' h => ⟨_, h.1, rfl, (Below.refl _ _).drew.trans h.2⟩)) ?_
    case hs => simp [Act.eval]
    rintro _ w4 ⟨rfl, hb4⟩
    have HG4 := hid (HG3.out.below hb4)
    have HA4 := hid (HA3.out.below hb4)
    have HB4 := hid hb4
    have hx4 := Kept.of_below hb4 _ _ HXX3.out
    clear hb4
    clear hHeld
    refine hK.out _ _ (⟨HA4.out.at_.2.2.2.1, HG4.out.graph.1.at_.2.1, hx4⟩) (fun hHeld => ?_)
    clear hK K
    try simp only [Act.put, zz4, zz5, zz6]
    refine tk 13 (fun _ _ _ _ _ h => h) (by kernel_rfl) ‹_› ⟨_, ?_, by simp only [zz1, zz2, zz3]; rfl, .inl ⟨by rfl, ?_⟩, ?_⟩; rotate_left; · (intro w hSw; (try dsimp only at hSw); go_simp; all_goals with_reducible rfl)
    simp only [Act.put, zz4, zz5, zz6]
    refine wpAnyH_done (by kernel_rfl) ?_ _
    refine NoPanic.normal ?_
    have HLD := hid (lead_any HG4.out (by have := HYL.out; have := HLX.out; omega) HGO.out.1 (sc := k7) (HST.out.kept (Kept.of_below HB4.out)) (fun a' e => by
     have h1 := (HX3.out a' e).1
     have h2 := HG2.out.lt.2
     omega) (by omega) m hom HLE.out)
    go_wp2_with fail
    refine HLD.out.mono ?_
    rintro e w5 ⟨⟨v5, rfl⟩, hg5, hgr5⟩
    have HG5 := hid hg5
    have HW5 := hid ((HW3.out.trans (grown_some (r := xb) HB4.out)).trans hgr5)
    have HA5 : Hid (ArcIs w5 w.heap.size a) := hid ((hgr5.block _ HA4.out.lt (fun e => by cases e; omega)).trans HA4.out)
    obtain ⟨_, g1, _⟩ := hg5.graph.1.at_
    obtain ⟨b5, off5, e5, hr5⟩ := hg5.graph.2 (by omega)
    cases e5
    have hx5 := hr5 i hiy1
    rw [HYI.out, Nat.zero_add] at hx5
    have hf5 := hg5.loose i
    have j1' : (i : Int) < y1.length := by omega
    clear hr5 hg5 hgr5 HLD
    go_wp2_with fail
    go_roundg n
    case measure => omega
    case rel => exact ⟨n, y1.set i (yi - m), rfl, HRR, hid (HG5.out.set i _), hid (HW5.out.trans (grown_set w5 xb i _)), hid (HA5.out.other (by omega)), hid ⟨fun v hv => by
     rcases List.mem_or_eq_of_mem_set hv with h | h
     ·exact HG1.out v h
     ·rw [h]; exact hoy, HGO.out.2⟩, by rw [List.length_set]; have := HL1.out; have := HYL.out; omega⟩
   ·obtain ⟨hnear, r, rfl, hms⟩ := hpost
    have HSD := hid (side_any (HBX.out w3 (HW2.out.trans (grown_some (below_of_none hnear)))) hcl hms)
    have HG3 := hid (HG2.out.below (below_of_none hnear))
    have HW3 := hid (HW2.out.trans (grown_some (r := xb) (below_of_none hnear)))
    clear hnear hms a1 a2 hyl
    have hnn := neq_nil (some r)
    simp only [Option.isNone_some, Bool.not_false] at hnn
    go_wp2_with fail
    refine HSD.out.mono ?_
    rintro e w4 ⟨v4, rfl, ho4, hb4⟩
    obtain ⟨A7, k7, rfl, hx1⟩ := ownsRow.form ho4
    have HO4 := hid ho4
    have HB4 := hid hb4
    clear hx1 ho4 hb4 HSD
    go_wp2_with fail
    go_ret
    cases HRR.out
    exact ⟨⟨_, rfl, own_lo HO4.out HW3.out.size⟩, HG3.out.below HB4.out, HW3.out.trans (grown_some HB4.out), HYL.out, HGO.out⟩
  ·have hcd : decide (a.lo < xi) = false := decide_eq_false hcmp
   rw [if_neg (by simpa using hcmp)] at hrn
   have HRN := hid hrn
   clear hrn HRn hxi hcmp
   go_upto_region 2 with (fail)
   go_quiet (fail)
   go_wp2_with fail
   go_ret
   cases HRN.out
   exact ⟨⟨_, rfl, ⟨rfl, .inl ⟨rfl, rfl⟩⟩⟩, HGY.out.below (Below.drewN' (Below.refl _ _) _), HGW.out.trans (grown_some (Below.drewN' (Below.refl _ _) _)), hyl, HGO.out⟩
abbrev Much := Int → Option Int
/-- More rounds than there can be. -/
def drainN : Nat := 1000000000000
def mAt (m : Much) (v : Int) : Int := (m v).getD 0
/-- The amounts and the sums, when each arc of the first k has its least amount. -/
def startF (L : List Arc) : Nat → Option (List Int × Much)
 | 0 => some (List.replicate L.length 0, fun _ => none)
 | k + 1 => match startF L k, L[k]? with
  | some (x, m), some a =>
   if okN (mAt m a.to_ + a.lo) = true ∧ okN (mAt (setAt m a.to_ (mAt m a.to_ + a.lo)) a.from_ - a.lo) = true then
    some (x.set k a.lo, setAt (setAt m a.to_ (mAt m a.to_ + a.lo)) a.from_ (mAt (setAt m a.to_ (mAt m a.to_ + a.lo)) a.from_ - a.lo))
   else none
  | _, _ => none
/-- What comes too much to a node is led to where it lacks. -/
def drainF (L : List Arc) (v : Int) : Nat → List Int → Much → Option (Except (Int → Bool) (List Int × Much))
 | 0, _, _ => none
 | n + 1, x, m => if 0 < mAt m v then
   match pathOf L x v (fun w => decide (mAt m w < 0)) (-1) with
   | none => none
   | some (.lost seen) => some (.error seen)
   | some (.way o last) => match roomF L x o (min (mAt m v) (-mAt m last)) with
    | none => none
    | some q => if okN q = true ∧ okN (mAt m v) = true ∧ okN (mAt m last) = true then match leadF q o x with
      | none => none
      | some y => if okN (mAt m v - q) = true ∧ okN (mAt (setAt m v (mAt m v - q)) last + q) = true then
        drainF L v n y (setAt (setAt m v (mAt m v - q)) last (mAt (setAt m v (mAt m v - q)) last + q))
       else none
     else none
  else some (.ok (x, m))
def drainsF (L : List Arc) : List Int → List Int → Much → Option (Except (Int → Bool) (List Int × Much))
 | [], x, m => some (.ok (x, m))
 | v :: vs, x, m => match drainF L v drainN x m with
  | none => none
  | some (.error seen) => some (.error seen)
  | some (.ok (y, m')) => drainsF L vs y m'
inductive BalR where
 | parcel (p : Int)
 | side (seen : Int → Bool)
 | even (x : List Int)
def badB (a : Arc) : Bool := decide (a.hi < a.lo)
def balF (L : List Arc) (nodes : List Int) : Option BalR :=
 match startF L (L.findIdx badB) with
 | none => none
 | some (x, m) => match L[L.findIdx badB]? with
  | some a => some (.parcel a.parcel)
  | none => match drainsF L nodes x m with
   | none => none
   | some (.error seen) => some (.side seen)
   | some (.ok (y, _)) => some (.even y)
theorem startF_le {L : List Arc} : ∀ {j : Nat}, (startF L j).isSome = true → ∀ k ≤ j, (startF L k).isSome = true
 | 0, h, k, hk => by
  obtain rfl : k = 0 := by omega
  exact h
 | j + 1, h, k, hk => by
  by_cases hkj : k = j + 1
  ·rw [hkj]; exact h
  ·refine startF_le (j := j) ?_ k (by omega)
   unfold startF at h
   rcases hs : startF L j with _ | s
   ·rw [hs] at h; cases h
   ·rfl
theorem startF_good {L : List Arc} (hL : ∀ a ∈ L, okN a.lo = true ∧ okN a.hi = true) : ∀ {k : Nat} {x : List Int} {m : Much}, startF L k = some (x, m) → ∀ v ∈ x, okN v = true
 | 0, x, m, h => by
  cases h
  intro v hv
  rw [List.eq_of_mem_replicate hv]
  rfl
 | k + 1, x, m, h => by
  unfold startF at h
  split at h
  ·rename_i x0 m0 a h1 h2
   split at h
   ·cases h
    intro v hv
    rcases List.mem_or_eq_of_mem_set hv with h3 | h3
    ·exact startF_good hL h1 v h3
    ·rw [h3]
     exact (hL a (List.mem_of_getElem? h2)).1
   ·cases h
  ·cases h
def nodesF (C : List Rep) : List Int := 0 :: C.map (·.id)
theorem startF_len {L : List Arc} : ∀ {k : Nat} {x : List Int} {m : Much}, startF L k = some (x, m) → x.length = L.length
 | 0, x, m, h => by cases h; simp
 | k + 1, x, m, h => by
  unfold startF at h
  split at h
  ·rename_i x0 m0 a h1 h2
   split at h
   ·cases h
    rw [List.length_set]
    exact startF_len h1
   ·cases h
  ·cases h
theorem mapI_u : Tryz.prog.underlying 80 = some (.map 3 3) := by kernel_rfl
theorem intZ (w : World) : (zeroValue 3).run Tryz.prog w = .ok (.int .i64 0) w := by kernel_rfl
theorem MapOf.lookI {w : World} {r : Nat} {m : Much} (h : MapOf w r (Value.int .i64) m) (p : Int) : (Instr.lookup 80 (.map (some r)) (.int .i64 p) false).run Tryz.prog w = .ok (.int .i64 (mAt m p)) w := by
 have := h.look mapI_u (.int .i64 0) (intZ w) p
 rw [this]
 unfold mAt
 cases m p <;> rfl
theorem enters_bal1 : Enters 127 := fun args w => by kernel_rfl
theorem balance1_any {w : World} {bl b6 mb : Nat} {m : Much} (h6 : Boxed w b6 80 (.map (some mb))) (hm : MapOf w mb (Value.int .i64) m) {u : Value} (hl : Boxed w bl 3 u) (v : Int) :
  Calls Tryz.prog 127 #[.int .i64 v, .pointer (some ⟨bl, 0, none⟩), .pointer (some ⟨b6, 0, none⟩)] w fun e w' => e = .returned (.bool (decide (mAt m v < 0))) ∧ w' = noted (some bl) v w := by
 have hne : b6 ≠ bl := by
  rintro rfl
  unfold Boxed at h6 hl
  rw [h6] at hl
  exact absurd (Obj.cells.inj (Option.some.inj hl)).2.1 (by decide)
 have c1 := hl.cell
 have f1 := hl.frozen
 have hm2 := hm.others (KeepsOthers.setCell w ⟨bl, 0, none⟩ (.int .i64 v))
 have hlk := hm2.lookI v
 have c6 : (w.setCell ⟨bl, 0, none⟩ (.int .i64 v)).cell? ⟨b6, 0, none⟩ = some (.map (some mb)) := (Boxed.other h6 hne _).cell
 clear hm hm2 h6 hl hne
 go_enter Tryz.func127, Tryz.ntmps127
 go_wp2_with fail
 go_ret
 exact ⟨rfl, rfl⟩
/-- A conflict as it lies. -/
def ConfIs (w : World) (b : Nat) (p : Int) (v : Value) : Prop := w.heap[b]? = some (.cells #[.int .i64 p, v] 55 (0, 0))
theorem conf_info : (Tryz.prog.info? 55).map (·.size) = some 2 := by kernel_rfl
theorem ConfIs.lt {w : World} {g : Nat} {p : Int} {v : Value} (h : ConfIs w g p v) : g < w.heap.size := (Array.getElem?_eq_some_iff.1 h).1
theorem store_conf {ops : Array Oper} {rest : List Oper} {o : Oper} {a : Act} {w : World} {Q : Exit → Act → World → Prop} (hgd : o.guard = none) (x y : Operand) (ho : o.op = .store 55 x y)
  (g : Nat) (hx : a.eval x = .pointer (some ⟨g, 0, none⟩)) {p : Int} {v : Value} (hy : a.eval y = .agg #[.int .i64 p, v]) (hv : v.oneCell' = true) {p0 : Int} {v0 : Value} (hg : ConfIs w g p0 v0)
  (h : wpList Tryz.prog ops Q rest (a.put o.dst undef) (w.setRow g #[.int .i64 p, v])) : wpList Tryz.prog ops Q (o :: rest) a w :=
 wpList_store_row hgd _ x y ho g #[.int .i64 p, v] hx hy _ #[.int .i64 p0, v0] hg conf_info rfl (by simp [Value.oneCell'] at hv ⊢; exact hv) h
theorem conf_set {w : World} {g : Nat} {p p0 : Int} {v v0 : Value} (hg : ConfIs w g p0 v0) : ConfIs (w.setRow g #[.int .i64 p, v]) g p v := setRow_heap w g #[.int .i64 p0, v0] _ _ _ hg
theorem balance_ret (tmps : Array Value) (w : World) (g : Nat) {p : Int} {v : Value} {b : Bool} (hp : tmps.getD 4 undef = .pointer (some ⟨g, 0, none⟩)) (hu : tmps.getD 5 undef = .bool b) (hg : ConfIs w g p v) :
  (results Tryz.f87 tmps).run Tryz.prog w = .ok (.tuple #[.agg #[.int .i64 p, v], .bool b]) w := by
 rw [results_cell_tmp rfl, hp, hu]
 simp [asAddr, run_loadVar_row w g _ _ #[.int .i64 p, v] (0, 0) _ hg Tryz.underlying55 rfl conf_info]
theorem GX.grown {w w' : World} {g : Nat} {A : Option Addr} {c : Nat} {L : List Arc} {xb q : Nat} {x : List Int} (h : GX w g A c L xb x) (hg : w.grownBy w' (some q)) (h1 : g ≠ q) (h2 : xb ≠ q) (h3 : ∀ a, A = some a → a.block ≠ q) : GX w' g A c L xb x :=
 ⟨(hg.block g h.lt.1 (fun e => h1 (by cases e; rfl))).trans h.box, arcs_far h.arcs h3 hg, h.cap, (hg.block xb h.lt.2 (fun e => h2 (by cases e; rfl))).trans h.row, h.far⟩
theorem nodesF_take (C : List Rep) (k : Nat) (h : k < C.length) : nodesF (C.take (k + 1)) = nodesF (C.take k) ++ [C[k].id] := by
 unfold nodesF
 rw [List.take_succ_eq_append_getElem h, List.map_append]
 rfl
theorem drainF_good {L : List Arc} {v : Int} : ∀ {n : Nat} {x y : List Int} {m m' : Much}, drainF L v n x m = some (.ok (y, m')) → (∀ u ∈ x, okN u = true) → (∀ u ∈ y, okN u = true) ∧ y.length = x.length
 | 0, _, _, _, _, h, _ => by cases h
 | n + 1, x, y, m, m', h, hx => by
  unfold drainF at h
  split at h
  ·split at h
   ·cases h
   ·cases h
   ·split at h
    ·cases h
    ·split at h
     ·split at h
      ·cases h
      ·rename_i y1 hle
       split at h
       ·have h1 := drainF_good h (leadF_good hle hx)
        exact ⟨h1.1, h1.2.trans (leadF_len hle)⟩
       ·cases h
     ·cases h
  ·cases h
   exact ⟨hx, rfl⟩
def drainsR (L : List Arc) (vs : List Int) (x : List Int) (m : Much) : Option BalR := match drainsF L vs x m with
 | none => none
 | some (.error seen) => some (.side seen)
 | some (.ok (y, _)) => some (.even y)
theorem drainsR_cons (L : List Arc) (v : Int) (vs : List Int) (x : List Int) (m : Much) : drainsR L (v :: vs) x m = match drainF L v drainN x m with
 | none => none
 | some (.error seen) => some (.side seen)
 | some (.ok (y, m')) => drainsR L vs y m' := by
 unfold drainsR
 conv => lhs; unfold drainsF
 rcases drainF L v drainN x m with _ | (seen | ⟨y, m'⟩) <;> rfl
end Go.Proofs.YtfaoillnakhejaaGreat
