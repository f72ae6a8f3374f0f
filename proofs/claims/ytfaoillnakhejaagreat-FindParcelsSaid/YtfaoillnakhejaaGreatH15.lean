/- The reference: describe. -/
import Derived.Test.YtfaoillnakhejaaGreatH14
import Derived.Test.YtfaoillnakhejaaGreatH10
import Derived.Test.YtfaoillnakhejaaGreatH9
import Derived.Deep.CutRange
namespace Go.Proofs.YtfaoillnakhejaaGreat
set_option maxRecDepth 100000
open Go.RowKit
theorem enters_rsaid : Enters 123 := fun args w => by kernel_rfl
theorem enters_rhidden2 : Enters 124 := fun args w => by kernel_rfl
/-- What the reference says of a parcel (the span by the parcels o that it became). -/
def rdescF (C : List Ent) (p : Int) (o : List Int) : Pcl :=
 ⟨p, (entOr (makerR C p)).1.id, (entOr (userR C p)).1.id, (describeF (reps C) C.length p).2, (describeF (reps C) C.length p).1, saidLo (reps C) o, saidHi (reps C) o,
  if (entOr (makerR C p)).1.kind = 1 then (entOr (makerR C p)).1.party else 0, if (entOr (makerR C p)).1.kind = 1 then (entOr (makerR C p)).1.cell else 0, (entOr (makerR C p)).1.hour,
  decide ((entOr (makerR C p)).1.kind = 1), !(userR C p).isSome && hiddenB (reps C) p⟩
/-- A parcel that the reference shows. -/
def rkeepB (C : List Ent) (p : Int) : Bool := (makerR C p).isSome && !twinB (reps C) p
theorem pcl_step {w0 w : World} {B g i : Nat} {q q' : Pcl} {v : Value} {M : World → Prop} (hp : PclIs w g q) (hb : Below B w0 w) (hg : B ≤ g) (hq : q.cells.setIfInBounds i v = q'.cells) (k : ∀ W, PclIs W g q' → Below B w0 W → M W) : M (w.setCell ⟨g, i, none⟩ v) :=
 k _ (by unfold PclIs; rw [← hq]; exact block_set hp) (hb.setCell (p := ⟨g, i, none⟩) hg _)
theorem describe_ret (tmps : Array Value) (w : World) (g : Nat) {q : Pcl} {b : Bool} (hp : tmps.getD 4 undef = .pointer (some ⟨g, 0, none⟩)) (hu : tmps.getD 5 undef = .bool b) (hg : PclIs w g q) :
  (results Tryz.f83 tmps).run Tryz.prog w = .ok (.tuple #[q.val, .bool b]) w := by
 rw [results_cell_tmp rfl, hp, hu]
 simp [asAddr, run_loadVar_row w g _ _ q.cells (0, 0) _ hg Tryz.underlying38 rfl pcl_info]
theorem made_byR {C : List Ent} {p : Int} (h : (makerR C p).isSome = true) : MadeBy (reps C) C.length p := by
 obtain ⟨e, he⟩ := Option.isSome_iff_exists.1 h
 have h1 := List.mem_of_find?_eq_some he
 have h2 : p ∈ e.1.makes := by have := List.find?_some he; simpa using this
 obtain ⟨j, hj, rfl⟩ := List.getElem_of_mem h1
 exact ⟨j, by simpa using hj, hj, by simpa using h2⟩
set_option maxHeartbeats 16000000 in
theorem rdescribe_any (A : Option Addr) (cap : Nat) (C : List Ent) (p : Int) (w : World) (hA : EntsAt w A C) (hl : C.length ≤ 900) (hs : Sound (reps C)) :
  Calls Tryz.prog 83 #[.slice A C.length cap, .int .i64 p] w fun e w' => Below w.heap.size w w' ∧
   ((rkeepB C p = false ∧ e = .returned (.tuple #[zp.val, .bool false])) ∨ (rkeepB C p = true ∧ ∃ o, (∀ q, q ∈ o ↔ Reach (nxL (reps C) sameG) p q) ∧ e = .returned (.tuple #[(rdescF C p o).val, .bool true]))) := by
 have HA := hid hA
 have HW : Hid (∀ e ∈ C, e.1.Wf) := hid (fun e he => hs.wfs e.1 (List.mem_map_of_mem (f := Prod.fst) he))
 have HS := hid hs
 obtain ⟨ub, hub⟩ : ∃ t, (userR C p).isSome = t := ⟨_, rfl⟩
 obtain ⟨mb, hmb⟩ : ∃ t, (makerR C p).isSome = t := ⟨_, rfl⟩
 obtain ⟨tb, htb⟩ : ∃ t, twinB (reps C) p = t := ⟨_, rfl⟩
 obtain ⟨hh, hhh⟩ : ∃ t, hiddenB (reps C) p = t := ⟨_, rfl⟩
 have HKP : Hid (rkeepB C p = (mb && !tb)) := hid (by unfold rkeepB; rw [hmb, htb])
 obtain ⟨G, hG⟩ : ∃ G, describeF (reps C) C.length p = G := ⟨_, rfl⟩
 have HMK := hid hmb
 have HGO := hid (fun v (hb : Below w.heap.size w v) (hm : mb = true) => rgoods_any C hs hl A cap C.length p v (hA.below hb) (made_byR (hmb.trans hm)))
 rw [hG] at HGO
 have hdf : ∀ o, rdescF C p o = _ := fun o => by unfold rdescF; rw [hub, hhh, hG]
 have hM := fun v (hb : Below w.heap.size w v) => rmaker_any A cap C p v (hA.below hb) (by omega) HW.out
 have hU := (fun v (hb : Below w.heap.size w v) => ruser_any A cap C p v (hA.below hb) (by omega) HW.out)
 obtain ⟨⟨x, P, c⟩, hx⟩ : ∃ e, entOr (makerR C p) = e := ⟨_, rfl⟩
 obtain ⟨⟨y, P2, c2⟩, hy⟩ : ∃ e, entOr (userR C p) = e := ⟨_, rfl⟩
 have hx' : entOr (C.find? fun e => decide (p ∈ e.1.makes)) = (x, P, c) := hx
 have hy' : entOr (C.find? fun e => decide (p ∈ e.1.uses)) = (y, P2, c2) := hy
 have hmb' : (C.find? fun e => decide (p ∈ e.1.makes)).isSome = mb := hmb
 have hub' : (C.find? fun e => decide (p ∈ e.1.uses)).isSome = ub := hub
 have HYZ : Hid (ub = false → y.id = 0) := hid (fun h => by
  rw [h, Option.isSome_eq_false_iff, Option.isNone_iff_eq_none] at hub
  rw [hub] at hy
  have : y = (entOr none).1 := by rw [hy]
  rw [this]
  rfl)
 simp only [hx', hmb'] at hM
 simp only [hy', hub'] at hU
 have HU := hid hU
 simp only [hx, hy] at hdf
 obtain ⟨fi, hfi⟩ : ∃ v, (if x.kind = 1 then x.party else 0) = v := ⟨_, rfl⟩
 obtain ⟨ci, hci⟩ : ∃ v, (if x.kind = 1 then x.cell else 0) = v := ⟨_, rfl⟩
 obtain ⟨fb, hfb⟩ : ∃ v, decide (x.kind = 1) = v := ⟨_, rfl⟩
 simp only [hfi, hci, hfb] at hdf
 have HFI := hid hfi
 have HCI := hid hci
 have HFB := hid hfb
 clear hfi hci hfb
 have HDF := hid hdf
 have HM := hid hM
 have hTW := (fun v (hb : Below w.heap.size w v) => rtwin_any A cap C p v (hA.below hb) (by omega))
 have hHI := (fun v (hb : Below w.heap.size w v) => rhidden_any A cap C p v (hA.below hb) (by omega))
 have HSD := hid (fun v (hb : Below w.heap.size w v) => rsaid_any A cap C p v (hA.below hb) hl HW.out)
 simp only [htb] at hTW
 simp only [hhh] at hHI
 have HTW := hid hTW
 have HHI := hid hHI
 clear hA hs hub hmb htb hhh hG hM hx hy hx' hy' hmb' hub' hdf hU hTW hHI
 go_enter Tryz.func83, Tryz.ntmps83
 go_upto_region 1 with fail
 refine zp_gen rfl ?_
 intro W0 hz hb
 have HZ0 := hid hz
 have HB0 := hid hb
 have hlt0 : w.heap.size < W0.heap.size := hz.lt
 clear hz hb
 go_wp2_with fail
 refine (HM.out W0 HB0.out).mono ?_
 rintro e w1 ⟨hb1, rfl⟩
 have HB1 := hid (HB0.out.trans (hb1.mono HB0.out.size))
 have HZ1 := hid (HZ0.out.below hb1)
 clear hb1
 go_upto_region 2 with (refine store_rep_new rfl _ _ rfl rfl rfl rfl rfl ?_; intro W2 hbx2 hb2 hlt2; have HX2 := hid hbx2; have HB2 := hid (HB1.out.trans (hb2.mono HB1.out.size)); have HZ2 := hid (HZ1.out.below hb2); clear hbx2 hb2)
 rcases mb with _ | _
 ·go_wp2_with (refine store_pcl rfl _ _ rfl _ rfl (q := zp) rfl HZ2.out ?_)
  refine bodyPost_ret (describe_ret _ _ w.heap.size rfl rfl (pcl_set HZ2.out)) rfl ?_
  exact ⟨below_setRow HB2.out (Nat.le_refl _) _, .inl ⟨by rw [HKP.out]; rfl, rfl⟩⟩
 go_wp2_with fail
 refine (HTW.out W2 HB2.out).mono ?_
 rintro e w9 ⟨rfl, rfl⟩
 rcases tb with _ | _
 case true =>
  go_wp2_with (refine store_pcl rfl _ _ rfl _ rfl (q := zp) rfl HZ2.out ?_)
  refine bodyPost_ret (describe_ret _ _ w.heap.size rfl rfl (pcl_set HZ2.out)) rfl ?_
  exact ⟨below_setRow HB2.out (Nat.le_refl _) _, .inl ⟨by rw [HKP.out]; rfl, rfl⟩⟩
 case false =>
  go_wp2_with fail
  refine (HU.out w9 HB2.out).mono ?_
  rintro e w3 ⟨hb3, rfl⟩
  have HB3 := hid (HB2.out.trans (hb3.mono HB2.out.size))
  have HZ3 := hid (HZ2.out.below hb3)
  have HX3 := hid (HX2.out.below hb3)
  clear hb3
  go_upto_region 5 with (refine store_rep_new rfl _ _ rfl rfl rfl rfl rfl ?_; intro W4 hbx4 hb4 hlt4; have HY4 := hid hbx4; have HB4 := hid (HB3.out.trans (hb4.mono HB3.out.size)); have HZ4 := hid (HZ3.out.below hb4); have HX4 := hid (HX3.out.below hb4); clear hbx4 hb4)
  have HSV : Hid (∀ v, Below W4.heap.size W4 v → _) := hid (fun v hb => HSD.out v (HB4.out.trans (hb.mono HB4.out.size)))
  have HHV : Hid (∀ v, Below W4.heap.size W4 v → _) := hid (fun v hb => HHI.out v (HB4.out.trans (hb.mono HB4.out.size)))
  go_cut [10] from 31 to 46 (fun s wx => ∃ g o, s = .pointer (some ⟨g, 0, none⟩) ∧ W4.heap.size ≤ g ∧ Below W4.heap.size W4 wx ∧ PclIs wx g ⟨p, x.id, 0, .empty, .empty, saidLo (reps C) o, saidHi (reps C) o, 0, 0, x.hour, false, !ub && hh⟩ ∧ ∀ q, q ∈ o ↔ Reach (nxL (reps C) sameG) p q)
  case first =>
   rcases ub with _ | _
   ·refine wp_region_noPanic ?_
    refine wp_region_held_drew (S := fun w' => w'.cell? ⟨w1.heap.size, 0, none⟩ = some (.int .i64 x.id) ∧ w'.cell? ⟨w1.heap.size, 2, none⟩ = some (.int .i64 x.hour)) (by kernel_rfl) (⟨(HX4.out.below ((Below.refl W4.heap.size W4).drew)).at_.1, (HX4.out.below ((Below.refl W4.heap.size W4).drew)).at_.2.2.1⟩) (fun hHeld => ?_)
    refine tk 0 (fun _ _ _ _ _ h => h) (by kernel_rfl) ‹_› ⟨_, ?_, by simp only [zz1, zz2]; rfl, .inl ⟨by rfl, ?_⟩, ?_⟩; rotate_left; · (intro w hSw; (try dsimp only at hSw); go_simp; all_goals with_reducible rfl)
    simp only [Act.put, zz4, zz5, zz6]
    refine tk 1 (fun _ _ _ _ _ h => h) (by kernel_rfl) ‹_› ⟨_, ?_, by simp only [zz1, zz2, zz3]; rfl, .inl ⟨by rfl, ?_⟩, ?_⟩; rotate_left; · (intro w hSw; (try dsimp only at hSw); go_simp; all_goals with_reducible rfl)
    simp only [Act.put, zz4, zz5, zz6]
    refine tk 2 (fun _ _ _ _ _ h => h) (by kernel_rfl) ‹_› ⟨_, ?_, by simp only [zz1, zz2, zz3]; rfl, .inl ⟨by rfl, ?_⟩, ?_⟩; rotate_left; · (intro w hSw; (try dsimp only at hSw); go_simp; all_goals with_reducible rfl)
    simp only [Act.put, zz4, zz5, zz6]
    refine tk 3 (fun _ _ _ _ _ h => h) (by kernel_rfl) ‹_› ⟨_, ?_, by simp only [zz1, zz2, zz3]; rfl, .inl ⟨by rfl, ?_⟩, ?_⟩; rotate_left; · (intro w hSw; (try dsimp only at hSw); go_simp; all_goals with_reducible rfl)
    simp only [Act.put, zz4, zz5, zz6]
    refine tk 4 (fun _ _ _ _ _ h => h) (by kernel_rfl) ‹_› ⟨_, ?_, by simp only [zz1, zz2, zz3]; rfl, .inl ⟨by rfl, ?_⟩, ?_⟩; rotate_left; · (intro w hSw; (try dsimp only at hSw); go_simp; all_goals with_reducible rfl)
    simp only [Act.put, zz4, zz5, zz6]
    refine tk 5 (fun _ _ _ _ _ h => h) (by kernel_rfl) ‹_› ⟨_, ?_, by simp only [zz1, zz2, zz3]; rfl, .inl ⟨by rfl, ?_⟩, ?_⟩; rotate_left; · (intro w hSw; (try dsimp only at hSw); go_simp; all_goals with_reducible rfl)
    simp only [Act.put, zz4, zz5, zz6]
    refine tk 6 (fun _ _ _ _ _ h => h) (by kernel_rfl) ‹_› ⟨_, ?_, by simp only [zz1, zz2, zz3]; rfl, .inl ⟨by rfl, ?_⟩, ?_⟩; rotate_left; · (intro w hSw; (try dsimp only at hSw); go_simp; all_goals with_reducible rfl)
    simp only [Act.put, zz4, zz5, zz6]
    refine tk 8 (fun _ _ _ _ _ h => h) (by kernel_rfl) ‹_› ⟨_, ?_, by simp only [zz1, zz2, zz3]; rfl, .inl ⟨by rfl, ?_⟩, ?_⟩; rotate_left; · (intro w hSw; (try dsimp only at hSw); go_simp; all_goals with_reducible rfl)
    simp only [Act.put, zz4, zz5, zz6]
    refine tk 9 (fun _ _ _ _ _ h => h) (by kernel_rfl) ‹_› ⟨_, ?_, by simp only [zz1, zz2, zz3]; rfl, .inl ⟨by rfl, ?_⟩, ?_⟩; rotate_left; · (intro w hSw; (try dsimp only at hSw); go_simp; all_goals with_reducible rfl)
    simp only [Act.put, zz4, zz5, zz6]
    refine wpAnyH_ready (rs := [7, 16]) (by kernel_rfl) (by simp) ?_
    refine cons_one (i := 7) ⟨_, by simp only [zz1, zz2, zz3]; rfl, fun K hK => ?_⟩ ?_
    ·refine step_call rfl #[.tmp 36, .tmp 37] 123 _ rfl enters_rsaid #[.slice A C.length cap, .int .i64 p] ?hs (fun u w' => Below (W4.drew).heap.size (W4.drew) w' ∧ ∃ o, (∀ q, q ∈ o ↔ Reach (nxL (reps C) sameG) p q) ∧ u = .agg (spanC (saidLo (reps C) o) (saidHi (reps C) o))) ((HSV.out _ ((Below.refl W4.heap.size W4).drew)).mono (fun e w' h => by obtain ⟨h1, o, h2, h3⟩ := h; exact ⟨_, h3, h1, o, h2, rfl⟩)) ?_
     case hs => simp [Act.eval]
     rintro _ w6 ⟨hb6, o, ho, rfl⟩
     have HB6 := hid (((Below.refl W4.heap.size W4).drew : Below W4.heap.size W4 _).trans (hb6.mono ((Below.refl W4.heap.size W4).drew : Below W4.heap.size W4 _).size))
     have HO := hid ho
     clear hb6 ho
     clear hHeld
     refine hK.out _ _ (⟨(HX4.out.below (HB6.out)).at_.1, (HX4.out.below (HB6.out)).at_.2.2.1⟩) (fun hHeld => ?_)
     clear hK K
     try simp only [Act.put, zz4, zz5, zz6]
     refine tk 10 (fun _ _ _ _ _ h => h) (by kernel_rfl) ‹_› ⟨_, ?_, by simp only [zz1, zz2, zz3]; rfl, .inl ⟨by rfl, ?_⟩, ?_⟩; rotate_left; · (intro w hSw; (try dsimp only at hSw); go_simp; all_goals with_reducible rfl)
     simp only [Act.put, zz4, zz5, zz6]
     refine tk 11 (fun _ _ _ _ _ h => h) (by kernel_rfl) ‹_› ⟨_, ?_, by simp only [zz1, zz2, zz3]; rfl, .inl ⟨by rfl, ?_⟩, ?_⟩; rotate_left; · (intro w hSw; (try dsimp only at hSw); go_simp; all_goals with_reducible rfl)
     simp only [Act.put, zz4, zz5, zz6]
     refine tk 12 (fun _ _ _ _ _ h => h) (by kernel_rfl) ‹_› ⟨_, ?_, by simp only [zz1, zz2, zz3]; rfl, .inl ⟨by rfl, ?_⟩, ?_⟩; rotate_left; · (intro w hSw; (try dsimp only at hSw); go_simp; all_goals with_reducible rfl)
     simp only [Act.put, zz4, zz5, zz6]
     refine wpAnyH_ready (rs := [13, 16]) (by kernel_rfl) (by simp) ?_
     refine cons_one (i := 13) ⟨_, by simp only [zz1, zz2, zz3]; rfl, fun K hK => ?_⟩ ?_
     ·refine step_callg (by rfl) #[.tmp 42, .tmp 43] 124 _ rfl enters_rhidden2 #[.slice A C.length cap, .int .i64 p] ?hs (fun u w' => u = .bool hh ∧ w' = w6) ((HHV.out _ (HB6.out)).mono (fun e w' h => ⟨_, h.1, rfl, h.2⟩)) ?_
      case hs => simp [Act.eval]
      rintro _ w6 ⟨rfl, rfl⟩
      clear hHeld
      refine hK.out _ _ (⟨(HX4.out.below (HB6.out)).at_.1, (HX4.out.below (HB6.out)).at_.2.2.1⟩) (fun hHeld => ?_)
      clear hK K
      try simp only [Act.put, zz4, zz5, zz6]
      refine tk 14 (fun _ _ _ _ _ h => h) (by kernel_rfl) ‹_› ⟨_, ?_, by simp only [zz1, zz2, zz3]; rfl, .inl ⟨by rfl, ?_⟩, ?_⟩; rotate_left; · (intro w hSw; (try dsimp only at hSw); go_simp; all_goals with_reducible rfl)
      simp only [Act.put, zz4, zz5, zz6]
      refine tk 15 (fun _ _ _ _ _ h => h) (by kernel_rfl) ‹_› ⟨_, ?_, by simp only [zz1, zz2, zz3]; rfl, .inl ⟨by rfl, ?_⟩, ?_⟩; rotate_left; · (intro w hSw; (try dsimp only at hSw); go_simp; all_goals with_reducible rfl)
      simp only [Act.put, zz4, zz5, zz6]
      refine wpAnyH_ready (rs := [16]) (by kernel_rfl) (by simp) ?_
      refine cons_one (i := 16) ⟨_, by simp only [zz1, zz2, zz3]; rfl, fun K hK => ?_⟩ ?_
      rotate_left
      ·exact AllReadyH.nil
      go_simp
      clear hHeld
      refine hK.out _ _ (⟨(HX4.out.below (HB6.out.alloc HB6.out.size (.cells #[.int .i64 0, .int .i64 0, .int .i64 0, .string .empty, .string .empty, .int .i64 0, .int .i64 0, .int .i64 0, .int .i64 0, .int .i64 0, .bool false, .bool false] 38))).at_.1, (HX4.out.below (HB6.out.alloc HB6.out.size (.cells #[.int .i64 0, .int .i64 0, .int .i64 0, .string .empty, .string .empty, .int .i64 0, .int .i64 0, .int .i64 0, .int .i64 0, .int .i64 0, .bool false, .bool false] 38))).at_.2.2.1⟩) (fun hHeld => ?_)
      clear hK K
      try simp only [Act.put, zz4, zz5, zz6]
      refine wpAnyH_ready (rs := [17]) (by kernel_rfl) (by simp) ?_
      refine cons_one (i := 17) ⟨_, by simp only [zz1, zz2, zz3]; rfl, fun K hK => ?_⟩ ?_
      rotate_left
      ·exact AllReadyH.nil
      refine step_store rfl 38 (.tmp 10) (.tmp 46) rfl (w6.heap.size) (Pcl.cells ⟨p, x.id, 0, .empty, .empty, saidLo (reps C) o, saidHi (reps C) o, 0, 0, x.hour, false, !false && hh⟩) rfl rfl 38 _ (heap_alloc_new _ _) pcl_info rfl (pcl_one _) ?_
      have hbz := below_setRow (HB6.out.alloc HB6.out.size (.cells #[.int .i64 0, .int .i64 0, .int .i64 0, .string .empty, .string .empty, .int .i64 0, .int .i64 0, .int .i64 0, .int .i64 0, .int .i64 0, .bool false, .bool false] 38)) HB6.out.size (Pcl.cells ⟨p, x.id, 0, .empty, .empty, saidLo (reps C) o, saidHi (reps C) o, 0, 0, x.hour, false, !false && hh⟩)
      clear hHeld
      refine hK.out _ _ (⟨(HX4.out.below (hbz)).at_.1, (HX4.out.below (hbz)).at_.2.2.1⟩) (fun hHeld => ?_)
      clear hK K
      try simp only [Act.put]
      refine wpAnyH_done (by kernel_rfl) ?_ _
      refine NoPanic.normal ?_
      go_wp2_with fail
      go_meet
      case rel => exact ⟨_, o, rfl, HB6.out.size, hbz, setRow_heap _ _ _ _ _ _ (heap_alloc_new _ _), HO.out⟩
     refine cons_one (i := 16) ⟨_, by simp only [zz1, zz2, zz3]; rfl, fun K hK => ?_⟩ ?_
     ·go_simp
      clear hHeld
      refine hK.out _ _ (⟨(HX4.out.below (HB6.out.alloc HB6.out.size (.cells #[.int .i64 0, .int .i64 0, .int .i64 0, .string .empty, .string .empty, .int .i64 0, .int .i64 0, .int .i64 0, .int .i64 0, .int .i64 0, .bool false, .bool false] 38))).at_.1, (HX4.out.below (HB6.out.alloc HB6.out.size (.cells #[.int .i64 0, .int .i64 0, .int .i64 0, .string .empty, .string .empty, .int .i64 0, .int .i64 0, .int .i64 0, .int .i64 0, .int .i64 0, .bool false, .bool false] 38))).at_.2.2.1⟩) (fun hHeld => ?_)
      clear hK K
      try simp only [Act.put, zz4, zz5, zz6]
      refine wpAnyH_ready (rs := [13]) (by kernel_rfl) (by simp) ?_
      refine cons_one (i := 13) ⟨_, by simp only [zz1, zz2, zz3]; rfl, fun K hK => ?_⟩ ?_
      rotate_left
      ·exact AllReadyH.nil
      refine step_callg (by rfl) #[.tmp 42, .tmp 43] 124 _ rfl enters_rhidden2 #[.slice A C.length cap, .int .i64 p] ?hs (fun u w' => u = .bool hh ∧ w' = w6.alloc (.cells #[.int .i64 0, .int .i64 0, .int .i64 0, .string .empty, .string .empty, .int .i64 0, .int .i64 0, .int .i64 0, .int .i64 0, .int .i64 0, .bool false, .bool false] 38)) ((HHV.out _ (HB6.out.alloc HB6.out.size (.cells #[.int .i64 0, .int .i64 0, .int .i64 0, .string .empty, .string .empty, .int .i64 0, .int .i64 0, .int .i64 0, .int .i64 0, .int .i64 0, .bool false, .bool false] 38))).mono (fun e w' h => ⟨_, h.1, rfl, h.2⟩)) ?_
      case hs => simp [Act.eval]
      rintro _ _ ⟨rfl, rfl⟩
      clear hHeld
      refine hK.out _ _ (⟨(HX4.out.below (HB6.out.alloc HB6.out.size (.cells #[.int .i64 0, .int .i64 0, .int .i64 0, .string .empty, .string .empty, .int .i64 0, .int .i64 0, .int .i64 0, .int .i64 0, .int .i64 0, .bool false, .bool false] 38))).at_.1, (HX4.out.below (HB6.out.alloc HB6.out.size (.cells #[.int .i64 0, .int .i64 0, .int .i64 0, .string .empty, .string .empty, .int .i64 0, .int .i64 0, .int .i64 0, .int .i64 0, .int .i64 0, .bool false, .bool false] 38))).at_.2.2.1⟩) (fun hHeld => ?_)
      clear hK K
      try simp only [Act.put, zz4, zz5, zz6]
      refine tk 14 (fun _ _ _ _ _ h => h) (by kernel_rfl) ‹_› ⟨_, ?_, by simp only [zz1, zz2, zz3]; rfl, .inl ⟨by rfl, ?_⟩, ?_⟩; rotate_left; · (intro w hSw; (try dsimp only at hSw); go_simp; all_goals with_reducible rfl)
      simp only [Act.put, zz4, zz5, zz6]
      refine tk 15 (fun _ _ _ _ _ h => h) (by kernel_rfl) ‹_› ⟨_, ?_, by simp only [zz1, zz2, zz3]; rfl, .inl ⟨by rfl, ?_⟩, ?_⟩; rotate_left; · (intro w hSw; (try dsimp only at hSw); go_simp; all_goals with_reducible rfl)
      simp only [Act.put, zz4, zz5, zz6]
      refine wpAnyH_ready (rs := [17]) (by kernel_rfl) (by simp) ?_
      refine cons_one (i := 17) ⟨_, by simp only [zz1, zz2, zz3]; rfl, fun K hK => ?_⟩ ?_
      rotate_left
      ·exact AllReadyH.nil
      refine step_store rfl 38 (.tmp 10) (.tmp 46) rfl (w6.heap.size) (Pcl.cells ⟨p, x.id, 0, .empty, .empty, saidLo (reps C) o, saidHi (reps C) o, 0, 0, x.hour, false, !false && hh⟩) rfl rfl 38 _ (heap_alloc_new _ _) pcl_info rfl (pcl_one _) ?_
      have hbz := below_setRow (HB6.out.alloc HB6.out.size (.cells #[.int .i64 0, .int .i64 0, .int .i64 0, .string .empty, .string .empty, .int .i64 0, .int .i64 0, .int .i64 0, .int .i64 0, .int .i64 0, .bool false, .bool false] 38)) HB6.out.size (Pcl.cells ⟨p, x.id, 0, .empty, .empty, saidLo (reps C) o, saidHi (reps C) o, 0, 0, x.hour, false, !false && hh⟩)
      clear hHeld
      refine hK.out _ _ (⟨(HX4.out.below (hbz)).at_.1, (HX4.out.below (hbz)).at_.2.2.1⟩) (fun hHeld => ?_)
      clear hK K
      try simp only [Act.put]
      refine wpAnyH_done (by kernel_rfl) ?_ _
      refine NoPanic.normal ?_
      go_wp2_with fail
      go_meet
      case rel => exact ⟨_, o, rfl, HB6.out.size, hbz, setRow_heap _ _ _ _ _ _ (heap_alloc_new _ _), HO.out⟩
     exact AllReadyH.nil
    refine cons_one (i := 16) ⟨_, by simp only [zz1, zz2, zz3]; rfl, fun K hK => ?_⟩ ?_
    ·go_simp
     clear hHeld
     refine hK.out _ _ (⟨(HX4.out.below ((Below.refl W4.heap.size W4).drew.alloc (Nat.le_refl _) (.cells #[.int .i64 0, .int .i64 0, .int .i64 0, .string .empty, .string .empty, .int .i64 0, .int .i64 0, .int .i64 0, .int .i64 0, .int .i64 0, .bool false, .bool false] 38))).at_.1, (HX4.out.below ((Below.refl W4.heap.size W4).drew.alloc (Nat.le_refl _) (.cells #[.int .i64 0, .int .i64 0, .int .i64 0, .string .empty, .string .empty, .int .i64 0, .int .i64 0, .int .i64 0, .int .i64 0, .int .i64 0, .bool false, .bool false] 38))).at_.2.2.1⟩) (fun hHeld => ?_)
     clear hK K
     try simp only [Act.put, zz4, zz5, zz6]
     refine wpAnyH_ready (rs := [7]) (by kernel_rfl) (by simp) ?_
     refine cons_one (i := 7) ⟨_, by simp only [zz1, zz2, zz3]; rfl, fun K hK => ?_⟩ ?_
     rotate_left
     ·exact AllReadyH.nil
     refine step_call rfl #[.tmp 36, .tmp 37] 123 _ rfl enters_rsaid #[.slice A C.length cap, .int .i64 p] ?hs (fun u w' => Below (W4.drew.alloc (.cells #[.int .i64 0, .int .i64 0, .int .i64 0, .string .empty, .string .empty, .int .i64 0, .int .i64 0, .int .i64 0, .int .i64 0, .int .i64 0, .bool false, .bool false] 38)).heap.size (W4.drew.alloc (.cells #[.int .i64 0, .int .i64 0, .int .i64 0, .string .empty, .string .empty, .int .i64 0, .int .i64 0, .int .i64 0, .int .i64 0, .int .i64 0, .bool false, .bool false] 38)) w' ∧ ∃ o, (∀ q, q ∈ o ↔ Reach (nxL (reps C) sameG) p q) ∧ u = .agg (spanC (saidLo (reps C) o) (saidHi (reps C) o))) ((HSV.out _ ((Below.refl W4.heap.size W4).drew.alloc (Nat.le_refl _) (.cells #[.int .i64 0, .int .i64 0, .int .i64 0, .string .empty, .string .empty, .int .i64 0, .int .i64 0, .int .i64 0, .int .i64 0, .int .i64 0, .bool false, .bool false] 38))).mono (fun e w' h => by obtain ⟨h1, o, h2, h3⟩ := h; exact ⟨_, h3, h1, o, h2, rfl⟩)) ?_
     case hs => simp [Act.eval]
     rintro _ w6 ⟨hb6, o, ho, rfl⟩
     have HB6 := hid (((Below.refl W4.heap.size W4).drew.alloc (Nat.le_refl _) (.cells #[.int .i64 0, .int .i64 0, .int .i64 0, .string .empty, .string .empty, .int .i64 0, .int .i64 0, .int .i64 0, .int .i64 0, .int .i64 0, .bool false, .bool false] 38) : Below W4.heap.size W4 _).trans (hb6.mono ((Below.refl W4.heap.size W4).drew.alloc (Nat.le_refl _) (.cells #[.int .i64 0, .int .i64 0, .int .i64 0, .string .empty, .string .empty, .int .i64 0, .int .i64 0, .int .i64 0, .int .i64 0, .int .i64 0, .bool false, .bool false] 38) : Below W4.heap.size W4 _).size))
     have HO := hid ho
     have hz6 := (hb6.block W4.heap.size (by simp)).trans (heap_alloc_new W4.drew (.cells #[.int .i64 0, .int .i64 0, .int .i64 0, .string .empty, .string .empty, .int .i64 0, .int .i64 0, .int .i64 0, .int .i64 0, .int .i64 0, .bool false, .bool false] 38))
     clear hb6 ho
     clear hHeld
     refine hK.out _ _ (⟨(HX4.out.below (HB6.out)).at_.1, (HX4.out.below (HB6.out)).at_.2.2.1⟩) (fun hHeld => ?_)
     clear hK K
     try simp only [Act.put, zz4, zz5, zz6]
     refine tk 10 (fun _ _ _ _ _ h => h) (by kernel_rfl) ‹_› ⟨_, ?_, by simp only [zz1, zz2, zz3]; rfl, .inl ⟨by rfl, ?_⟩, ?_⟩; rotate_left; · (intro w hSw; (try dsimp only at hSw); go_simp; all_goals with_reducible rfl)
     simp only [Act.put, zz4, zz5, zz6]
     refine tk 11 (fun _ _ _ _ _ h => h) (by kernel_rfl) ‹_› ⟨_, ?_, by simp only [zz1, zz2, zz3]; rfl, .inl ⟨by rfl, ?_⟩, ?_⟩; rotate_left; · (intro w hSw; (try dsimp only at hSw); go_simp; all_goals with_reducible rfl)
     simp only [Act.put, zz4, zz5, zz6]
     refine tk 12 (fun _ _ _ _ _ h => h) (by kernel_rfl) ‹_› ⟨_, ?_, by simp only [zz1, zz2, zz3]; rfl, .inl ⟨by rfl, ?_⟩, ?_⟩; rotate_left; · (intro w hSw; (try dsimp only at hSw); go_simp; all_goals with_reducible rfl)
     simp only [Act.put, zz4, zz5, zz6]
     refine wpAnyH_ready (rs := [13]) (by kernel_rfl) (by simp) ?_
     refine cons_one (i := 13) ⟨_, by simp only [zz1, zz2, zz3]; rfl, fun K hK => ?_⟩ ?_
     rotate_left
     ·exact AllReadyH.nil
     refine step_callg (by rfl) #[.tmp 42, .tmp 43] 124 _ rfl enters_rhidden2 #[.slice A C.length cap, .int .i64 p] ?hs (fun u w' => u = .bool hh ∧ w' = w6) ((HHV.out _ (HB6.out)).mono (fun e w' h => ⟨_, h.1, rfl, h.2⟩)) ?_
     case hs => simp [Act.eval]
     rintro _ w6 ⟨rfl, rfl⟩
     clear hHeld
     refine hK.out _ _ (⟨(HX4.out.below (HB6.out)).at_.1, (HX4.out.below (HB6.out)).at_.2.2.1⟩) (fun hHeld => ?_)
     clear hK K
     try simp only [Act.put, zz4, zz5, zz6]
     refine tk 14 (fun _ _ _ _ _ h => h) (by kernel_rfl) ‹_› ⟨_, ?_, by simp only [zz1, zz2, zz3]; rfl, .inl ⟨by rfl, ?_⟩, ?_⟩; rotate_left; · (intro w hSw; (try dsimp only at hSw); go_simp; all_goals with_reducible rfl)
     simp only [Act.put, zz4, zz5, zz6]
     refine tk 15 (fun _ _ _ _ _ h => h) (by kernel_rfl) ‹_› ⟨_, ?_, by simp only [zz1, zz2, zz3]; rfl, .inl ⟨by rfl, ?_⟩, ?_⟩; rotate_left; · (intro w hSw; (try dsimp only at hSw); go_simp; all_goals with_reducible rfl)
     simp only [Act.put, zz4, zz5, zz6]
     refine wpAnyH_ready (rs := [17]) (by kernel_rfl) (by simp) ?_
     refine cons_one (i := 17) ⟨_, by simp only [zz1, zz2, zz3]; rfl, fun K hK => ?_⟩ ?_
     rotate_left
     ·exact AllReadyH.nil
     refine step_store rfl 38 (.tmp 10) (.tmp 46) rfl (W4.heap.size) (Pcl.cells ⟨p, x.id, 0, .empty, .empty, saidLo (reps C) o, saidHi (reps C) o, 0, 0, x.hour, false, !false && hh⟩) rfl rfl 38 _ (hz6) pcl_info rfl (pcl_one _) ?_
     have hbz := below_setRow (HB6.out) (Nat.le_refl _) (Pcl.cells ⟨p, x.id, 0, .empty, .empty, saidLo (reps C) o, saidHi (reps C) o, 0, 0, x.hour, false, !false && hh⟩)
     clear hHeld
     refine hK.out _ _ (⟨(HX4.out.below (hbz)).at_.1, (HX4.out.below (hbz)).at_.2.2.1⟩) (fun hHeld => ?_)
     clear hK K
     try simp only [Act.put]
     refine wpAnyH_done (by kernel_rfl) ?_ _
     refine NoPanic.normal ?_
     go_wp2_with fail
     go_meet
     case rel => exact ⟨_, o, rfl, (Nat.le_refl _), hbz, setRow_heap _ _ _ _ _ _ (hz6), HO.out⟩
    exact AllReadyH.nil
   ·refine wp_region_noPanic ?_
    refine wp_region_held_drew (S := fun w' => w'.cell? ⟨w1.heap.size, 0, none⟩ = some (.int .i64 x.id) ∧ w'.cell? ⟨w1.heap.size, 2, none⟩ = some (.int .i64 x.hour)) (by kernel_rfl) (⟨(HX4.out.below ((Below.refl W4.heap.size W4).drew)).at_.1, (HX4.out.below ((Below.refl W4.heap.size W4).drew)).at_.2.2.1⟩) (fun hHeld => ?_)
    refine tk 0 (fun _ _ _ _ _ h => h) (by kernel_rfl) ‹_› ⟨_, ?_, by simp only [zz1, zz2]; rfl, .inl ⟨by rfl, ?_⟩, ?_⟩; rotate_left; · (intro w hSw; (try dsimp only at hSw); go_simp; all_goals with_reducible rfl)
    simp only [Act.put, zz4, zz5, zz6]
    refine tk 1 (fun _ _ _ _ _ h => h) (by kernel_rfl) ‹_› ⟨_, ?_, by simp only [zz1, zz2, zz3]; rfl, .inl ⟨by rfl, ?_⟩, ?_⟩; rotate_left; · (intro w hSw; (try dsimp only at hSw); go_simp; all_goals with_reducible rfl)
    simp only [Act.put, zz4, zz5, zz6]
    refine tk 2 (fun _ _ _ _ _ h => h) (by kernel_rfl) ‹_› ⟨_, ?_, by simp only [zz1, zz2, zz3]; rfl, .inl ⟨by rfl, ?_⟩, ?_⟩; rotate_left; · (intro w hSw; (try dsimp only at hSw); go_simp; all_goals with_reducible rfl)
    simp only [Act.put, zz4, zz5, zz6]
    refine tk 3 (fun _ _ _ _ _ h => h) (by kernel_rfl) ‹_› ⟨_, ?_, by simp only [zz1, zz2, zz3]; rfl, .inl ⟨by rfl, ?_⟩, ?_⟩; rotate_left; · (intro w hSw; (try dsimp only at hSw); go_simp; all_goals with_reducible rfl)
    simp only [Act.put, zz4, zz5, zz6]
    refine tk 4 (fun _ _ _ _ _ h => h) (by kernel_rfl) ‹_› ⟨_, ?_, by simp only [zz1, zz2, zz3]; rfl, .inl ⟨by rfl, ?_⟩, ?_⟩; rotate_left; · (intro w hSw; (try dsimp only at hSw); go_simp; all_goals with_reducible rfl)
    simp only [Act.put, zz4, zz5, zz6]
    refine tk 5 (fun _ _ _ _ _ h => h) (by kernel_rfl) ‹_› ⟨_, ?_, by simp only [zz1, zz2, zz3]; rfl, .inl ⟨by rfl, ?_⟩, ?_⟩; rotate_left; · (intro w hSw; (try dsimp only at hSw); go_simp; all_goals with_reducible rfl)
    simp only [Act.put, zz4, zz5, zz6]
    refine tk 6 (fun _ _ _ _ _ h => h) (by kernel_rfl) ‹_› ⟨_, ?_, by simp only [zz1, zz2, zz3]; rfl, .inl ⟨by rfl, ?_⟩, ?_⟩; rotate_left; · (intro w hSw; (try dsimp only at hSw); go_simp; all_goals with_reducible rfl)
    simp only [Act.put, zz4, zz5, zz6]
    refine tk 8 (fun _ _ _ _ _ h => h) (by kernel_rfl) ‹_› ⟨_, ?_, by simp only [zz1, zz2, zz3]; rfl, .inl ⟨by rfl, ?_⟩, ?_⟩; rotate_left; · (intro w hSw; (try dsimp only at hSw); go_simp; all_goals with_reducible rfl)
    simp only [Act.put, zz4, zz5, zz6]
    refine tk 9 (fun _ _ _ _ _ h => h) (by kernel_rfl) ‹_› ⟨_, ?_, by simp only [zz1, zz2, zz3]; rfl, .inl ⟨by rfl, ?_⟩, ?_⟩; rotate_left; · (intro w hSw; (try dsimp only at hSw); go_simp; all_goals with_reducible rfl)
    simp only [Act.put, zz4, zz5, zz6]
    refine wpAnyH_ready (rs := [7, 16]) (by kernel_rfl) (by simp) ?_
    refine cons_one (i := 7) ⟨_, by simp only [zz1, zz2, zz3]; rfl, fun K hK => ?_⟩ ?_
    ·refine step_call rfl #[.tmp 36, .tmp 37] 123 _ rfl enters_rsaid #[.slice A C.length cap, .int .i64 p] ?hs (fun u w' => Below (W4.drew).heap.size (W4.drew) w' ∧ ∃ o, (∀ q, q ∈ o ↔ Reach (nxL (reps C) sameG) p q) ∧ u = .agg (spanC (saidLo (reps C) o) (saidHi (reps C) o))) ((HSV.out _ ((Below.refl W4.heap.size W4).drew)).mono (fun e w' h => by obtain ⟨h1, o, h2, h3⟩ := h; exact ⟨_, h3, h1, o, h2, rfl⟩)) ?_
     case hs => simp [Act.eval]
     rintro _ w6 ⟨hb6, o, ho, rfl⟩
     have HB6 := hid (((Below.refl W4.heap.size W4).drew : Below W4.heap.size W4 _).trans (hb6.mono ((Below.refl W4.heap.size W4).drew : Below W4.heap.size W4 _).size))
     have HO := hid ho
     clear hb6 ho
     clear hHeld
     refine hK.out _ _ (⟨(HX4.out.below (HB6.out)).at_.1, (HX4.out.below (HB6.out)).at_.2.2.1⟩) (fun hHeld => ?_)
     clear hK K
     try simp only [Act.put, zz4, zz5, zz6]
     refine tk 10 (fun _ _ _ _ _ h => h) (by kernel_rfl) ‹_› ⟨_, ?_, by simp only [zz1, zz2, zz3]; rfl, .inl ⟨by rfl, ?_⟩, ?_⟩; rotate_left; · (intro w hSw; (try dsimp only at hSw); go_simp; all_goals with_reducible rfl)
     simp only [Act.put, zz4, zz5, zz6]
     refine tk 11 (fun _ _ _ _ _ h => h) (by kernel_rfl) ‹_› ⟨_, _, by simp only [zz1, zz2, zz3]; rfl, Or.inr ⟨by rfl, rfl⟩, ?_⟩
     simp only [Act.put, zz4, zz5, zz6]
     refine tk 12 (fun _ _ _ _ _ h => h) (by kernel_rfl) ‹_› ⟨_, _, by simp only [zz1, zz2, zz3]; rfl, Or.inr ⟨by rfl, rfl⟩, ?_⟩
     simp only [Act.put, zz4, zz5, zz6]
     refine tk 13 (fun _ _ _ _ _ h => h) (by kernel_rfl) ‹_› ⟨_, _, by simp only [zz1, zz2, zz3]; rfl, Or.inr ⟨by rfl, rfl⟩, ?_⟩
     simp only [Act.put, zz4, zz5, zz6]
     refine tk 14 (fun _ _ _ _ _ h => h) (by kernel_rfl) ‹_› ⟨_, ?_, by simp only [zz1, zz2, zz3]; rfl, .inl ⟨by rfl, ?_⟩, ?_⟩; rotate_left; · (intro w hSw; (try dsimp only at hSw); go_simp; all_goals with_reducible rfl)
     simp only [Act.put, zz4, zz5, zz6]
     refine tk 15 (fun _ _ _ _ _ h => h) (by kernel_rfl) ‹_› ⟨_, ?_, by simp only [zz1, zz2, zz3]; rfl, .inl ⟨by rfl, ?_⟩, ?_⟩; rotate_left; · (intro w hSw; (try dsimp only at hSw); go_simp; all_goals with_reducible rfl)
     simp only [Act.put, zz4, zz5, zz6]
     refine wpAnyH_ready (rs := [16]) (by kernel_rfl) (by simp) ?_
     refine cons_one (i := 16) ⟨_, by simp only [zz1, zz2, zz3]; rfl, fun K hK => ?_⟩ ?_
     rotate_left
     ·exact AllReadyH.nil
     go_simp
     clear hHeld
     refine hK.out _ _ (⟨(HX4.out.below (HB6.out.alloc HB6.out.size (.cells #[.int .i64 0, .int .i64 0, .int .i64 0, .string .empty, .string .empty, .int .i64 0, .int .i64 0, .int .i64 0, .int .i64 0, .int .i64 0, .bool false, .bool false] 38))).at_.1, (HX4.out.below (HB6.out.alloc HB6.out.size (.cells #[.int .i64 0, .int .i64 0, .int .i64 0, .string .empty, .string .empty, .int .i64 0, .int .i64 0, .int .i64 0, .int .i64 0, .int .i64 0, .bool false, .bool false] 38))).at_.2.2.1⟩) (fun hHeld => ?_)
     clear hK K
     try simp only [Act.put, zz4, zz5, zz6]
     refine wpAnyH_ready (rs := [17]) (by kernel_rfl) (by simp) ?_
     refine cons_one (i := 17) ⟨_, by simp only [zz1, zz2, zz3]; rfl, fun K hK => ?_⟩ ?_
     rotate_left
     ·exact AllReadyH.nil
     refine step_store rfl 38 (.tmp 10) (.tmp 46) rfl (w6.heap.size) (Pcl.cells ⟨p, x.id, 0, .empty, .empty, saidLo (reps C) o, saidHi (reps C) o, 0, 0, x.hour, false, !true && hh⟩) rfl rfl 38 _ (heap_alloc_new _ _) pcl_info rfl (pcl_one _) ?_
     have hbz := below_setRow (HB6.out.alloc HB6.out.size (.cells #[.int .i64 0, .int .i64 0, .int .i64 0, .string .empty, .string .empty, .int .i64 0, .int .i64 0, .int .i64 0, .int .i64 0, .int .i64 0, .bool false, .bool false] 38)) HB6.out.size (Pcl.cells ⟨p, x.id, 0, .empty, .empty, saidLo (reps C) o, saidHi (reps C) o, 0, 0, x.hour, false, !true && hh⟩)
     clear hHeld
     refine hK.out _ _ (⟨(HX4.out.below (hbz)).at_.1, (HX4.out.below (hbz)).at_.2.2.1⟩) (fun hHeld => ?_)
     clear hK K
     try simp only [Act.put]
     refine wpAnyH_done (by kernel_rfl) ?_ _
     refine NoPanic.normal ?_
     go_wp2_with fail
     go_meet
     case rel => exact ⟨_, o, rfl, HB6.out.size, hbz, setRow_heap _ _ _ _ _ _ (heap_alloc_new _ _), HO.out⟩
    refine cons_one (i := 16) ⟨_, by simp only [zz1, zz2, zz3]; rfl, fun K hK => ?_⟩ ?_
    ·go_simp
     clear hHeld
     refine hK.out _ _ (⟨(HX4.out.below ((Below.refl W4.heap.size W4).drew.alloc (Nat.le_refl _) (.cells #[.int .i64 0, .int .i64 0, .int .i64 0, .string .empty, .string .empty, .int .i64 0, .int .i64 0, .int .i64 0, .int .i64 0, .int .i64 0, .bool false, .bool false] 38))).at_.1, (HX4.out.below ((Below.refl W4.heap.size W4).drew.alloc (Nat.le_refl _) (.cells #[.int .i64 0, .int .i64 0, .int .i64 0, .string .empty, .string .empty, .int .i64 0, .int .i64 0, .int .i64 0, .int .i64 0, .int .i64 0, .bool false, .bool false] 38))).at_.2.2.1⟩) (fun hHeld => ?_)
     clear hK K
     try simp only [Act.put, zz4, zz5, zz6]
     refine wpAnyH_ready (rs := [7]) (by kernel_rfl) (by simp) ?_
     refine cons_one (i := 7) ⟨_, by simp only [zz1, zz2, zz3]; rfl, fun K hK => ?_⟩ ?_
     rotate_left
     ·exact AllReadyH.nil
     refine step_call rfl #[.tmp 36, .tmp 37] 123 _ rfl enters_rsaid #[.slice A C.length cap, .int .i64 p] ?hs (fun u w' => Below (W4.drew.alloc (.cells #[.int .i64 0, .int .i64 0, .int .i64 0, .string .empty, .string .empty, .int .i64 0, .int .i64 0, .int .i64 0, .int .i64 0, .int .i64 0, .bool false, .bool false] 38)).heap.size (W4.drew.alloc (.cells #[.int .i64 0, .int .i64 0, .int .i64 0, .string .empty, .string .empty, .int .i64 0, .int .i64 0, .int .i64 0, .int .i64 0, .int .i64 0, .bool false, .bool false] 38)) w' ∧ ∃ o, (∀ q, q ∈ o ↔ Reach (nxL (reps C) sameG) p q) ∧ u = .agg (spanC (saidLo (reps C) o) (saidHi (reps C) o))) ((HSV.out _ ((Below.refl W4.heap.size W4).drew.alloc (Nat.le_refl _) (.cells #[.int .i64 0, .int .i64 0, .int .i64 0, .string .empty, .string .empty, .int .i64 0, .int .i64 0, .int .i64 0, .int .i64 0, .int .i64 0, .bool false, .bool false] 38))).mono (fun e w' h => by obtain ⟨h1, o, h2, h3⟩ := h; exact ⟨_, h3, h1, o, h2, rfl⟩)) ?_
     case hs => simp [Act.eval]
     rintro _ w6 ⟨hb6, o, ho, rfl⟩
     have HB6 := hid (((Below.refl W4.heap.size W4).drew.alloc (Nat.le_refl _) (.cells #[.int .i64 0, .int .i64 0, .int .i64 0, .string .empty, .string .empty, .int .i64 0, .int .i64 0, .int .i64 0, .int .i64 0, .int .i64 0, .bool false, .bool false] 38) : Below W4.heap.size W4 _).trans (hb6.mono ((Below.refl W4.heap.size W4).drew.alloc (Nat.le_refl _) (.cells #[.int .i64 0, .int .i64 0, .int .i64 0, .string .empty, .string .empty, .int .i64 0, .int .i64 0, .int .i64 0, .int .i64 0, .int .i64 0, .bool false, .bool false] 38) : Below W4.heap.size W4 _).size))
     have HO := hid ho
     have hz6 := (hb6.block W4.heap.size (by simp)).trans (heap_alloc_new W4.drew (.cells #[.int .i64 0, .int .i64 0, .int .i64 0, .string .empty, .string .empty, .int .i64 0, .int .i64 0, .int .i64 0, .int .i64 0, .int .i64 0, .bool false, .bool false] 38))
     clear hb6 ho
     clear hHeld
     refine hK.out _ _ (⟨(HX4.out.below (HB6.out)).at_.1, (HX4.out.below (HB6.out)).at_.2.2.1⟩) (fun hHeld => ?_)
     clear hK K
     try simp only [Act.put, zz4, zz5, zz6]
     refine tk 10 (fun _ _ _ _ _ h => h) (by kernel_rfl) ‹_› ⟨_, ?_, by simp only [zz1, zz2, zz3]; rfl, .inl ⟨by rfl, ?_⟩, ?_⟩; rotate_left; · (intro w hSw; (try dsimp only at hSw); go_simp; all_goals with_reducible rfl)
     simp only [Act.put, zz4, zz5, zz6]
     refine tk 11 (fun _ _ _ _ _ h => h) (by kernel_rfl) ‹_› ⟨_, _, by simp only [zz1, zz2, zz3]; rfl, Or.inr ⟨by rfl, rfl⟩, ?_⟩
     simp only [Act.put, zz4, zz5, zz6]
     refine tk 12 (fun _ _ _ _ _ h => h) (by kernel_rfl) ‹_› ⟨_, _, by simp only [zz1, zz2, zz3]; rfl, Or.inr ⟨by rfl, rfl⟩, ?_⟩
     simp only [Act.put, zz4, zz5, zz6]
     refine tk 13 (fun _ _ _ _ _ h => h) (by kernel_rfl) ‹_› ⟨_, _, by simp only [zz1, zz2, zz3]; rfl, Or.inr ⟨by rfl, rfl⟩, ?_⟩
     simp only [Act.put, zz4, zz5, zz6]
     refine tk 14 (fun _ _ _ _ _ h => h) (by kernel_rfl) ‹_› ⟨_, ?_, by simp only [zz1, zz2, zz3]; rfl, .inl ⟨by rfl, ?_⟩, ?_⟩; rotate_left; · (intro w hSw; (try dsimp only at hSw); go_simp; all_goals with_reducible rfl)
     simp only [Act.put, zz4, zz5, zz6]
     refine tk 15 (fun _ _ _ _ _ h => h) (by kernel_rfl) ‹_› ⟨_, ?_, by simp only [zz1, zz2, zz3]; rfl, .inl ⟨by rfl, ?_⟩, ?_⟩; rotate_left; · (intro w hSw; (try dsimp only at hSw); go_simp; all_goals with_reducible rfl)
     simp only [Act.put, zz4, zz5, zz6]
     refine wpAnyH_ready (rs := [17]) (by kernel_rfl) (by simp) ?_
     refine cons_one (i := 17) ⟨_, by simp only [zz1, zz2, zz3]; rfl, fun K hK => ?_⟩ ?_
     rotate_left
     ·exact AllReadyH.nil
     refine step_store rfl 38 (.tmp 10) (.tmp 46) rfl (W4.heap.size) (Pcl.cells ⟨p, x.id, 0, .empty, .empty, saidLo (reps C) o, saidHi (reps C) o, 0, 0, x.hour, false, !true && hh⟩) rfl rfl 38 _ (hz6) pcl_info rfl (pcl_one _) ?_
     have hbz := below_setRow (HB6.out) (Nat.le_refl _) (Pcl.cells ⟨p, x.id, 0, .empty, .empty, saidLo (reps C) o, saidHi (reps C) o, 0, 0, x.hour, false, !true && hh⟩)
     clear hHeld
     refine hK.out _ _ (⟨(HX4.out.below (hbz)).at_.1, (HX4.out.below (hbz)).at_.2.2.1⟩) (fun hHeld => ?_)
     clear hK K
     try simp only [Act.put]
     refine wpAnyH_done (by kernel_rfl) ?_ _
     refine NoPanic.normal ?_
     go_wp2_with fail
     go_meet
     case rel => exact ⟨_, o, rfl, (Nat.le_refl _), hbz, setRow_heap _ _ _ _ _ _ (hz6), HO.out⟩
    exact AllReadyH.nil
  case rest =>
   obtain ⟨g, o, rfl, hgl, hb5, hp5, ho⟩ := hcut
   have HB5 := hid hb5
   have HP5 := hid hp5
   have HO := hid ho
   have HX5 := hid (HX4.out.below hb5)
   have HY5 := hid (HY4.out.below hb5)
   clear hb5 hp5 ho
   go_upto_if 47 with (fail)
   go_cut [] from 48 to 50 (fun wx => Below W4.heap.size W4 wx ∧ PclIs wx g ⟨p, x.id, y.id, .empty, .empty, saidLo (reps C) o, saidHi (reps C) o, 0, 0, x.hour, false, !ub && hh⟩)
   case first =>
    rcases ub with _ | _
    ·have HY0 := hid (HYZ.out rfl)
     go_wp2_with fail
     go_meet
     case rel => exact ⟨HB5.out, by rw [HY0.out]; exact HP5.out⟩
    ·obtain ⟨e0, _⟩ := HY5.out.at_
     obtain ⟨_, _, p2, _⟩ := HP5.out.at_
     have fz := HP5.out.loose 2
     go_wp2_with fail
     refine pcl_step HP5.out HB5.out hgl (q' := ⟨p, x.id, y.id, .empty, .empty, saidLo (reps C) o, saidHi (reps C) o, 0, 0, x.hour, false, !true && hh⟩) rfl ?_
     intro W6 hp6 hb6
     go_meet
     case rel => exact ⟨hb6, hp6⟩
   case rest =>
    obtain ⟨hb6, hp6⟩ := hcut
    have HB6 := hid hb6
    have HP6 := hid hp6
    have HX6 := hid (HX4.out.below hb6)
    clear hb6 hp6 HB5 HP5 HX5 HY5
    obtain ⟨_, _, _, c3, _⟩ := HX6.out.at_
    go_upto_if 53 with (fail)
    go_cut [] from 47 to 60 (fun wx => Below W4.heap.size W4 wx ∧ PclIs wx g ⟨p, x.id, y.id, .empty, .empty, saidLo (reps C) o, saidHi (reps C) o, fi, ci, x.hour, fb, !ub && hh⟩)
    case first =>
     by_cases k1 : x.kind = 1
     ·have d1 : (x.kind == 1) = true := beq_iff_eq.2 k1
      have HK1 := hid k1
      obtain ⟨_, _, _, _, _, _, _, p7, p8, _, p10, _⟩ := HP6.out.at_
      have fz := HP6.out.loose 10
      clear k1 c3
      go_upto_region 10 with (fail)
      refine pcl_step HP6.out HB6.out hgl (q' := ⟨p, x.id, y.id, .empty, .empty, saidLo (reps C) o, saidHi (reps C) o, 0, 0, x.hour, true, !ub && hh⟩) rfl ?_
      intro W7 hp7 hb7
      have HP7 := hid hp7
      have HB7 := hid hb7
      have HX7 := hid (HX4.out.below hb7)
      clear p7 p8 p10 fz hp7 hb7
      obtain ⟨_, _, _, _, _, _, _, c7, _⟩ := HX7.out.at_
      obtain ⟨_, _, _, _, _, _, _, p7, p8, _, p10, _⟩ := HP7.out.at_
      have fz := HP7.out.loose 8
      go_upto_region 11 with (fail)
      refine pcl_step HP7.out HB7.out hgl (q' := ⟨p, x.id, y.id, .empty, .empty, saidLo (reps C) o, saidHi (reps C) o, 0, x.cell, x.hour, true, !ub && hh⟩) rfl ?_
      intro W8 hp8 hb8
      have HP8 := hid hp8
      have HB8 := hid hb8
      have HX8 := hid (HX4.out.below hb8)
      clear p7 p8 p10 fz hp8 hb8 c7
      obtain ⟨_, _, _, _, _, _, _, _, _, _, _, _, c12, _⟩ := HX8.out.at_
      obtain ⟨_, _, _, _, _, _, _, p7, _⟩ := HP8.out.at_
      have fz := HP8.out.loose 7
      go_wp2_with fail
      refine pcl_step HP8.out HB8.out hgl (q' := ⟨p, x.id, y.id, .empty, .empty, saidLo (reps C) o, saidHi (reps C) o, x.party, x.cell, x.hour, true, !ub && hh⟩) rfl ?_
      intro W9 hp9 hb9
      go_meet
      case rel => exact ⟨hb9, by rw [← HFI.out, ← HCI.out, ← HFB.out, if_pos HK1.out, if_pos HK1.out, decide_eq_true HK1.out]; exact hp9⟩
     ·have d1 : (x.kind == 1) = false := beq_eq_false_iff_ne.2 k1
      have HK1 := hid k1
      clear k1
      go_wp2_with fail
      go_meet
      case rel => exact ⟨HB6.out, by rw [← HFI.out, ← HCI.out, ← HFB.out, if_neg HK1.out, if_neg HK1.out, decide_eq_false HK1.out]; exact HP6.out⟩
    case rest =>
     obtain ⟨hb7, hp7⟩ := hcut
     have HB7 := hid hb7
     have HP7 := hid hp7
     have HB7w := hid (HB4.out.trans (hb7.mono HB4.out.size))
     have HZ7 := hid (HZ4.out.below hb7)
     clear hb7 hp7 HB6 HP6 HX6 c3
     go_wp2_with fail
     refine (HGO.out wc HB7w.out (by simp)).mono ?_
     rintro e w8 ⟨rfl, hb8⟩
     have HP8 := hid (HP7.out.below hb8)
     have HB8 := hid (HB7.out.trans (hb8.mono HB7.out.size))
     have HZ8 := hid (HZ7.out.below hb8)
     clear hb8
     obtain ⟨_, _, _, p3, p4, _⟩ := HP8.out.at_
     have f3 := HP8.out.loose 3
     have f4 := HP8.out.loose 4
     go_upto_region 13 with (fail)
     refine pcl_gen2 HP8.out HB8.out hgl ?_
     intro W9 hp9 hb9
     have HP9 := hid hp9
     have HB9 := hid (HB4.out.trans (hb9.mono HB4.out.size))
     have HZ9 := hid (HZ4.out.below hb9)
     clear hp9 hb9 p3 p4 f3 f4
     go_wp2_with (first | refine load_pcl rfl _ rfl _ rfl HP9.out ?_ | refine store_pcl rfl _ _ rfl _ rfl rfl HZ9.out ?_)
     refine bodyPost_ret (describe_ret _ _ w.heap.size rfl rfl (pcl_set HZ9.out)) rfl ?_
     refine ⟨below_setRow HB9.out (Nat.le_refl _) _, .inr ⟨by rw [HKP.out]; rfl, o, HO.out, ?_⟩⟩
     rw [HDF.out]
end Go.Proofs.YtfaoillnakhejaaGreat
