/- weighs: the iterator; Ranging over an iterator, the loop variable in a box: the law; weighs. -/
import Derived.RangeFuncBox
import Derived.RangeFuncLeaves
import Derived.RangeFuncNested
import Derived.Shelf.Abstract
import Derived.OwnWalkIn
import Derived.TacticsInMore
import Derived.LoopNIn
import Derived.LoopIn
import Derived.Stop.RegionWithIn
import Derived.Deep.CutRange
import Derived.Deep.CutBlock
import Derived.RangeFuncBound
import Derived.Test.YtfaoillnakhejaaGreatG13
import Derived.Test.YtfaoillnakhejaaGreatG14
namespace Go.Proofs.YtfaoillnakhejaaGreat
set_option maxRecDepth 100000
open Go.RowKit
section
open Go.RowKit Go.Shelf
attribute [local go_sem] Oper.semAt_some
/-- The parcel whose weight a report says something of. -/
def aboutN (x : Rep) : Int := if x.kind = 1 then 10 * x.id else if x.kind = 4 then x.parcel else 0
/-- A report says something of the weight of p. -/
def saysB (C : List Rep) (p : Int) (x : Rep) : Bool := decide (0 < aboutN x) && decide (aliasOf C (aboutN x) = p)
def saysE (C : List Ent) (p : Int) : List Ent := C.filter fun e => saysB (reps C) p e.1
/-- What a round keeps: what lay below n₀, and the two boxes of the iterator. -/
def Keep2 (n₀ B1 B2 : Nat) (W W' : World) : Prop := Below n₀ W W' ∧ (∀ v, W.cell? ⟨B1, 0, none⟩ = some v → W'.cell? ⟨B1, 0, none⟩ = some v) ∧ ∀ v, W.cell? ⟨B2, 0, none⟩ = some v → W'.cell? ⟨B2, 0, none⟩ = some v
theorem Keep2.r {n₀ B1 B2 : Nat} (W : World) : Keep2 n₀ B1 B2 W W := ⟨Below.refl _ _, fun _ h => h, fun _ h => h⟩
theorem Keep2.t {n₀ B1 B2 : Nat} {A C D : World} (h : Keep2 n₀ B1 B2 A C) (k : Keep2 n₀ B1 B2 C D) : Keep2 n₀ B1 B2 A D := ⟨h.1.trans k.1, fun v hv => k.2.1 v (h.2.1 v hv), fun v hv => k.2.2 v (h.2.2 v hv)⟩
theorem Keep2.below {n₀ B1 B2 : Nat} {A C D : World} (h : Keep2 n₀ B1 B2 A C) (hn : n₀ ≤ A.heap.size) (k : Below C.heap.size C D) : Keep2 n₀ B1 B2 A D :=
  ⟨h.1.trans (k.mono (Nat.le_trans hn h.1.size)), fun v hv => Kept.of_below k _ _ (h.2.1 v hv), fun v hv => Kept.of_below k _ _ (h.2.2 v hv)⟩
theorem grown_of_below {w w' : World} (h : Below w.heap.size w w') : w.grownBy w' none := ⟨h.os, h.tape, h.output, h.size, fun k hk _ => h.block k hk⟩
theorem abides_below {β : Type} {B : Nat} {J : β → World → Prop} (h : AbidesFrom B J) {s : β} {W W' : World} (hs : J s W) (hb : Below W.heap.size W W') : J s W' := h s W W' none hs (grown_of_below hb) (fun r e => by cases e)
theorem enters60 : Enters 115 := fun args w => by kernel_rfl
theorem step_callg {P : Program} {ops : Array Oper} {o : Oper} {a : Act} {w : World} {K : Act → World → Prop} {Q : Exit → Act → World → Prop} {E : Prop}
    (hw : Region.wanted o (yielded ops a.tmps) = true) (xs : Array Operand) (f : FuncId) (ats : Array TypeId) (hop : o.op = Op.call { callee := Callee.value (Operand.func f), args := xs, argTypes := ats })
    (hcf : ∀ v w, (callFunc f v).run P w = .ok (.enter f v) w) (v : Array Value) (hv : xs.map a.eval = v) (R : Value → World → Prop)
    (hc : Calls P f v w fun e w' => ∃ u, e = .returned u ∧ R u w') (hK : ∀ u w', R u w' → K (a.put o.dst u) w') :
    if Region.wanted o (yielded ops a.tmps) = true then Oper.wp P o a w K Q else E := by
  rw [if_pos hw]
  unfold Oper.wp
  have hr : (execOp a.eval o).run P w = .ok (.enter f v) w := by
    obtain ⟨dst, op, type, pos, after, guard⟩ := o
    dsimp only at hop
    subst hop
    rw [execOp_call_go, hv]
    simp [hcf]
  rw [hr, Oper.upon_enter]
  refine hc.mono ?_
  rintro e w' ⟨u, rfl, h⟩
  exact hK u w' h
theorem filter_prefix {α : Type} (q : α → Bool) (l : List α) (k : Nat) : (l.take k).filter q <+: l.filter q := by
  conv => rhs; rw [← List.take_append_drop k l, List.filter_append]
  exact List.prefix_append _ _
set_option maxHeartbeats 8000000 in
theorem weighs1_in (n : Nat) (hn : 1 ≤ n) (l B1 B2 : Nat) (w0 : World) {s r1 r2 r3 : Nat} {A : Option Addr} {cap : Nat} {C : List Ent} {fm : Int → Option Ent} {fh : Int → Option Bool} (h : StoreIs w0 s r1 r2 r3 A C.length cap fm (userE C) fh) (hE : EntsAt w0 A C) (hs : Sound (reps C)) (hcl : C.length ≤ 210)
    (p : Int) (J Jx : List Ent → World → Prop) (W : World) (hJ : AbidesFrom W.heap.size J)
    (hY : ∀ pre (x : Ent) W1, J pre W1 → pre.length < C.length → YieldAt Fence.wide (n - 1) Tryz.prog l #[x.1.val x.2.1 x.2.2] W1 fun e W' =>
      (e = .returned (.bool true) ∧ J (pre ++ [x]) W' ∧ Keep2 w0.heap.size B1 B2 W1 W') ∨ (e = .returned (.bool false) ∧ Jx (pre ++ [x]) W'))
    (hW : Below w0.heap.size w0 W) (hB1 : W.cell? ⟨B1, 0, none⟩ = some (.pointer (some ⟨s, 0, none⟩))) (hB2 : W.cell? ⟨B2, 0, none⟩ = some (.int .i64 p)) (h0 : J [] W) :
    Calls Tryz.prog 114 #[.func (.yield l) #[] #[], .pointer (some ⟨B1, 0, none⟩), .pointer (some ⟨B2, 0, none⟩)] W fun e W' => (∃ v, e = .returned v) ∧
      ((∃ ys, ys = saysE C p ∧ J ys W') ∨ (∃ pre, pre <+: saysE C p ∧ Jx pre W')) := by
  have HS := hid h
  have HE := hid hE
  have HSO := hid hs
  have HJ := hid hJ
  have HY := hid hY
  have HW := hid hW
  have HB1 := hid hB1
  have HB2 := hid hB2
  have HJ0 := hid h0
  have hs1 := (h.below hW).cell.1
  clear h hE hs hJ hY hW h0
  go_enter Tryz.func114, Tryz.ntmps114
  go_wp2_with fail
  clear hs1 hB1 hB2
  go_loopg [12] (C.length) (fun g i wr => ∃ k : Nat, k ≤ C.length ∧ g = C.length - k ∧ i = .int .i64 k ∧ Hid (J ((C.take k).filter fun e => saysB (reps C) p e.1) wr) ∧ Hid (Keep2 w0.heap.size B1 B2 W wr))
  case atStart => exact ⟨0, by omega, by omega, rfl, HJ0, hid (Keep2.r _)⟩
  case round =>
    obtain ⟨k, hk, hgk, rfl, hj, hkp⟩ := hrel
    by_cases hlt : k < C.length
    · have hbw := HW.out.trans hkp.out.1
      obtain ⟨b, off, hAe, hc⟩ := (HE.out.below hbw).rows (by omega)
      subst hAe
      have hrange := hc k hlt
      have i0 : (0 : Int) ≤ k := by omega
      have i1 : (k : Int) < C.length := by omega
      have hfs := filter_snoc (fun e : Ent => saysB (reps C) p e.1) C k hlt
      have hfl := filter_take_le (fun e : Ent => saysB (reps C) p e.1) C k
      have hpre := filter_prefix (fun e : Ent => saysB (reps C) p e.1) C (k + 1)
      have hwf := HSO.out.wfs _ (List.mem_map_of_mem (f := Prod.fst) (List.getElem_mem hlt))
      obtain ⟨⟨r, P, c⟩, hx⟩ : ∃ y, C[k] = y := ⟨_, rfl⟩
      rw [hx] at hrange hfs hwf
      dsimp only at hrange hwf hfs
      obtain ⟨F, hF⟩ : ∃ F, (C.take k).filter (fun e : Ent => saysB (reps C) p e.1) = F := ⟨_, rfl⟩
      rw [hF] at hfs hj hfl
      have HBW := hid hbw
      have HR := hid hrange
      have HFS := hid hfs
      have HFL := hid hfl
      have HPRE := hid hpre
      have hid1 := hwf.id
      have hpar := hwf.parcel
      have hb1 := hkp.out.2.1 _ HB1.out
      have hb2 := hkp.out.2.2 _ HB2.out
      have hn0 := HW.out.size
      clear hbw hc hrange hfs hfl hpre hwf hx hF
      have hab : aboutN r = if r.kind = 1 then 10 * r.id else if r.kind = 4 then r.parcel else 0 := rfl
      have hsy : saysB (reps C) p r = (decide (0 < aboutN r) && decide (aliasOf (reps C) (aboutN r) = p)) := rfl
      obtain ⟨ab, habd⟩ : ∃ ab, aboutN r = ab := ⟨_, rfl⟩
      rw [habd] at hab hsy
      have HAB := hid hab
      have HSY := hid hsy
      clear hab hsy habd
      go_upto_block 2 with (first | refine load_rep_mid rfl _ rfl _ _ rfl HR.out ?_ | (refine store_rep_new rfl _ _ rfl rfl rfl rfl rfl ?_; intro W2 hbx2 hb2' hlt2; obtain ⟨c0, c1, c2, c3, c4, c5, c6, c7, c8, c9, c10, c11, c12, c13, c14⟩ := hbx2.at_; have HX2 := hid hbx2; have HJ2 := hid (abides_below HJ.out hj.out hb2'); have HK2 := hid (hkp.out.below hn0 hb2'); clear hbx2 hb2'))
      go_cut [6] from 16 to 26 (fun s6 wx => s6 = .int .i64 ab ∧ W2 = wx)
      case first =>
        by_cases k1 : r.kind = 1
        · have HZ : Hid (ab = 10 * r.id) := hid (by rw [HAB.out, if_pos k1])
          have d1 : (r.kind == 1) = true := beq_iff_eq.2 k1
          clear k1 hpar
          go_wp2_with fail
          go_meet
          case rel => exact ⟨by rw [HZ.out], rfl⟩
        · have d1 : (r.kind == 1) = false := beq_eq_false_iff_ne.2 k1
          by_cases k4 : r.kind = 4
          · have HZ : Hid (ab = r.parcel) := hid (by rw [HAB.out, if_neg k1, if_pos k4])
            have d4 : (r.kind == 4) = true := beq_iff_eq.2 k4
            clear k1 k4 hpar
            go_wp2_with fail
            go_meet
            case rel => exact ⟨by rw [HZ.out], rfl⟩
          · have HZ : Hid (ab = 0) := hid (by rw [HAB.out, if_neg k1, if_neg k4])
            have d4 : (r.kind == 4) = false := beq_eq_false_iff_ne.2 k4
            clear k1 k4 hpar
            go_wp2_with fail
            go_meet
            case rel => exact ⟨by rw [HZ.out], rfl⟩
      case rest =>
        obtain ⟨rfl, rfl⟩ := hcut
        have hb1' := HK2.out.2.1 _ HB1.out
        have hb2'' := HK2.out.2.2 _ HB2.out
        clear hb1 hb2 hid1 hpar HAB
        go_upto_region 9 with fail
        by_cases hpos : 0 < ab
        · have hposd : decide (0 < ab) = true := decide_eq_true hpos
          rw [hposd, Bool.true_and] at HSY
          clear hpos
          rcases hq : decide (aliasOf (reps C) ab = p) with _ | _
          · have HF2 : Hid ((C.take (k + 1)).filter (fun e : Ent => saysB (reps C) p e.1) = F) := hid (by rw [HFS.out, HSY.out]; simp [of_decide_eq_false hq])
            have hne : (aliasOf (reps C) ab == p) = false := beq_eq_false_iff_ne.2 (of_decide_eq_false hq)
            have HAD := hid (alias_any (HS.out.below (HW.out.trans HK2.out.1)).drew HSO.out ab)
            go_cut [41] from 27 to 41 (fun s41 wx => s41 = .bool false ∧ Below W2.heap.size W2 wx)
            case first =>
              first | go_region_with (go_at_call 115; refine (alias_any (HS.out.below (HW.out.trans HK2.out.1)).drew HSO.out ab).mono ?_; rintro e w3 ⟨rfl, hb3⟩; have HB3 := hid ((Below.refl _ W2).drew.trans hb3); have hb2c := Kept.of_below HB3.out _ _ hb2''; clear hb3) | fail
              all_goals
                go_wp2_with fail
                go_meet
                case rel => exact ⟨rfl, HB3.out⟩
            case rest =>
              obtain ⟨rfl, hb9⟩ := hcut
              have HJ9 := hid (abides_below HJ.out HJ2.out hb9)
              have HK9 := hid (HK2.out.below hn0 hb9)
              clear hb9
              go_wp2_with fail
              go_roundg (C.length - (k + 1))
              case measure => omega
              case rel => exact ⟨k + 1, by omega, rfl, by go_num, by rw [HF2.out]; exact HJ9, HK9⟩
          · have HF2 : Hid ((C.take (k + 1)).filter (fun e : Ent => saysB (reps C) p e.1) = F ++ [(r, P, c)]) := hid (by rw [HFS.out, HSY.out]; simp [of_decide_eq_true hq])
            have heq : (aliasOf (reps C) ab == p) = true := beq_iff_eq.2 (of_decide_eq_true hq)
            have HY2 : Hid (∀ W4, Below W2.heap.size W2 W4 → YieldAt Fence.wide (n - 1) Tryz.prog l #[r.val P c] W4 fun e W' => ∃ b, e = .returned (.bool b) ∧ ((b = true ∧ J (F ++ [(r, P, c)]) W' ∧ Keep2 w0.heap.size B1 B2 W4 W') ∨ (b = false ∧ Jx (F ++ [(r, P, c)]) W'))) := hid (fun W4 h4 => YieldAt.mono (HY.out F (r, P, c) W4 (abides_below HJ.out HJ2.out h4) (by have := HFL.out; omega)) (fun e w' h => by
              rcases h with ⟨rfl, h1, h2⟩ | ⟨rfl, h1⟩
              · exact ⟨true, rfl, .inl ⟨rfl, h1, h2⟩⟩
              · exact ⟨false, rfl, .inr ⟨rfl, h1⟩⟩))
            go_cut [41] from 27 to 41 (fun s41 wx => (s41 = .bool false ∧ J (F ++ [(r, P, c)]) wx ∧ Keep2 w0.heap.size B1 B2 W wx) ∨ (s41 = .bool true ∧ Jx (F ++ [(r, P, c)]) wx))
            case first =>
              refine (wpIn_wide (n := n)).1 ?_
              first | gi_region_with (first
                | (refine ⟨trivial, ?_⟩
                   gi_at_call 115
                   refine (callsIn_wide.2 (alias_any (HS.out.below (HW.out.trans HK2.out.1)).drew HSO.out ab)).mono ?_
                   rintro e w3 ⟨rfl, hb3⟩
                   have HB3 := hid ((Below.refl _ W2).drew.trans hb3)
                   have hb2c := Kept.of_below HB3.out _ _ hb2''
                   obtain ⟨c0, c1, c2, c3, c4, c5, c6, c7, c8, c9, c10, c11, c12, c13, c14⟩ := (HX2.out.below HB3.out).at_
                   obtain ⟨fn, tmps, assign, body, hy, hR⟩ := HY2.out w3 HB3.out
                   simp only [Rep.val, Rep.cells] at hy
                   clear hb3)
                | (refine hR.mono ?_
                   rintro e w4 ⟨bo, rfl, hout⟩)) | trace_state
              all_goals
                go_wp2_with fail
                go_meet
                case rel =>
                  rcases hout with ⟨rfl, h1, h2⟩ | ⟨rfl, h1⟩
                  · exact .inl ⟨rfl, h1, HK2.out.t (Keep2.t ((Keep2.r _).below (Nat.le_trans hn0 HK2.out.1.size) HB3.out) h2)⟩
                  · exact .inr ⟨rfl, h1⟩
            case rest =>
              rcases hcut with ⟨rfl, hj9, hk9⟩ | ⟨rfl, hj9⟩
              · have HJ9 := hid hj9
                have HK9 := hid hk9
                clear hj9 hk9
                go_wp2_with fail
                go_roundg (C.length - (k + 1))
                case measure => omega
                case rel => exact ⟨k + 1, by omega, rfl, by go_num, by rw [HF2.out]; exact HJ9, HK9⟩
              · have HJ9 := hid hj9
                clear hj9
                go_wp2_with fail
                refine bodyPost_ret (results_none rfl _ _ _) rfl ?_
                refine ⟨⟨_, rfl⟩, .inr ⟨_, ?_, HJ9.out⟩⟩
                have := HPRE.out
                rw [HF2.out] at this
                exact this
        · have HF2 : Hid ((C.take (k + 1)).filter (fun e : Ent => saysB (reps C) p e.1) = F) := hid (by rw [HFS.out, HSY.out, decide_eq_false hpos]; simp)
          have hposd : decide (0 < ab) = false := decide_eq_false hpos
          go_quiet (fail)
          go_wp2_with fail
          go_roundg (C.length - (k + 1))
          case measure => omega
          case rel => exact ⟨k + 1, by omega, rfl, by go_num, by rw [HF2.out]; exact hid (abides_below HJ.out HJ2.out (Below.drewN' (Below.refl _ _) _)), hid (HK2.out.below hn0 (Below.drewN' (Below.refl _ _) _))⟩
    · obtain rfl : k = C.length := by omega
      have hj2 := hj.out
      rw [List.take_length] at hj2
      have HJ2 := hid hj2
      clear hj2
      go_wp2_with fail
      go_end0
      exact ⟨⟨_, rfl⟩, .inl ⟨_, rfl, HJ2.out⟩⟩
end
theorem wpListIn_store_row {F : Fence} {n : Nat} {P : Program} {ops : Array Oper} {rest : List Oper} {o : Oper} {a : Act} {w : World} {Q : Exit → Act → World → Prop} (hgd : o.guard = none) (ty : TypeId) (x y : Operand) (ho : o.op = .store ty x y)
    (g : Nat) (cells : Array Value) (hx : a.eval x = .pointer (some ⟨g, 0, none⟩)) (hy : a.eval y = .agg cells)
    (t : TypeId) (old : Array Value) (hg : w.heap[g]? = some (.cells old t (0, 0))) (hi : (P.info? ty).map (·.size) = some cells.size)
    (hold : old.size = cells.size) (h1 : cells.all (·.oneCell') = true)
    (h : wpListIn F n P ops Q rest (a.put o.dst undef) (w.setRow g cells)) : wpListIn F n P ops Q (o :: rest) a w := by
  refine wpListIn_plain hgd fun K hK => ?_
  unfold Oper.wpIn
  refine ⟨?_, ?_⟩
  · simp [Oper.about, ho]
  · rw [Oper.semAt_plain F _ _ (by rw [ho]; intro c hc'; cases hc')]
    unfold execOp
    simp only [ho, hx, hy, Instr.storeAt, Instr.sureAddr, Sem.run_bind, Sem.run_pure, Result.andThen_ok, run_storeVar_row w g t ty old cells hg hi hold h1]
    exact hK _ _ h
/-- A whole report into a new row, within a fence. -/
theorem store_rep_newIn {F : Fence} {n : Nat} {ops : Array Oper} {rest : List Oper} {o : Oper} {a : Act} {w : World} {Q : Exit → Act → World → Prop} (hgd : o.guard = none) (x y : Operand) (ho : o.op = .store 46 x y)
    {g : Nat} (hx : a.eval x = .pointer (some ⟨g, 0, none⟩)) (hgw : g = w.heap.size) {r : Rep} {A : Option Addr} {c : Nat} (hy : a.eval y = r.val A c) {zs : Array Value} (hs : zs.size = 15)
    (h : ∀ W, BoxIs W g r A c → Below w.heap.size w W → w.heap.size < W.heap.size → wpListIn F n Tryz.prog ops Q rest (a.put o.dst undef) W) : wpListIn F n Tryz.prog ops Q (o :: rest) a (w.alloc (.cells zs 46)) := by
  subst hgw
  refine wpListIn_store_row hgd _ x y ho w.heap.size (r.cells A c) hx hy _ zs (heap_alloc_new w _) rep_info (hs.trans (rep_size r A c).symm) (rep_one r A c) (h _ (box_set (heap_alloc_new w _)) (below_setRow ((Below.refl _ _).alloc (Nat.le_refl _) _) (Nat.le_refl _) _) ?_)
  simp
theorem keeps_below {B : Nat} {W W' : World} (h : Below W.heap.size W W') : KeepsFrom B W W' := ⟨h.size, fun k _ _ hk _ => (h.block k (Array.getElem?_eq_some_iff.1 hk).1).trans hk⟩
/-- The law of a loop over an iterator whose variable lies in a box of its own. -/
theorem range_box {F : Fence} {n : Nat} {P : Program} {α : Type} {g : Operand} {p : Tmp} {assign body : Code} {Q : Exit → Act → World → Prop} {a : Act} {w : World}
    (hro : F.round = none) (h1 : 1 ≤ n) {gf : Nat} {lb : Array Value} (hg : a.eval g = .func (.func gf) #[] lb) (hFg : F.fn gf) (eg : ∀ args w, (callFunc gf args).run P w = .ok (.enter gf args) w)
    {enc : α → Value} {Kp : World → World → Prop} {S Sp : List α → Prop} {N : Nat} {w0 : World} (hseq : SeqStopsK F (n - 1) P gf lb (fun x => #[enc x]) Kp S Sp N w0)
    (hKt : ∀ {A B C : World}, Kp A B → Kp B C → Kp A C) (hKb : ∀ (W : World) (l : Nat) (o o' : Obj), w.heap.size ≤ l → W.heap[l]? = some o → o.isCells = false → o.isWalk = false → Kp W (W.putObj l o')) (hb0 : Below w0.heap.size w0 w)
    (I : List α → World → Prop) (hI : OwnFrom w.heap.size I) (h0 : I [] w) (d : Nat) (BX : World → Nat → α → Prop) (hBX : ∀ x b, OwnFrom w.heap.size (fun (_ : Unit) W => BX W b x))
    (hassign : ∀ (l : Nat) (pre : List α) (x : α) (W : World) (K : Act → World → Prop), I pre W → (∀ b W', KeepsFrom w.heap.size W W' → Kp W W' → I pre W' → BX W' b x → K { tmps := (a.tmps.setIfInBounds p (enc x)).setIfInBounds d (.pointer (some ⟨b, 0, none⟩)), defers := [] } W') →
      assign.wpIn (F.inRound l) (n - 1 - 1) P (Exit.then K (fun _ _ _ => False)) { tmps := a.tmps.setIfInBounds p (enc x), defers := [] } W)
    (hbody : ∀ (l : Nat) (pre : List α) (x : α) (b : Nat) (W : World), I pre W → BX W b x → pre.length < N →
      body.wpIn (F.inRound l) (n - 1 - 1) P (ownPostG w.heap.size Kp I (fun _ _ _ => False) (pre ++ [x]) W) { tmps := (a.tmps.setIfInBounds p (enc x)).setIfInBounds d (.pointer (some ⟨b, 0, none⟩)), defers := [] } W)
    (hdone : ∀ (D : Nat) (xs : List α) (W : World), w.heap.size ≤ D → S xs → I xs W → W.heap[D]? = some (.deferred (some [])) → Q .normal { a with defers := { target := .collected D, args := #[] } :: a.defers } W) :
    (Code.rangeFunc g #[p] assign body).wpIn F n P Q a w := by
  have hf : ∀ x, (((#[p] : Array Tmp).zip #[enc x]).foldl (fun t (p, v) => t.setIfInBounds p v) a.tmps) = a.tmps.setIfInBounds p (enc x) := fun x => by simp
  refine wpIn_rangeFunc_ownH hro h1 hg hFg eg hseq hKt hKb hb0 (fun _ => rfl) I (fun _ _ _ => False) hI (fun _ _ _ _ _ hs _ _ => hs) h0
    (fun x a' W => ∃ b, BX W b x ∧ a' = { tmps := (a.tmps.setIfInBounds p (enc x)).setIfInBounds d (.pointer (some ⟨b, 0, none⟩)), defers := [] })
    (fun x a' u X Y row hs hg hr => by obtain ⟨b, h1, h3⟩ := hs; exact ⟨b, hBX x b () X Y row h1 hg hr, h3⟩) ?_ ?_ hdone ?_
  · intro l pre x W K hi hK
    rw [hf x]
    exact hassign l pre x W K hi (fun b W' h1 h2 h3 h4 => hK _ W' h1 h2 h3 ⟨b, h4, rfl⟩)
  · rintro l pre x a' W hl hr hi ⟨b, h1, rfl⟩ hlt
    exact hbody l pre x b W hi h1 hlt
  · rintro D c pre W _ _ h _
    exact h.elim
theorem Keep2.put {n₀ B1 B2 : Nat} {w : World} (hn : n₀ ≤ w.heap.size) (W : World) (l : Nat) (o o' : Obj) (hl : w.heap.size ≤ l) (h : W.heap[l]? = some o) (hc : o.isCells = false) (hw : o.isWalk = false) : Keep2 n₀ B1 B2 W (W.putObj l o') := by
  have hne : ∀ {B : Nat} {v : Value}, W.cell? ⟨B, 0, none⟩ = some v → B ≠ l := by
    rintro B v hv rfl
    rcases o with _ | _ | _ | _ | _ | _ | _ | _ | _ <;> simp [World.cell?, h, Obj.isCells] at hv hc
  have hk : ∀ {B : Nat} {v : Value}, W.cell? ⟨B, 0, none⟩ = some v → (W.putObj l o').cell? ⟨B, 0, none⟩ = some v := by
    intro B v hv
    rw [← hv]
    refine World.cell?_of_block ?_
    exact (grownBy_putObj' W l o').block B (by
      rcases Nat.lt_or_ge B W.heap.size with h' | h'
      · exact h'
      · simp [World.cell?, Array.getElem?_eq_none h'] at hv) (by simpa using hne hv)
  exact ⟨belowK_b hn W l o o' hl h hc hw, fun v hv => hk hv, fun v hv => hk hv⟩
theorem two_new (w : World) (v1 v2 : Value) (t1 t2 : TypeId) : ((w.alloc (.cells #[v1] t1)).alloc (.cells #[v2] t2)).cell? ⟨w.heap.size, 0, none⟩ = some v1 ∧ ((w.alloc (.cells #[v1] t1)).alloc (.cells #[v2] t2)).cell? ⟨w.heap.size + 1, 0, none⟩ = some v2 := by
  refine ⟨((Boxed.new w t1 v1).alloc _).cell, ?_⟩
  have h := (Boxed.new (w.alloc (.cells #[v1] t1)) t2 v2).cell
  rwa [World.size_alloc] at h
theorem keep2_set {n₀ B1 B2 g i : Nat} {W : World} {v : Value} (hn : n₀ ≤ g) (h1 : B1 ≠ g) (h2 : B2 ≠ g) : Keep2 n₀ B1 B2 W (W.setCell ⟨g, i, none⟩ v) := by
  have hk : ∀ {B : Nat} {u : Value}, B ≠ g → W.cell? ⟨B, 0, none⟩ = some u → (W.setCell ⟨g, i, none⟩ v).cell? ⟨B, 0, none⟩ = some u := by
    intro B u hB hu
    rw [← hu]
    refine World.cell?_of_block ?_
    simp only [World.setCell, Array.getElem?_modify]
    rw [if_neg (fun e => hB e.symm)]
  exact ⟨(Below.refl _ _).setCell (p := ⟨g, i, none⟩) hn _, fun _ hv => hk h1 hv, fun _ hv => hk h2 hv⟩
theorem weighs_any (s : Nat) (p : Int) (w : World) :
    Calls Tryz.prog 75 #[.pointer (some ⟨s, 0, none⟩), .int .i64 p] w fun e w' =>
      e = .returned (.func (.func 114) #[] #[.pointer (some ⟨w.heap.size, 0, none⟩), .pointer (some ⟨w.heap.size + 1, 0, none⟩)]) ∧ Below w.heap.size w w' ∧
      w'.cell? ⟨w.heap.size, 0, none⟩ = some (.pointer (some ⟨s, 0, none⟩)) ∧ w'.cell? ⟨w.heap.size + 1, 0, none⟩ = some (.int .i64 p) ∧ w.heap.size + 1 < w'.heap.size := by
  go_enter Tryz.func75, Tryz.ntmps75
  go_wp2_with fail
  go_ret
  have h := two_new w (.pointer (some ⟨s, 0, none⟩)) (.int .i64 p)
  exact ⟨rfl, ((Below.refl _ _).alloc (Nat.le_refl _) _).alloc (by simp) _, (h _ _).1, (h _ _).2, by simp⟩
theorem weighs_stops (n : Nat) (hn : 1 ≤ n) (B1 B2 : Nat) (w0 : World) {s r1 r2 r3 : Nat} {A : Option Addr} {cap : Nat} {C : List Ent} {fm : Int → Option Ent} {fh : Int → Option Bool} (h : StoreIs w0 s r1 r2 r3 A C.length cap fm (userE C) fh) (hE : EntsAt w0 A C) (hs : Sound (reps C)) (hcl : C.length ≤ 210)
    (p : Int) (w : World) (hw : Below w0.heap.size w0 w) (hB1 : w.cell? ⟨B1, 0, none⟩ = some (.pointer (some ⟨s, 0, none⟩))) (hB2 : w.cell? ⟨B2, 0, none⟩ = some (.int .i64 p)) :
    SeqStopsK Fence.wide n Tryz.prog 114 #[.pointer (some ⟨B1, 0, none⟩), .pointer (some ⟨B2, 0, none⟩)] (fun e : Ent => #[e.1.val e.2.1 e.2.2]) (Keep2 w0.heap.size B1 B2) (fun ys => ys = saysE C p) (fun pre => pre <+: saysE C p) C.length w :=
  fun l J Jx W hW hJ _ hY h0 => callsIn_wide.2 (weighs1_in n hn l B1 B2 w0 h hE hs hcl p J Jx W hJ hY (hw.trans (hW.mono hw.size)) (Kept.of_below hW _ _ hB1) (Kept.of_below hW _ _ hB2) h0)
end Go.Proofs.YtfaoillnakhejaaGreat
