/- releases; described; follows; back and on: the parcels that a parcel comes from, and that come from it. -/
import Derived.Test.YtfaoillnakhejaaGreatG13
import Derived.Deep.RegionLaw
import Derived.BigCall
namespace Go.Proofs.YtfaoillnakhejaaGreat
set_option maxRecDepth 100000
open Go.RowKit
section
open Go.RowKit
set_option linter.unusedSimpArgs false
/-- A call of a Go function as a step of a region that draws its order. -/
theorem step_call {P : Program} {ops : Array Oper} {o : Oper} {a : Act} {w : World} {K : Act → World → Prop} {Q : Exit → Act → World → Prop} {E : Prop}
    (hg : o.guard = none) (xs : Array Operand) (f : FuncId) (ats : Array TypeId) (hop : o.op = Op.call { callee := Callee.value (Operand.func f), args := xs, argTypes := ats })
    (hcf : ∀ v w, (callFunc f v).run P w = .ok (.enter f v) w) (v : Array Value) (hv : xs.map a.eval = v) (R : Value → World → Prop)
    (hc : Calls P f v w fun e w' => ∃ u, e = .returned u ∧ R u w') (hK : ∀ u w', R u w' → K (a.put o.dst u) w') :
    if Region.wanted o (yielded ops a.tmps) = true then Oper.wp P o a w K Q else E := by
  have hw : Region.wanted o (yielded ops a.tmps) = true := by simp [Region.wanted, hg]
  rw [if_pos hw]
  unfold Oper.wp
  have hr : (execOp a.eval o).run P w = .ok (.enter f v) w := by
    obtain ⟨dst, op, type, pos, after, guard⟩ := o
    dsimp only at hop
    subst hop
    rw [execOp_call_go, hv]
    simp [hcf]
  rw [hr, Oper.upon_enter]
  refine hc.mono ?_
  rintro e w' ⟨u, rfl, h⟩
  exact hK u w' h
/-- An append whose run is known, as a step of such a region. -/
theorem step_app {P : Program} {ops : Array Oper} {o : Oper} {a : Act} {w w' : World} {K : Act → World → Prop} {Q : Exit → Act → World → Prop} {E : Prop}
    (hg : o.guard = none) {s x : Operand} {t ty : TypeId} {v src v' : Value} (ho : o.op = .call { callee := .builtin .append, args := #[s, x], argTypes := #[t, t] }) (hty : o.type = ty) (hs : a.eval s = v) (hx : a.eval x = src)
    (hr : (Builtin.append_ #[t, t] ty #[v, src]).run P w = .ok v' w') (hK : K (a.put o.dst v') w') :
    if Region.wanted o (yielded ops a.tmps) = true then Oper.wp P o a w K Q else E := by
  have hw : Region.wanted o (yielded ops a.tmps) = true := by simp [Region.wanted, hg]
  rw [if_pos hw]
  unfold Oper.wp execOp
  subst hty
  simp only [ho, resolve, invoke, builtin, Sem.run_bind, Sem.run_pure, Result.andThen_ok, List.map_toArray, List.map_cons, List.map_nil, hs, hx, hr]
  exact hK
theorem enters115 : Enters 141 := fun args w => by kernel_rfl
theorem enters50 : Enters 58 := fun args w => by kernel_rfl
theorem EntsAt.drop {w : World} {b off : Nat} {L : List Ent} (h : EntsAt w (some ⟨b, off, none⟩) L) (k : Nat) : EntsAt w (some ⟨b, off + k * 15, none⟩) (L.drop k) := ⟨fun h0 => by
  obtain ⟨b', off', e, hc⟩ := h.rows (by simp at h0; omega)
  cases e
  refine ⟨b, _, rfl, fun i hi => ?_⟩
  have h3 : k + i < L.length := by simp at hi; omega
  have := hc (k + i) h3
  rw [show off + (k + i) * 15 = off + k * 15 + i * 15 by omega] at this
  simpa using this, fun e he => h.parts e (List.mem_of_mem_drop he)⟩
theorem releases_at : ∀ {L : List Ent} {of : Int} {k : Nat} (h : k < L.length), L[k].1.id = of → (∀ e ∈ L.take k, decide (e.1.id = of) = false) →
    releases (reps L) of = if L[k].1.kind ≠ 4 ∧ laterB L[k].1 (reps (L.drop (k + 1))) = true then 8 else 0
  | e :: L, of, 0, _, h1, _ => by
    simp only [List.getElem_cons_zero] at h1 ⊢
    show releases (e.1 :: reps L) of = _
    unfold releases
    rw [if_pos h1]
    rfl
  | e :: L, of, k + 1, h, h1, h2 => by
    simp only [List.getElem_cons_succ] at h1 ⊢
    show releases (e.1 :: reps L) of = _
    unfold releases
    rw [if_neg (by have := h2 e (by simp); simpa using this)]
    exact releases_at (by simpa using h) h1 (fun e he => h2 e (by simp [he]))
theorem releases_none : ∀ {L : List Ent} {of : Int}, (∀ e ∈ L, decide (e.1.id = of) = false) → releases (reps L) of = 5
  | [], of, _ => rfl
  | e :: L, of, h => by
    show releases (e.1 :: reps L) of = 5
    unfold releases
    rw [if_neg (by have := h e (by simp); simpa using this)]
    exact releases_none (fun e he => h e (by simp [he]))
def hits (x : Rep) (ts ms : List Int) (y : Rep) : Bool := (x.kind != 4) && (ts ++ ms).any (fun p => decide (y.names p))
def namesOne (l : List Int) (y : Rep) : Bool := l.any fun p => decide (y.names p)
theorem laterB_eq (x : Rep) (l : List Rep) : laterB x l = l.any (namesOne (x.touches ++ x.makes)) := rfl
set_option maxHeartbeats 16000000 in
theorem releases_any {w : World} {s r1 r2 r3 : Nat} {A : Option Addr} {cap : Nat} {L : List Ent} {fm fu : Int → Option Ent} {fh : Int → Option Bool} (h : StoreIs w s r1 r2 r3 A L.length cap fm fu fh) (hA : EntsAt w A L) (hwf : ∀ e ∈ L, e.1.Wf) (hl : L.length ≤ 210) (hcap : L.length ≤ cap) (hcm : cap ≤ maxLen) (of : Int) :
    Calls Tryz.prog 101 #[.pointer (some ⟨s, 0, none⟩), .int .i64 of] w fun e w' => e = .returned (.int .i64 (releases (reps L) of)) ∧ Below w.heap.size w w' := by
  obtain ⟨W, hW⟩ : ∃ W, w.alloc (.cells #[.int .i64 of] 3) = W := ⟨_, rfl⟩
  have hbW : Below w.heap.size w W := by rw [← hW]; exact (Below.refl _ _).alloc (Nat.le_refl _) _
  have hcell : W.cell? ⟨w.heap.size, 0, none⟩ = some (.int .i64 of) := by rw [← hW]; simp
  have hlt : w.heap.size < W.heap.size := cell_lt hcell
  have HBW := hid hbW
  have HC := hid hcell
  have HS := hid (h.below hbW)
  have HE := hid (hA.below hbW)
  have HWF := hid hwf
  have HCAP := hid hcap
  have HCM := hid hcm
  obtain ⟨R, hR⟩ : ∃ R, releases (reps L) of = R := ⟨_, rfl⟩
  have HRR := hid hR
  rw [hR]
  obtain ⟨s0, s1, s2, s3⟩ := HS.out.cell
  clear h hA hbW hwf hR hcap hcm s1 s2 s3
  go_enter Tryz.func101, Tryz.ntmps101
  go_wp2_with fail
  refine (indexReps_any _ enters114 (.pointer (some ⟨w.heap.size, 0, none⟩)) (fun r => decide (r.id = of)) A cap L W (by omega) HE.out.rows (releases1_asks HC.out L)).mono ?_
  rintro e w1 ⟨⟨i, rfl, hi⟩, hb1⟩
  have HB1 := hid (HBW.out.trans (hb1.mono HBW.out.size))
  have HS1 := hid (HS.out.below hb1)
  have HE1 := hid (HE.out.below hb1)
  have hw1 : w.heap.size < w1.heap.size := by have := hb1.size; omega
  obtain ⟨s0, s1, s2, s3⟩ := HS1.out.cell
  clear hb1 HS HE HBW hW hlt HC s1 s2 s3
  rcases hi with ⟨rfl, hno⟩ | ⟨k, hk, rfl, hyes, hno⟩
  · have HN := hid hno
    clear hno
    go_wp2_with fail
    go_ret
    exact ⟨ret_int (by rw [← HRR.out, releases_none HN.out]), HB1.out⟩
  have hrel := releases_at hk (by simpa using hyes) hno
  rw [HRR.out] at hrel
  obtain ⟨b, off, hAe, hc⟩ := HE1.out.rows (by omega)
  subst hAe
  have hrange := hc k hk
  have hwf := HWF.out L[k] (List.getElem_mem hk)
  have hpt := HE1.out.parts L[k] (List.getElem_mem hk)
  obtain ⟨⟨x, P, c⟩, hx⟩ : ∃ x, L[k] = x := ⟨_, rfl⟩
  rw [hx] at hrel hrange hwf hpt
  dsimp only at hrel hrange hwf
  have HREL := hid hrel
  have HR := hid hrange
  have HW := hid hwf
  have HPT := hid hpt
  have i0 : (0 : Int) ≤ k := by omega
  have i1 : (k : Int) < L.length := by omega
  have i2 : ¬ (k : Int) < 0 := by omega
  clear hno hyes hrel hc hrange hwf hpt hx HRR
  go_upto_region 5 with (first | refine load_rep_mid rfl _ rfl _ _ rfl HR.out ?_ | (refine store_rep_new rfl _ _ rfl rfl rfl rfl rfl ?_; intro W2 hbx2 hb2 hlt2; have HBX2 := hid hbx2; have HB2 := hid hb2))
  obtain ⟨ts, hts⟩ : ∃ ts, x.touches = ts := ⟨_, rfl⟩
  obtain ⟨ms, hms⟩ : ∃ ms, x.makes = ms := ⟨_, rfl⟩
  have htl := touches_len x HPT.out.len
  have hml := makes_len x HW.out
  have hto := touches_own x P c W2.drew HPT.out.len ((HPT.out.ints.kept (Kept.of_below HB2.out)).kept (Calm.drew _).kept)
  have hmk : ∀ v, Calls Tryz.prog 58 #[x.val P c] v (fun e w' => ∃ u, e = .returned u ∧ w'.ownsRow v.heap.size 3 1 u ms.length (ints ms) ∧ Below v.heap.size v w') := fun v => by
    rw [← hms]
    exact makes_own x P c v HW.out
  rw [hts] at htl hto
  rw [hms] at hml
  have HTO := hid hto
  have HMK := hid hmk
  have HTS := hid hts
  have HMS := hid hms
  obtain ⟨c0, c1, c2, c3, c4, c5, c6, c7, c8, c9, c10, c11, c12, c13, c14⟩ := HBX2.out.at_
  clear hto hmk hts hms hbx2 hb2 s0
  go_frame
  go_cut [7] from 25 (fun s7 wx => ∃ A7 k7, s7 = .slice A7 (ts ++ ms).length k7 ∧ IntsAt wx A7 (ts ++ ms) ∧ Below W2.heap.size W2 wx)
  case first =>
    go_region_law (first
      | (refine step_call rfl #[.tmp 25] 141 #[46] rfl enters115 #[x.val P c] ?hs (fun u w' => w'.ownsRow W2.drew.heap.size 3 1 u ts.length (ints ts) ∧ Below W2.drew.heap.size W2.drew w') HTO.out ?_
         case hs => simp [Act.eval, Act.put, Rep.val, Rep.cells]
         rintro v2 w2 ⟨ho2, hb2⟩
         have HO2 := hid ho2
         have HBB2 := hid hb2
         obtain ⟨d0, d1, d2, d3, d4, d5, d6, d7, d8, d9, d10, d11, d12, d13, d14⟩ := ((HBX2.out.calm (Calm.drew _)).below hb2).at_
         clear ho2 hb2)
      | (refine step_call rfl #[.tmp 27] 58 #[46] rfl enters50 #[x.val P c] ?hs (fun u w' => w'.ownsRow w2.heap.size 3 1 u ms.length (ints ms) ∧ Below w2.heap.size w2 w') (HMK.out w2) ?_
         case hs => simp [Act.eval, Act.put, Rep.val, Rep.cells]
         rintro v3 w3 ⟨ho3, hb3⟩
         obtain ⟨A3, k3, rfl, hx9⟩ := ownsRow.form ho3
         obtain ⟨v4, w4, hrn, ho4, hg4⟩ := app_ints (base := W2.drew.heap.size) (own_below HO2.out hb3) (A := A3) (c := k3) (ownsRow_ints ho3) (by omega) (by have := HBB2.out.size; have := hb3.size; omega)
         have HRN := hid hrn
         have HO4 := hid ho4
         have HB4 : Hid (Below W2.heap.size W2 w4) := hid (((Below.refl _ W2).drew.trans (HBB2.out.trans (hb3.mono HBB2.out.size))).grown hg4 (by have := HBB2.out.size; have := hb3.size; show W2.drew.heap.size ≤ _; omega) (fun j e => ((own_below HO2.out hb3).lt j e).1))
         clear ho3 hb3 hx9 hrn ho4 hg4)
      | (refine step_app rfl (s := .tmp 26) (x := .tmp 28) rfl rfl ?hs ?hx HRN.out ?_
         case hs => simp [Act.eval, Act.put]
         case hx => simp [Act.eval, Act.put]))
    all_goals
      go_wp2_with fail
      go_meet
      case rel =>
        obtain ⟨A7, k7, rfl, _⟩ := ownsRow.form HO4.out
        exact ⟨A7, k7, rfl, ownsRow_ints HO4.out, HB4.out⟩
  case rest =>
    obtain ⟨A7, k7, rfl, hI7, hB7⟩ := hcut
    have HI7 := hid hI7
    have HB7 := hid (HB1.out.trans ((HB2.out.trans (hB7.mono HB2.out.size)).mono HB1.out.size))
    have HS7 := hid ((HS1.out.below HB2.out).below hB7)
    have HE7 := hid ((HE1.out.below HB2.out).below hB7)
    have HX7 := hid (HBX2.out.below hB7)
    have hw7 : w.heap.size < wc.heap.size := by have := hB7.size; omega
    obtain ⟨s0, s1, s2, s3⟩ := HS7.out.cell
    have hcap := HCAP.out
    have hcm := HCM.out
    have i3 : (k : Int) + 1 ≤ L.length := by omega
    have hhit : ∀ {l : List Rep}, l.any (hits x ts ms) = ((x.kind != 4) && laterB x l) := fun {l} => by
      rw [laterB_eq, ← HTS.out, ← HMS.out]
      induction l with
      | nil => simp
      | cons y l ih =>
        rw [List.any_cons, List.any_cons, ih]
        unfold hits namesOne
        cases (x.kind != 4) <;> simp
    have HIT : Hid ((reps (L.drop (k + 1))).any (hits x ts ms) = true → x.kind ≠ 4 ∧ laterB x (reps (L.drop (k + 1))) = true) := hid (fun h => by
      rw [hhit, Bool.and_eq_true] at h
      exact ⟨by simpa using h.1, h.2⟩)
    have MISS : Hid ((reps (L.drop (k + 1))).any (hits x ts ms) = false → R = 0) := hid (fun h => by
      rw [HREL.out, if_neg]
      rintro ⟨h1, h2⟩
      rw [hhit, h2, Bool.and_true] at h
      simp [h1] at h)
    clear hhit
    clear hI7 hB7 c0 c1 c2 c3 c4 c5 c6 c7 c8 c9 c10 c11 c12 c13 c14 s1 s2 s3 HS1 HE1 HB1 HB2 HBX2 HTO HMK
    go_wp2_with fail
    clear s0
    · go_loopg [38] ((L.drop (k + 1)).length) (fun g i wr => ∃ j : Nat, j ≤ (L.drop (k + 1)).length ∧ g = (L.drop (k + 1)).length - j ∧ i = .int .i64 j ∧ Hid (((reps (L.drop (k + 1))).take j).any (hits x ts ms) = false) ∧ Hid (Below wc.heap.size wc wr))
      case atStart => exact ⟨0, by omega, by omega, rfl, hid (by simp), hid (Below.refl _ _)⟩
      case round =>
        obtain ⟨j, hj, hgj, rfl, hno, hbw⟩ := hrel
        have hlen : (L.drop (k + 1)).length = 0 := by simp; omega
        obtain rfl : j = 0 := by omega
        have HB9 := hid (HB7.out.trans (hbw.out.mono HB7.out.size))
        have HN := hid (MISS.out (by rw [List.eq_nil_of_length_eq_zero hlen]; rfl))
        have hll : L.length - (k + 1) = 0 := by omega
        rw [hll]
        go_wp2_with fail
        go_ret
        exact ⟨ret_int HN.out.symm, HB9.out⟩
    · go_loopg [38] ((L.drop (k + 1)).length) (fun g i wr => ∃ j : Nat, j ≤ (L.drop (k + 1)).length ∧ g = (L.drop (k + 1)).length - j ∧ i = .int .i64 j ∧ Hid (((reps (L.drop (k + 1))).take j).any (hits x ts ms) = false) ∧ Hid (Below wc.heap.size wc wr))
      case atStart => exact ⟨0, by omega, by omega, rfl, hid (by simp), hid (Below.refl _ _)⟩
      case round =>
        obtain ⟨j, hj, hgj, rfl, hno, hbw⟩ := hrel
        have HB9 := hid (HB7.out.trans (hbw.out.mono HB7.out.size))
        by_cases hjl : j < (L.drop (k + 1)).length
        · have hD := (HE7.out.drop (k + 1)).below hbw.out
          obtain ⟨b2, off2, hAe2, hc2⟩ := hD.rows (by omega)
          cases hAe2
          have hrange2 := hc2 j hjl
          have j0 : (0 : Int) ≤ j := by omega
          have j1 : (j : Int) < ((L.length - (k + 1) : Nat) : Int) := by simp at hjl; omega
          have hjr : j < (reps (L.drop (k + 1))).length := by simpa using hjl
          have hsn := any_take_snoc (hits x ts ms) (reps (L.drop (k + 1))) j hjr
          have hmem := List.getElem_mem hjr
          have hyes : hits x ts ms (reps (L.drop (k + 1)))[j] = true → R = 8 := fun h => by
            rw [HREL.out, if_pos]
            refine HIT.out (List.any_eq_true.2 ⟨_, hmem, h⟩)
          have hmy : (L.drop (k + 1))[j] ∈ L := List.mem_of_mem_drop (List.getElem_mem hjl)
          have hwy := HWF.out _ hmy
          have hpy := hD.parts _ (List.getElem_mem hjl)
          have hry : (reps (L.drop (k + 1)))[j] = (L.drop (k + 1))[j].1 := by simp
          rw [hry] at hsn hyes
          obtain ⟨⟨y, P', c'⟩, hy⟩ : ∃ y, (L.drop (k + 1))[j] = y := ⟨_, rfl⟩
          rw [hy] at hrange2 hsn hyes hwy hpy
          dsimp only at hsn hyes hwy hrange2
          have hbd : hits x ts ms y = ((x.kind != 4) && (ts ++ ms).any (fun p => decide (y.names p))) := rfl
          have HR2 := hid hrange2
          have HSN := hid hsn
          have HYES := hid hyes
          have HBD := hid hbd
          have HWY := hid hwy
          have HPY := hid hpy
          clear hD hc2 hrange2 hjr hsn hmem hyes hmy hwy hpy hry hy hbd
          rcases h4 : (x.kind != 4) with _ | _
          · rw [h4, Bool.false_and] at HBD
            go_wp2_with (first | refine load_rep_mid rfl _ rfl _ _ rfl HR2.out ?_ | (refine store_rep_new rfl _ _ rfl rfl rfl rfl rfl ?_; intro W5 hbx5 hb5 hlt5; obtain ⟨d0, d1, d2, d3, _⟩ := ((HX7.out.below hbw.out).below hb5).at_; have HB5 := hid (hbw.out.trans (hb5.mono hbw.out.size)); clear hbx5 hb5 d0 d1 d2))
            go_roundg ((L.drop (k + 1)).length - (j + 1))
            case measure => omega
            case rel => exact ⟨j + 1, by omega, rfl, by go_num, hid (by rw [HSN.out, hno.out, HBD.out]; rfl), HB5⟩
          · rw [h4, Bool.true_and] at HBD
            obtain ⟨bn, hbn⟩ : ∃ bn, (ts ++ ms).any (fun p => decide (y.names p)) = bn := ⟨_, rfl⟩
            have HBN := hid hbn
            rw [hbn] at HBD
            have hcn := fun W5 (hb5 : Below wr.heap.size wr W5) (hx5 : BoxIs W5 wr.heap.size y P' c') => containsInts_any _ enters117 (.pointer (some ⟨wr.heap.size, 0, none⟩)) _ A7 k7 (ts ++ ms) W5 (by simp; omega) ((HI7.out.kept (Kept.of_below hbw.out)).kept (Kept.of_below hb5)) (releases2_asks hx5 (HPY.out.kept (Kept.of_below hb5)) HWY.out (ts ++ ms)) HBN.out
            simp only [List.length_append] at hcn
            have HCN := hid hcn
            clear hbn hcn
            go_wp2_with (first | refine load_rep_mid rfl _ rfl _ _ rfl HR2.out ?_ | (refine store_rep_new rfl _ _ rfl rfl rfl rfl rfl ?_; intro W5 hbx5 hb5 hlt5; obtain ⟨d0, d1, d2, d3, _⟩ := ((HX7.out.below hbw.out).below hb5).at_; have HB5 := hid (hbw.out.trans (hb5.mono hbw.out.size)); have HCC := hid (HCN.out W5 hb5 hbx5); clear hbx5 hb5 d0 d1 d2))
            refine HCC.out.mono ?_
            rintro e w6 ⟨rfl, hb6⟩
            have HB6 := hid (HB5.out.trans (hb6.mono HB5.out.size))
            have HB8 := hid (HB7.out.trans (HB6.out.mono HB7.out.size))
            clear hb6
            cases bn
            · go_wp2_with fail
              go_roundg ((L.drop (k + 1)).length - (j + 1))
              case measure => omega
              case rel => exact ⟨j + 1, by omega, rfl, by go_num, hid (by rw [HSN.out, hno.out, HBD.out]; rfl), HB6⟩
            · go_wp2_with fail
              go_ret
              exact ⟨ret_int (HYES.out HBD.out).symm, HB8.out⟩
        · obtain rfl : j = (L.drop (k + 1)).length := by omega
          have hlen : (L.drop (k + 1)).length = L.length - (k + 1) := by simp
          have hn1 := hno.out
          rw [List.take_of_length_le (by simp)] at hn1
          have HN := hid (MISS.out hn1)
          clear hn1
          rw [hlen]
          go_wp2_with fail
          go_ret
          exact ⟨ret_int HN.out.symm, HB9.out⟩
end
abbrev mixed : ByteArray := { data := #[109, 105, 120, 101, 100] }
/-- The goods and the mark of a parcel. -/
def describeF (C : List Rep) : Nat → Int → ByteArray × ByteArray
  | 0, _ => (.empty, .empty)
  | n + 1, p => match makerOf C p with
    | some x => if x.kind = 1 then (x.goods, x.mark) else (commonB (x.uses.map fun q => (describeF C n q).1) mixed, commonB (x.uses.map fun q => (describeF C n q).2) .empty)
    | none => (.empty, .empty)
/-- A report ahead of n makes p. -/
def MadeBy (C : List Rep) (n : Nat) (p : Int) : Prop := ∃ j, ∃ h : j < C.length, j < n ∧ p ∈ C[j].makes
theorem uses_made {C : List Rep} (hs : Sound C) {n : Nat} {p : Int} {x : Rep} (hp : MadeBy C (n + 1) p) (hx : makerOf C p = some x) : ∀ q ∈ x.uses, MadeBy C n q := by
  obtain ⟨j, hj, hjn, hm⟩ := hp
  obtain ⟨h1, h2⟩ := maker_some hx
  have hxj : x = C[j] := hs.maker h1 (List.getElem_mem hj) h2 hm
  intro q hq
  obtain ⟨y, hy, hyq⟩ := (hs.at_ j hj).made q (by rw [← hxj]; exact uses_touches (hs.wfs x h1) hq)
  obtain ⟨i, hi, rfl⟩ := List.getElem_of_mem hy
  have hij : i < j := by simp at hi; omega
  refine ⟨i, by omega, by omega, ?_⟩
  simpa using hyq
theorem uses_some {C : List Rep} (hs : Sound C) {p : Int} {x : Rep} (hx : makerOf C p = some x) (h1 : x.kind ≠ 1) : 0 < x.uses.length := by
  obtain ⟨h3, h2⟩ := maker_some hx
  have hw := hs.wfs x h3
  unfold Rep.makes at h2
  unfold Rep.uses
  by_cases k3 : x.kind = 3
  · rw [if_neg (by omega), if_pos k3]
    have := (hw.parts k3).1
    omega
  · rw [if_neg (by omega)] at h2
    by_cases k2 : x.kind = 2
    · rw [if_pos k2]; simp
    · rw [if_neg k2] at h2
      simp at h2
theorem made_some {C : List Rep} {n : Nat} {p : Int} (hp : MadeBy C n p) : ∃ x, makerOf C p = some x := by
  obtain ⟨j, hj, _, hm⟩ := hp
  exact Option.isSome_iff_exists.1 (maker_isSome.2 ⟨_, List.getElem_mem hj, hm⟩)
set_option maxHeartbeats 8000000 in
theorem described_any (C : List Ent) (hs : Sound (reps C)) (s r1 r2 r3 : Nat) (A : Option Addr) (n cap : Nat) (fu : Int → Option Ent) (fh : Int → Option Bool) : ∀ (d : Nat) (p : Int) (w : World), StoreIs w s r1 r2 r3 A n cap (makerE C) fu fh → (∀ e ∈ C, PartsAt w e) → MadeBy (reps C) d p →
    Calls Tryz.prog 134 #[.pointer (some ⟨s, 0, none⟩), .int .i64 p] w fun e w' => e = .returned (.tuple #[.string (describeF (reps C) d p).1, .string (describeF (reps C) d p).2]) ∧ Below w.heap.size w w'
  | 0, p, w, _, _, hm => by
    obtain ⟨j, _, h, _⟩ := hm
    omega
  | d + 1, p, w, h, hP, hm => by
    obtain ⟨x0, hx0⟩ := made_some hm
    have hms := maker_same hs p
    rcases he : makerE C p with _ | ⟨x, P, c⟩
    · rw [he, hx0] at hms; cases hms
    rw [he] at hms
    have hmx : makerOf (reps C) p = some x := hms
    obtain ⟨hxm, _⟩ := makerE_some he
    have hwx := hs.wfs x (List.mem_map_of_mem (f := Prod.fst) hxm)
    have hpx := hP _ hxm
    have hlk := h.maker.lookR p
    rw [he] at hlk
    dsimp only [entOr, Option.getD_some] at hlk
    have hde : describeF (reps C) (d + 1) p = if x.kind = 1 then (x.goods, x.mark) else (commonB (x.uses.map fun q => (describeF (reps C) d q).1) mixed, commonB (x.uses.map fun q => (describeF (reps C) d q).2) .empty) := by
      conv => lhs; unfold describeF
      rw [hmx]
    have hum := uses_made hs hm hmx
    have hus := uses_some hs hmx
    have IH := fun q w' (hq : q ∈ x.uses) (hb : Below w.heap.size w w') => described_any C hs s r1 r2 r3 A n cap fu fh d q w' (h.below hb) (fun e he => (hP e he).kept (Kept.of_below hb)) (hum q hq)
    have HIH := hid IH
    have HS := hid h
    have HPX := hid hpx
    have HDE := hid hde
    have hul := uses_len x hwx
    obtain ⟨s0, s1, s2, s3⟩ := h.cell
    clear hms hmx hm hx0 he hxm hwx hpx hde hum IH h hP s0 s2 s3
    by_cases h1 : x.kind = 1
    · have d1 : (x.kind == 1) = true := by simp [h1]
      have HD : Hid (describeF (reps C) (d + 1) p = (x.goods, x.mark)) := hid (by rw [HDE.out, if_pos h1])
      clear h1 hus
      go_enter Tryz.func134, Tryz.ntmps134
      go_wp2_with (refine store_rep_new rfl _ _ rfl rfl rfl rfl rfl ?_; intro W2 hbx2 hb2 hlt2; have HB2 := hid hb2; obtain ⟨c0, c1, c2, c3, c4, c5, c6, c7, c8, c9, _⟩ := hbx2.at_; clear hbx2 hb2 c0 c1 c2 c4 c5 c6 c7)
      go_quiet (fail)
      go_wp2_with fail
      go_ret2
      exact ⟨by rw [HD.out]; rfl, Below.drewN' HB2.out _⟩
    · have d1 : (x.kind == 1) = false := by simp [h1]
      have hul0 := hus h1
      have HD : Hid (describeF (reps C) (d + 1) p = (commonB (x.uses.map fun q => (describeF (reps C) d q).1) mixed, commonB (x.uses.map fun q => (describeF (reps C) d q).2) .empty)) := hid (by rw [HDE.out, if_neg h1])
      obtain ⟨us, husd⟩ : ∃ us, x.uses = us := ⟨_, rfl⟩
      rw [husd] at hul hul0 HD HIH
      have HUS := hid husd
      clear h1 hus HDE husd
      go_enter Tryz.func134, Tryz.ntmps134
      go_wp2_with (first | (refine store_rep_new rfl _ _ rfl rfl rfl rfl rfl ?_; intro W2 hbx2 hb2 hlt2; have HX2 := hid hbx2; have HB2 := hid hb2; obtain ⟨c0, c1, c2, c3, _⟩ := hbx2.at_; clear hbx2 hb2 c0 c1 c2) | refine load_rep rfl _ rfl _ rfl HX2.out ?_)
      refine (uses_any x P c W2 (HPX.out.kept (Kept.of_below HB2.out)).ints).mono ?_
      rintro e w3 ⟨hb3, A3, k3, rfl, hI3⟩
      rw [HUS.out] at hI3 ⊢
      have HI3 := hid hI3
      have HB3 := hid (HB2.out.trans (hb3.mono HB2.out.size))
      clear hI3 hb3 hlk c3 HX2 HB2
      go_wp2_with fail
      go_loopg [7, 8, 29] (us.length) (fun g v u i wr => ∃ k : Nat, k ≤ us.length ∧ g = us.length - k ∧ i = .int .i64 k ∧ Hid (wr.ownsRow w3.heap.size 9 1 v ((us.take k).map fun q => (describeF (reps C) d q).1).length (strs ((us.take k).map fun q => (describeF (reps C) d q).1))) ∧
        Hid (wr.ownsRow w3.heap.size 9 1 u ((us.take k).map fun q => (describeF (reps C) d q).2).length (strs ((us.take k).map fun q => (describeF (reps C) d q).2))) ∧ Hid (ApartV v u) ∧ Hid (Below w3.heap.size w3 wr))
      case atStart => exact ⟨0, by omega, by omega, rfl, hid (World.ownsRow_nil _ _ _ _), hid (World.ownsRow_nil _ _ _ _), hid (.inl rfl), hid (Below.refl _ _)⟩
      case round =>
        obtain ⟨k, hk, hgk, rfl, hv, hu, hap, hbw⟩ := hrel
        by_cases hlt : k < us.length
        · obtain ⟨b, off, hAe, hc⟩ := (HI3.out.kept (Kept.of_below hbw.out)) (by omega)
          subst hAe
          have hck := hc k hlt
          have i0 : (0 : Int) ≤ k := by omega
          have i1 : (k : Int) < us.length := by omega
          have hsn : us.take (k + 1) = us.take k ++ [us[k]] := List.take_succ_eq_append_getElem hlt
          have hmem := List.getElem_mem hlt
          obtain ⟨q, hq⟩ : ∃ q, us[k] = q := ⟨_, rfl⟩
          rw [hq] at hck hsn hmem
          have hcl := HIH.out q wr hmem (HB3.out.trans (hbw.out.mono HB3.out.size))
          obtain ⟨⟨g, m⟩, hgm⟩ : ∃ gm, describeF (reps C) d q = gm := ⟨_, rfl⟩
          rw [hgm] at hcl
          have HCL := hid hcl
          have HSN := hid hsn
          have HGM := hid hgm
          obtain ⟨xs, hxs⟩ : ∃ xs, (us.take k).map (fun q => (describeF (reps C) d q).1) = xs := ⟨_, rfl⟩
          obtain ⟨ys, hys⟩ : ∃ ys, (us.take k).map (fun q => (describeF (reps C) d q).2) = ys := ⟨_, rfl⟩
          have hxl : xs.length ≤ 8 := by rw [← hxs]; simp; omega
          have hyl : ys.length ≤ 8 := by rw [← hys]; simp; omega
          rw [hxs] at hv
          rw [hys] at hu
          have HXS := hid hxs
          have HYS := hid hys
          clear hc hq hsn hmem hcl hgm hxs hys
          go_wp2_with fail
          refine HCL.out.mono ?_
          rintro e w5 ⟨rfl, hb5⟩
          obtain ⟨v', w6, u', w7, hr1, hr2, hv', hu', hap', hb7⟩ := app_two (w := w5) g m (own_below hv.out hb5) (own_below hu.out hb5) hap.out (by omega) (by omega) (hbw.out.trans (hb5.mono hbw.out.size)).size
          have HR1 := hid hr1
          have HR2 := hid hr2
          have HV' : Hid (w7.ownsRow w3.heap.size 9 1 v' ((us.take (k + 1)).map fun q => (describeF (reps C) d q).1).length (strs ((us.take (k + 1)).map fun q => (describeF (reps C) d q).1))) := hid (by
            rw [HSN.out, List.map_append, HXS.out]
            simpa [HGM.out] using hv')
          have HU' : Hid (w7.ownsRow w3.heap.size 9 1 u' ((us.take (k + 1)).map fun q => (describeF (reps C) d q).2).length (strs ((us.take (k + 1)).map fun q => (describeF (reps C) d q).2))) := hid (by
            rw [HSN.out, List.map_append, HYS.out]
            simpa [HGM.out] using hu')
          have HAP' := hid hap'
          have HB7 := hid ((hbw.out.trans (hb5.mono hbw.out.size)).trans hb7)
          clear hb5 hr1 hr2 hv' hu' hap' hb7
          go_wp2_with (first | (at_builtin; refine wpList_app rfl rfl rfl rfl rfl HR1.out ?_; clear HR1) | (at_builtin; refine wpList_app rfl rfl rfl rfl rfl HR2.out ?_))
          go_roundg (us.length - (k + 1))
          case measure => omega
          case rel => exact ⟨k + 1, by omega, rfl, by go_num, HV', HU', HAP', HB7⟩
        · obtain rfl : k = us.length := by omega
          have hv1 := hv.out
          have hu1 := hu.out
          rw [List.take_length] at hv1 hu1
          obtain ⟨xs, hxs⟩ : ∃ xs, us.map (fun q => (describeF (reps C) d q).1) = xs := ⟨_, rfl⟩
          obtain ⟨ys, hys⟩ : ∃ ys, us.map (fun q => (describeF (reps C) d q).2) = ys := ⟨_, rfl⟩
          rw [hxs] at hv1 HD
          rw [hys] at hu1 HD
          have hxl : xs.length = us.length := by rw [← hxs]; simp
          have hyl : ys.length = us.length := by rw [← hys]; simp
          obtain ⟨A7, k7, rfl, hc7, _⟩ := ownsRow.form hv1
          obtain ⟨A8, k8, rfl, hc8, _⟩ := ownsRow.form hu1
          have HC7 := hid hc7.strs
          have HC8 := hid hc8.strs
          have HBQ := hid (HB3.out.trans (hbw.out.mono HB3.out.size))
          have HXL := hid hxl
          have HYL := hid hyl
          clear hv hu hap hv1 hu1 hc7 hc8 hxs hys hxl hyl
          go_wp2_with fail
          refine (common_any A7 k7 xs { data := #[109, 105, 120, 101, 100] } wr (by have := HXL.out; omega) (by have := HXL.out; omega) HC7.out).mono ?_
          rintro e w8 ⟨rfl, hb8⟩
          have HB8 := hid (HBQ.out.trans (hb8.mono HBQ.out.size))
          have HC9 := hid (HC8.out.kept (Kept.of_below hb8))
          clear hb8
          go_wp2_with fail
          refine (common_any A8 k8 ys { data := #[] } w8 (by have := HYL.out; omega) (by have := HYL.out; omega) HC9.out).mono ?_
          rintro e w9 ⟨rfl, hb9⟩
          have HB9 := hid (HB8.out.trans (hb9.mono HB8.out.size))
          clear hb9
          go_wp2_with fail
          go_ret2
          exact ⟨by rw [HD.out]; rfl, HB9.out⟩
termination_by d => d
theorem wfE_iff (r : Rep) : wfE r = 0 ↔ r.wfB = true := by
  unfold wfE
  cases r.wfB <;> simp
theorem last_of {L : List Ent} {m : Nat} (h : L.length = m + 1) (hm : m < L.length) : (reps L).getLast? = some L[m].1 := by
  have e : (reps L).length - 1 = m := by simp [h]
  rw [List.getLast?_eq_getElem?, e, List.getElem?_map, List.getElem?_eq_getElem hm]
  rfl
theorem ownsRow.form3 {w : World} {base e size n : Nat} {v : Value} {us : List Value} (h : w.ownsRow base e size v n us) : ∃ A cap, v = .slice A n cap ∧ CellsAt w A us ∧ n ≤ cap ∧ cap ≤ maxLen := by
  obtain ⟨A, cap, rfl, hc, hn, _⟩ := ownsRow.form h
  refine ⟨A, cap, rfl, hc, hn, ?_⟩
  rcases h.2 with ⟨h1, _⟩ | ⟨g, cap', cur, h1, _, _, _, hm, _⟩
  · cases h1
    unfold maxLen
    omega
  · cases h1
    exact hm
theorem countE_sub (L : List Ent) (K : Int) : ∀ e ∈ countE L K, e ∈ L := fun _ he => (List.mem_filter.1 he).1
theorem countE_len (L : List Ent) (K : Int) : (countE L K).length ≤ L.length := List.length_filter_le _ _
set_option maxHeartbeats 16000000 in
theorem follows_any (A : Option Addr) (cap : Nat) (L : List Ent) (x : Rep) (P : Option Addr) (c : Nat) (w : World) (hA : EntsAt w A L) (hl : L.length ≤ 210) (hv : Valid (reps L)) (hP : PartsAt w (x, P, c)) :
    Calls Tryz.prog 60 #[.slice A L.length cap, x.val P c] w fun e w' => e = .returned (.int .i64 (follows (reps L) x)) ∧ Below w.heap.size w w' := by
  obtain ⟨W, hW, hbx, hbW, hlt⟩ := boxC x P c w
  have HX := hid hbx
  have HBW := hid hbW
  have HE := hid (hA.below hbW)
  have HP := hid (hP.kept (Kept.of_below hbW))
  obtain ⟨R, hR⟩ : ∃ R, follows (reps L) x = R := ⟨_, rfl⟩
  rw [hR]
  unfold follows at hR
  have hlen : (reps L).length = L.length := by simp
  rw [hlen] at hR
  by_cases h200 : 200 ≤ L.length
  · rw [if_pos h200] at hR
    subst hR
    have i0 : (200 : Int) ≤ L.length := by omega
    clear hA hP hbx hbW hv hlen
    go_enter Tryz.func60, Tryz.ntmps60
    go_wp2_with fail
    go_ret
    exact ⟨rfl, HBW.out⟩
  rw [if_neg h200] at hR
  have i0 : ¬ (200 : Int) ≤ L.length := by omega
  have hck := checkReport_any x P c W HP.out.ints HP.out.len HP.out.cap
  by_cases hwf : x.wfB = false
  · rw [if_pos hwf] at hR
    subst hR
    have hw1 : wfE x = 1 := by unfold wfE; rw [hwf]; rfl
    rw [hw1] at hck
    have HCK := hid hck
    clear hA hP hbx hbW hv hlen hck
    go_enter Tryz.func60, Tryz.ntmps60
    go_wp2_with (refine load_rep rfl _ rfl _ rfl HX.out ?_)
    refine HCK.out.mono ?_
    rintro e w1 ⟨rfl, hb⟩
    have HB := hid (HBW.out.trans (hb.mono HBW.out.size))
    clear hb
    go_wp2_with fail
    go_ret
    exact ⟨rfl, HB.out⟩
  rw [if_neg hwf] at hR
  have hw0 : wfE x = 0 := by unfold wfE; simp at hwf; rw [hwf]; rfl
  rw [hw0] at hck
  have HCK := hid hck
  have HWF := hid (Rep.wf (by simpa using hwf))
  obtain ⟨bt, hbt⟩ : ∃ bt, (reps L).any (fun y => decide (y.id = x.id)) = bt := ⟨_, rfl⟩
  rw [hbt] at hR
  have HBT := hid hbt
  have HR := hid hR
  have HV := hid hv
  obtain ⟨n, hn⟩ : ∃ n, L.length = n := ⟨_, rfl⟩
  have HN := hid hn
  have hcr := fun w1 (hb : Below W.heap.size W w1) => containsReps_any _ enters90 (.pointer (some ⟨w.heap.size, 0, none⟩)) _ A cap L w1 (by omega) (HE.out.below hb).rows (follows1_asks (HX.out.below hb) L) HBT.out
  have hct := fun w1 (hb : Below W.heap.size W w1) => counting_any A cap L x.known w1 (HE.out.below hb) hl
  have hrows := HE.out.rows
  simp only [hn] at hcr hct i0 hrows
  rw [hn] at hl h200
  rw [hn]
  have HCR := hid hcr
  have HCT := hid hct
  clear hA hP hbx hbW hv hlen hck hw0 hwf hbt hR hn hcr hct
  cases bt
  case true =>
    go_enter Tryz.func60, Tryz.ntmps60
    go_wp2_with (refine load_rep rfl _ rfl _ rfl HX.out ?_)
    refine HCK.out.mono ?_
    rintro e w1 ⟨rfl, hb⟩
    have HB1 := hid (HBW.out.trans (hb.mono HBW.out.size))
    have HCC := hid (HCR.out w1 hb)
    clear hb
    go_wp2_with fail
    refine HCC.out.mono ?_
    rintro e w2 ⟨rfl, hb⟩
    have HB2 := hid (HB1.out.trans (hb.mono HB1.out.size))
    clear hb
    go_wp2_with fail
    go_ret
    exact ⟨ret_int (by have := HR.out; simp at this; exact this), HB2.out⟩
  case false =>
    have hR := HR.out
    rw [if_neg (by simp)] at hR
    have HR2 := hid hR
    obtain ⟨bl, hbl⟩ : ∃ bl, lateB (reps L) x = bl := ⟨_, rfl⟩
    have HBL := hid hbl
    clear HR hR hbl
    go_enter Tryz.func60, Tryz.ntmps60
    go_wp2_with (refine load_rep rfl _ rfl _ rfl HX.out ?_)
    refine HCK.out.mono ?_
    rintro e w1 ⟨rfl, hb⟩
    have HB1 := hid hb
    have HCC := hid (HCR.out w1 hb)
    clear hb
    go_wp2_with fail
    refine HCC.out.mono ?_
    rintro e w2 ⟨rfl, hb⟩
    have HB2 := hid (HB1.out.trans (hb.mono HB1.out.size))
    have HX2 := hid (HX.out.below HB2.out)
    obtain ⟨c0, c1, c2, c3, c4, c5, c6, c7, c8, c9, c10, c11, c12, c13, c14⟩ := HX2.out.at_
    clear hb HCK HCC HCR HB1 c0 c2 c3 c4 c5 c6 c7 c8 c9 c10 c11 c12 c13 c14 hW
    go_upto_region 7 with (fail)
    go_cut [18] from 19 (fun s18 wx => s18 = .bool bl ∧ Below w2.heap.size w2 wx)
    case first =>
      rcases n with _ | m
      · have : bl = false := by
          rw [← HBL.out]
          have := HN.out
          rw [List.eq_nil_of_length_eq_zero this]
          rfl
        subst this
        go_quiet (fail)
        go_wp2_with fail
        go_meet
        case rel => exact ⟨rfl, Below.drewN' (Below.refl _ _) _⟩
      · obtain ⟨b, off, hAe, hc⟩ := (HE.out.below HB2.out).rows (by rw [HN.out]; omega)
        subst hAe
        have hml : m < L.length := by rw [HN.out]; omega
        have hcm := hc m hml
        have hbl : bl = decide (x.known < L[m].1.known) := by
          rw [← HBL.out]
          unfold lateB
          rw [last_of HN.out hml]
        obtain ⟨⟨y, P', c'⟩, hy⟩ : ∃ y, L[m] = y := ⟨_, rfl⟩
        rw [hy] at hcm hbl
        dsimp only at hcm hbl
        have hk := hcm 1 (.int .i64 y.known) rfl
        have i1 : (0 : Int) ≤ m := by omega
        have HBB := hid hbl
        have i2 : ((m : Int) + 1 - 1) = m := by omega
        clear hc hcm hy hbl
        by_cases hlt2 : x.known < y.known
        · have HD : Hid (bl = true) := hid (by rw [HBB.out]; exact decide_eq_true hlt2)
          go_quiet (fail)
          go_wp2_with fail
          go_meet
          case rel => exact ⟨by rw [HD.out], Below.drewN' (Below.refl _ _) _⟩
        · have HD : Hid (bl = false) := hid (by rw [HBB.out]; exact decide_eq_false hlt2)
          go_quiet (fail)
          go_wp2_with fail
          go_meet
          case rel => exact ⟨by rw [HD.out], Below.drewN' (Below.refl _ _) _⟩
    case rest =>
      obtain ⟨rfl, hb3⟩ := hcut
      have HB3 := hid (HB2.out.trans (hb3.mono HB2.out.size))
      have HX3 := hid (HX2.out.below hb3)
      obtain ⟨c0, c1, c2, c3, c4, c5, c6, c7, c8, c9, c10, c11, c12, c13, c14⟩ := HX3.out.at_
      have hR := HR2.out
      rw [HBL.out] at hR
      clear hb3 c0 c2 c4 c5 c6 c7 c8 c9 c10 c11 c12 c13 HX2 HB2 HBL HR2
      rcases bl with _ | _
      case true =>
        have HR3 : Hid (R = 7) := hid (by simpa using hR.symm)
        clear hR
        go_wp2_with fail
        go_ret
        exact ⟨ret_int HR3.out.symm, HBW.out.trans (HB3.out.mono HBW.out.size)⟩
      case false =>
        rw [if_neg (by simp)] at hR
        obtain ⟨C, hC⟩ : ∃ C, countE L x.known = C := ⟨_, rfl⟩
        have hrc : reps C = counting (reps L) x.known := by rw [← hC]; exact countE_reps L x.known
        have hsub : ∀ e ∈ C, e ∈ L := by rw [← hC]; exact countE_sub L x.known
        have hcl : C.length ≤ n := by rw [← hC, ← HN.out]; exact countE_len L x.known
        have hsound : Sound (reps C) := by rw [hrc]; exact HV.out.sound x.known
        rw [← hrc] at hR
        have HSUB := hid hsub
        have HSO := hid hsound
        have hct := HCT.out wc HB3.out
        rw [hC] at hct
        have HCC := hid hct
        have HRF := hid hR
        have hwfC : ∀ e ∈ C, e.1.Wf := fun e he => hsound.wfs _ (List.mem_map_of_mem (f := Prod.fst) he)
        have HWC := hid hwfC
        clear hC hrc hsub hsound hct hR HCT hwfC
        go_wp2_with fail
        refine HCC.out.mono ?_
        rintro e w4 ⟨v4, rfl, ho4, hb4⟩
        obtain ⟨A4, k4, rfl, hc4, hk4, hm4⟩ := ownsRow.form3 ho4
        have HB4 := hid (HB3.out.trans (hb4.mono HB3.out.size))
        have HE4 : Hid (EntsAt w4 A4 C) := hid ⟨rows_of_cells hc4, fun e he => ((HE.out.below HB4.out).parts e (HSUB.out e he))⟩
        have HX4 := hid (HX3.out.below hb4)
        have HK4 := hid hk4
        have HM4 := hid hm4
        have HST := hid (stored_any A4 k4 C w4 HE4.out HWC.out (by omega))
        clear ho4 hb4 hc4 hk4 hm4 HX3 HB3 HCC
        go_wp2_with fail
        refine HST.out.mono ?_
        rintro e w5 ⟨s, r1, r2, r3, rfl, hs5, hb5⟩
        have HB5 := hid (HB4.out.trans (hb5.mono HB4.out.size))
        have HE5 := hid (HE4.out.below hb5)
        have HX5 := hid (HX4.out.below hb5)
        have HP5 := hid (HP.out.kept (Kept.of_below HB5.out))
        have HS5 := hid hs5
        have HBZ := hid (HBW.out.trans (HB5.out.mono HBW.out.size))
        obtain ⟨c0, c1, c2, c3, c4, c5, c6, c7, c8, c9, c10, c11, c12, c13, c14⟩ := HX5.out.at_
        clear hs5 hb5 HX4 HB4 HE4 HST c0 c1 c2 c4 c5 c6 c7 c8 c9 c10 c11 c12 c13
        rcases h8 : (x.kind == 8) with _ | _
        · have HRG : Hid (admits (reps C) x = R) := hid (by
            have := HRF.out
            rw [if_neg (by simpa using h8)] at this
            exact this)
          go_wp2_with (refine load_rep rfl _ rfl _ rfl HX5.out ?_)
          refine (admits_any HS5.out HE5.out HWC.out (by omega) x P c HP5.out).mono ?_
          rintro e w6 ⟨rfl, hb6⟩
          have HB6 := hid (HBZ.out.trans (hb6.mono HBZ.out.size))
          clear hb6
          go_wp2_with fail
          go_ret
          exact ⟨ret_int (by rw [admitsG_eq HSO.out, HRG.out]), HB6.out⟩
        · have HRG : Hid (releases (reps C) x.of = R) := hid (by
            have := HRF.out
            rw [if_pos (by simpa using h8)] at this
            exact this)
          go_wp2_with fail
          refine (releases_any HS5.out HE5.out HWC.out (by omega) HK4.out HM4.out x.of).mono ?_
          rintro e w6 ⟨rfl, hb6⟩
          have HB6 := hid (HBZ.out.trans (hb6.mono HBZ.out.size))
          clear hb6
          go_wp2_with fail
          go_ret
          exact ⟨ret_int HRG.out, HB6.out⟩
def backL (C : List Ent) (p : Int) : List Int := if (entOr (makerE C p)).1.kind = 1 then [] else (entOr (makerE C p)).1.uses
def onL (C : List Ent) (p : Int) : List Int := match userE C p with
  | some u => u.1.makes
  | none => []
/-- A store, and the box that a beach begins with. -/
structure BeachAt (w : World) (b s r1 r2 r3 : Nat) (A : Option Addr) (cap : Nat) (C : List Ent) : Prop where
  ptr : w.cell? ⟨b, 0, none⟩ = some (.pointer (some ⟨s, 0, none⟩))
  store : StoreIs w s r1 r2 r3 A C.length cap (makerE C) (userE C) (hidE C)
  ents : EntsAt w A C
theorem BeachAt.below {w w' : World} {b s r1 r2 r3 : Nat} {A : Option Addr} {cap : Nat} {C : List Ent} (h : BeachAt w b s r1 r2 r3 A cap C) (hb : Below w.heap.size w w') : BeachAt w' b s r1 r2 r3 A cap C :=
  ⟨Kept.of_below hb _ _ h.ptr, h.store.below hb, h.ents.below hb⟩
theorem entOr_parts {w : World} {C : List Ent} (h : ∀ e ∈ C, PartsAt w e) (p : Int) : PartsAt w (entOr (makerE C p)) := by
  rcases he : makerE C p with _ | e
  · exact ⟨IntsAt.nil _ _, Nat.le_refl _, Nat.zero_le _⟩
  · exact h e (makerE_some he).1
set_option maxHeartbeats 4000000 in
theorem back_any {w : World} {b s r1 r2 r3 : Nat} {A : Option Addr} {cap : Nat} {C : List Ent} (h : BeachAt w b s r1 r2 r3 A cap C) (p : Int) :
    Calls Tryz.prog 48 #[.pointer (some ⟨b, 0, none⟩), .int .i64 p] w (IntsPost (backL C p) w) := by
  have hp := entOr_parts h.ents.parts p
  have hlk := h.store.maker.lookR p
  have hbk : backL C p = if (entOr (makerE C p)).1.kind = 1 then [] else (entOr (makerE C p)).1.uses := rfl
  obtain ⟨⟨x, P, c⟩, hx⟩ : ∃ y, entOr (makerE C p) = y := ⟨_, rfl⟩
  rw [hx] at hlk hbk hp
  dsimp only at hbk
  obtain ⟨s0, s1, s2, s3⟩ := h.store.cell
  have hptr := h.ptr
  have HP := hid hp
  clear h hx hp s0 s2 s3
  by_cases h1 : x.kind = 1
  · rw [if_pos h1] at hbk
    rw [hbk]
    have d1 : (x.kind != 1) = false := by simp [h1]
    clear h1 hbk
    go_enter Tryz.func48, Tryz.ntmps48
    go_wp2_with (refine store_rep_new rfl _ _ rfl rfl rfl rfl rfl ?_; intro W2 hbx2 hb2 hlt2; have HB2 := hid hb2; obtain ⟨c0, c1, c2, c3, _⟩ := hbx2.at_; clear hbx2 hb2 c0 c1 c2)
    go_ret
    exact ⟨HB2.out, none, 0, rfl, IntsAt.nil _ _⟩
  · rw [if_neg h1] at hbk
    rw [hbk]
    have d1 : (x.kind != 1) = true := bne_iff_ne.2 h1
    clear h1 hbk
    go_enter Tryz.func48, Tryz.ntmps48
    go_wp2_with (first | (refine store_rep_new rfl _ _ rfl rfl rfl rfl rfl ?_; intro W2 hbx2 hb2 hlt2; have HB2 := hid hb2; have HX2 := hid hbx2; obtain ⟨c0, c1, c2, c3, _⟩ := hbx2.at_; clear hbx2 hb2 c0 c1 c2) | refine load_rep rfl _ rfl _ rfl HX2.out ?_)
    refine (uses_any x P c W2 (HP.out.kept (Kept.of_below HB2.out)).ints).mono ?_
    rintro e w3 ⟨hb3, A3, k3, rfl, hI3⟩
    have HB3 := hid (HB2.out.trans (hb3.mono HB2.out.size))
    have HI3 := hid hI3
    clear hb3 hI3
    go_wp2_with fail
    go_ret
    exact ⟨HB3.out, _, _, rfl, HI3.out⟩
set_option maxHeartbeats 4000000 in
theorem on_any {w : World} {b s r1 r2 r3 : Nat} {A : Option Addr} {cap : Nat} {C : List Ent} (h : BeachAt w b s r1 r2 r3 A cap C) (hs : Sound (reps C)) (p : Int) :
    Calls Tryz.prog 54 #[.pointer (some ⟨b, 0, none⟩), .int .i64 p] w (IntsPost (onL C p) w) := by
  have hlk := h.store.user.lookR2 p
  obtain ⟨s0, s1, s2, s3⟩ := h.store.cell
  have hptr := h.ptr
  rcases hu : userE C p with _ | ⟨u, P, c⟩
  · rw [hu] at hlk
    have hon : onL C p = [] := by unfold onL; rw [hu]
    rw [hon]
    dsimp only [entOr, Option.getD_none, Option.isSome_none] at hlk
    clear h hu hon s0 s1 s3
    go_enter Tryz.func54, Tryz.ntmps54
    go_wp2_with (refine store_rep_new rfl _ _ rfl rfl rfl rfl rfl ?_; intro W2 hbx2 hb2 hlt2; have HB2 := hid hb2; clear hbx2 hb2)
    go_ret
    exact ⟨HB2.out, none, 0, rfl, IntsAt.nil _ _⟩
  · rw [hu] at hlk
    have hon : onL C p = u.makes := by unfold onL; rw [hu]
    rw [hon]
    have HW := hid (hs.wfs u (List.mem_map_of_mem (f := Prod.fst) (userE_some hu).1))
    dsimp only [entOr, Option.getD_some, Option.isSome_some] at hlk
    clear h hu hon s0 s1 s3 hs
    go_enter Tryz.func54, Tryz.ntmps54
    go_wp2_with (first | (refine store_rep_new rfl _ _ rfl rfl rfl rfl rfl ?_; intro W2 hbx2 hb2 hlt2; have HB2 := hid hb2; have HX2 := hid hbx2; clear hbx2 hb2) | refine load_rep rfl _ rfl _ rfl HX2.out ?_)
    refine (makes_own u P c W2 HW.out).mono ?_
    rintro e w3 ⟨v3, rfl, ho3, hb3⟩
    obtain ⟨A3, k3, rfl, _⟩ := ownsRow.form ho3
    have HI3 := hid (ownsRow_ints ho3)
    have HB3 := hid (HB2.out.trans (hb3.mono HB2.out.size))
    clear ho3 hb3
    go_wp2_with fail
    go_ret
    exact ⟨HB3.out, _, _, rfl, HI3.out⟩
end Go.Proofs.YtfaoillnakhejaaGreat
