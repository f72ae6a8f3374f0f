/- The reference: counting; The reference: voided; The reference: goods. -/
import Derived.Test.YtfaoillnakhejaaGreatH9
import Derived.Test.YtfaoillnakhejaaGreatG12
import Derived.Deep.CutRange
import Derived.Deep.CutBlock
import Derived.Test.YtfaoillnakhejaaGreatG14
import Derived.Deep.MidRow
import Derived.BigQuiet
namespace Go.Proofs.YtfaoillnakhejaaGreat
set_option maxRecDepth 100000
open Go.RowKit
theorem own_belowN {w w' : World} {base : Nat} {v : Value} {n : Nat} {cs : List Value} {t s : Nat} (h : w.ownsRow base t s v n cs) (hb : Below w.heap.size w w') : w'.ownsRow base t s v n cs := own_below h hb
set_option maxHeartbeats 8000000 in
theorem rcounting_any (A : Option Addr) (cap : Nat) (L : List Ent) (K : Int) (w : World) (hA : EntsAt w A L) (hl : L.length ≤ 900) :
  Calls Tryz.prog 76 #[.slice A L.length cap, .int .i64 K] w fun e w' => ∃ v, e = .returned v ∧ w'.ownsRow w.heap.size 46 15 v (countE L K).length (flat (countE L K)) ∧ Below w.heap.size w w' := by
 have HA := hid hA.rows
 clear hA
 go_enter Tryz.func76, Tryz.ntmps76
 go_upto_region 3 with fail
 go_loopg [5, 6] (L.length) (fun g v i wr => ∃ k : Nat, k ≤ L.length ∧ g = L.length - k ∧ i = .int .i64 k ∧ Hid (wr.ownsRow w.heap.size 46 15 v ((L.take k).filter fun e => countsB (reps L) K e.1).length (flat ((L.take k).filter fun e => countsB (reps L) K e.1))) ∧ Hid (Below w.heap.size w wr))
 case atStart => exact ⟨0, by omega, by omega, rfl, hid (World.ownsRow_nil _ _ _ _), hid (Below.refl _ _)⟩
 case round =>
  obtain ⟨k, hk, hgk, rfl, hown, hbw⟩ := hrel
  obtain ⟨V, hV⟩ : ∃ V, V = wr := ⟨_, rfl⟩
  subst hV
  by_cases hlt : k < L.length
  ·obtain ⟨b, off, hAe, hc⟩ := (HA.out.kept (Kept.of_below hbw.out)) (by omega)
   subst hAe
   have HC := hid hc
   have hrange := hc k hlt
   have i0 : (0 : Int) ≤ k := by omega
   have i1 : (k : Int) < L.length := by omega
   have hfs := filter_snoc (fun e : Ent => countsB (reps L) K e.1) L k hlt
   have hfl := filter_take_le (fun e : Ent => countsB (reps L) K e.1) L k
   have hvs := fun j (h : j < L.length) p => voided_step (reps L) K p j (by simpa using h)
   obtain ⟨⟨r, P, c⟩, hx⟩ : ∃ x, L[k] = x := ⟨_, rfl⟩
   rw [hx] at hrange hfs
   obtain ⟨F, hF⟩ : ∃ F, (L.take k).filter (fun e : Ent => countsB (reps L) K e.1) = F := ⟨_, rfl⟩
   rw [hF] at hfs hown hfl
   have HR := hid hrange
   have HFS := hid hfs
   have HFL := hid hfl
   have HVS := hid hvs
   clear hc hx hfs hF hfl hvs
   obtain ⟨base, hbase⟩ : ∃ base, (decide (r.kind ≠ 8) && decide (r.known ≤ K)) = base := ⟨_, rfl⟩
   have hcb : countsB (reps L) K r = (base && !voided (reps L) K r.id) := by rw [← hbase]; rfl
   rw [hcb] at HFS
   have HBASE := hid hbase
   clear hcb hbase
   go_upto_region 5 with fail
   go_cut [7] from 15 to 29 (fun o wx => o = .bool base ∧ V = wx)
   case first =>
    obtain ⟨c0, c1, c2, c3, c4, _⟩ := range_at hrange
    clear hrange c0 c2 c4
    by_cases h8 : r.kind = 8
    ·have d8 : (r.kind != 8) = false := by simp [h8]
     have HZ : Hid (base = false) := hid (by rw [← HBASE.out]; simp [h8])
     clear h8
     go_wp2_with fail
     go_meet
     case rel => exact ⟨by rw [HZ.out], rfl⟩
    ·have d8 : (r.kind != 8) = true := by simp [h8]
     by_cases hkn : r.known ≤ K
     ·have dk : decide (r.known ≤ K) = true := decide_eq_true hkn
      have HZ : Hid (base = true) := hid (by rw [← HBASE.out]; simp [h8, hkn])
      clear h8 hkn
      go_wp2_with fail
      go_meet
      case rel => exact ⟨by rw [HZ.out], rfl⟩
     ·have dk : decide (r.known ≤ K) = false := decide_eq_false hkn
      have HZ : Hid (base = false) := hid (by rw [← HBASE.out]; simp [h8, hkn])
      clear h8 hkn
      go_wp2_with fail
      go_meet
      case rel => exact ⟨by rw [HZ.out], rfl⟩
   case rest =>
    obtain ⟨rfl, rfl⟩ := hcut
    go_upto_region 7 with fail
    go_loopg [7, 8] (L.length) (fun g o j wq => ∃ m : Nat, m ≤ L.length ∧ g = L.length - m ∧ j = .int .i64 m ∧ o = .bool (base && !voided ((reps L).take m) K r.id) ∧ Hid (Below V.heap.size V wq))
    case atStart => exact ⟨0, by omega, by omega, rfl, by simp [voided], hid (Below.refl _ _)⟩
    case round =>
     obtain ⟨m, hm, hgm, rfl, rfl, hbq⟩ := hrel
     by_cases hml : m < L.length
     ·obtain ⟨d0, _, _, _, _, _⟩ := range_at (rangeAt_kept HR.out (Kept.of_below hbq.out))
      obtain ⟨_, e1, _, e3, _, _, e14⟩ := range_at (rangeAt_kept (HC.out m hml) (Kept.of_below hbq.out))
      have j0 : (0 : Int) ≤ m := by omega
      have j1 : (m : Int) < L.length := by omega
      have hst := HVS.out m hml r.id
      obtain ⟨y, hy⟩ : ∃ y, L[m].1 = y := ⟨_, rfl⟩
      have hy2 : (reps L)[m]'(by simpa using hml) = y := by simp [hy]
      rw [hy2] at hst
      rw [hy] at e1 e3 e14
      obtain ⟨V0, hV0⟩ : ∃ V0, voided ((reps L).take m) K r.id = V0 := ⟨_, rfl⟩
      obtain ⟨V1, hV1⟩ : ∃ V1, voided ((reps L).take (m + 1)) K r.id = V1 := ⟨_, rfl⟩
      rw [hV0, hV1] at hst
      rw [hV0]
      have HV1 := hid hV1
      have HST := hid hst
      clear hst hy hy2 hV0 hV1
      by_cases h8 : y.kind = 8
      ·have d8 : (y.kind == 8) = true := beq_iff_eq.2 h8
       by_cases hkn : y.known ≤ K
       ·have dk : decide (y.known ≤ K) = true := decide_eq_true hkn
        by_cases ho : y.of = r.id
        ·have dd : (y.of == r.id) = true := beq_iff_eq.2 ho
         have HZ : Hid (V1 = true) := hid (by rw [HST.out]; simp [h8, hkn, ho])
         clear h8 hkn ho
         go_upto_region 9 with fail
         go_quiet (fail)
         go_wp2_with fail
         go_roundg (L.length - (m + 1))
         case measure => omega
         case rel => exact ⟨m + 1, by omega, rfl, by go_num, by rw [HV1.out, HZ.out]; simp, hid (Below.drewN' hbq.out _)⟩
        ·have dd : (y.of == r.id) = false := beq_eq_false_iff_ne.2 ho
         have HZ : Hid (V1 = V0) := hid (by rw [HST.out]; simp [ho])
         clear h8 hkn ho
         go_upto_region 9 with fail
         go_quiet (fail)
         go_wp2_with fail
         go_roundg (L.length - (m + 1))
         case measure => omega
         case rel => exact ⟨m + 1, by omega, rfl, by go_num, by rw [HV1.out, HZ.out], hid (Below.drewN' hbq.out _)⟩
       ·have dk : decide (y.known ≤ K) = false := decide_eq_false hkn
        have HZ : Hid (V1 = V0) := hid (by rw [HST.out]; simp [hkn])
        clear h8 hkn
        go_upto_region 9 with fail
        go_quiet (fail)
        go_wp2_with fail
        go_roundg (L.length - (m + 1))
        case measure => omega
        case rel => exact ⟨m + 1, by omega, rfl, by go_num, by rw [HV1.out, HZ.out], hid (Below.drewN' hbq.out _)⟩
      ·have d8 : (y.kind == 8) = false := beq_eq_false_iff_ne.2 h8
       have HZ : Hid (V1 = V0) := hid (by rw [HST.out]; simp [h8])
       clear h8
       go_upto_region 9 with fail
       go_quiet (fail)
       go_wp2_with fail
       go_roundg (L.length - (m + 1))
       case measure => omega
       case rel => exact ⟨m + 1, by omega, rfl, by go_num, by rw [HV1.out, HZ.out], hid (Below.drewN' hbq.out _)⟩
     ·obtain rfl : m = L.length := by omega
      have htk : (reps L).take L.length = reps L := List.take_of_length_le (by simp)
      rw [htk]
      obtain ⟨ok, hok⟩ : ∃ ok, (base && !voided (reps L) K r.id) = ok := ⟨_, rfl⟩
      rw [hok] at HFS ⊢
      clear hok htk
      have HO := hid (own_below hown.out hbq.out)
      have HB := hid (hbw.out.trans (hbq.out.mono hbw.out.size))
      have HRQ := hid (rangeAt_kept HR.out (Kept.of_below hbq.out))
      rcases ok with _ | _
      ·go_wp2_with fail
       go_roundg (L.length - (k + 1))
       case measure => omega
       case rel => exact ⟨k + 1, by omega, rfl, by go_num, by rw [HFS.out]; simpa using HO, HB⟩
      ·obtain ⟨v', w4, hrn, hown4, hb4⟩ := app_rep (base := w.heap.size) (r, P, c) HO.out (by have := HFL.out; omega) HB.out.size
       have HO4 := hid hown4
       have HR2 := hid hrn
       have HB4 := hid (HB.out.trans hb4)
       clear hrn hown4 hb4
       go_wp2_with (first | refine load_rep_mid rfl _ rfl _ _ rfl HRQ.out ?_ | refine build_rep rfl _ rfl rfl ?_ | (at_builtin; refine wpList_app rfl rfl rfl rfl rfl HR2.out ?_))
       go_roundg (L.length - (k + 1))
       case measure => omega
       case rel => exact ⟨k + 1, by omega, rfl, by go_num, by rw [HFS.out]; simpa using HO4, HB4⟩
  ·obtain rfl : k = L.length := by omega
   go_wp2_with fail
   go_ret
   have := hown.out
   rw [List.take_length] at this
   exact ⟨_, rfl, this, hbw.out⟩
theorem yields_rep {ops : Array Oper} {S : World → Prop} {op : Oper} {a : Act} (hw : Region.wanted op (yielded ops a.tmps) = true) (x : Operand) (ho : op.op = .load 46 x)
  (b f : Nat) (hx : a.eval x = .pointer (some ⟨b, f, none⟩)) {r : Rep} {A : Option Addr} {c : Nat} (hS : ∀ w, S w → w.rangeAt b f (r.cells A c).toList) : YieldsIf Tryz.prog ops S op (r.val A c) a := by
 have h := yieldsIf_load_mid hw 46 x ho b f hx (r.cells A c).toList _ hS Tryz.underlying46 rfl rep_info
 simpa using h
theorem enters_rtakes : Enters 157 := fun args w => by kernel_rfl
theorem enters_rmakes : Enters 82 := fun args w => by kernel_rfl
theorem enters_rnames : Enters 160 := fun args w => by kernel_rfl
theorem drop_any {C : List Ent} {j : Nat} {Q : Rep → Bool} : (reps (C.drop (j + 1))).any Q = true ↔ ∃ q : Nat, j < q ∧ ∃ hq : q < C.length, Q C[q].1 = true := by
 rw [List.any_eq_true]
 constructor
 ·rintro ⟨r, hr, h⟩
  obtain ⟨e, he, rfl⟩ := List.mem_map.1 hr
  obtain ⟨m, hm, rfl⟩ := List.getElem_of_mem he
  have hm2 : j + 1 + m < C.length := by simp at hm; omega
  exact ⟨j + 1 + m, by omega, hm2, by simpa using h⟩
 ·rintro ⟨q, hq, hq2, h⟩
  have hm : q - (j + 1) < (C.drop (j + 1)).length := by simp; omega
  refine ⟨C[q].1, List.mem_map.2 ⟨C[q], ?_, rfl⟩, h⟩
  have : (C.drop (j + 1))[q - (j + 1)] = C[q] := by
   simp only [List.getElem_drop]
   congr 1
   omega
  rw [← this]
  exact List.getElem_mem hm
theorem laterT {x : Rep} (hx : x.Wf) (l : List Rep) : laterB x l = l.any (namesOne (takesL x ++ x.makes)) := by
 rw [laterB_eq]
 congr 1
 funext y
 unfold namesOne
 rw [Bool.eq_iff_iff, List.any_eq_true, List.any_eq_true]
 simp only [List.mem_append, takes_mem (wf_pos hx)]
set_option maxHeartbeats 16000000 in
theorem rvoided_any (A : Option Addr) (cap : Nat) (C : List Ent) (x : Rep) (P : Option Addr) (c : Nat) (w : World) (hA : EntsAt w A C) (hs : Sound (reps C)) (hl : C.length ≤ 900) :
  Calls Tryz.prog 156 #[.slice A C.length cap, x.val P c] w fun e w' => e = .returned (.int .i64 (releases (reps C) x.of)) ∧ Below w.heap.size w w' := by
 obtain ⟨W, hW, hbx, hbW, hlt⟩ := boxC x P c w
 have HE := hid (hA.below hbW)
 have HBW := hid hbW
 have HWF : Hid (∀ e ∈ C, e.1.Wf) := hid (fun e he => hs.wfs e.1 (List.mem_map_of_mem (f := Prod.fst) he))
 have HUQ : Hid (∀ j (hj : j < C.length), C[j].1.id = x.of → ∀ e ∈ C.take j, decide (e.1.id = x.of) = false) := hid (fun j hj h e he => decide_eq_false (fun h2 => by
  have hjr : j < (reps C).length := by simpa using hj
  refine (hs.at_ j hjr).id e.1 ?_ (by rw [h2]; simp [h])
  rw [← List.map_take]
  exact List.mem_map_of_mem (f := Prod.fst) he))
 have HX := hid hbx
 obtain ⟨of, hof⟩ : ∃ of, x.of = of := ⟨_, rfl⟩
 have hc14 : ∀ wr, Below W.heap.size W wr → wr.cell? ⟨w.heap.size, 14, none⟩ = some (.int .i64 of) := fun wr hb => by
  have := (HX.out.below hb).at_.2.2.2.2.2.2.2.2.2.2.2.2.2.2
  rw [hof] at this
  exact this
 have HC14 := hid hc14
 rw [hof] at HUQ ⊢
 obtain ⟨R, hR⟩ : ∃ R, releases (reps C) of = R := ⟨_, rfl⟩
 have HRR := hid hR
 rw [hR]
 clear hA hs hbx hbW hof hc14 hR
 go_enter Tryz.func156, Tryz.ntmps156
 go_upto_region 3 with fail
 go_loopg [5, 6] (C.length) (fun g v i wr => ∃ k : Nat, k ≤ C.length ∧ g = C.length - k ∧ i = .int .i64 k ∧ (∃ a : Int, v = .int .i64 a ∧ Hid ((a = -1 ∧ ∀ e ∈ C.take k, decide (e.1.id = of) = false) ∨ ∃ j : Nat, ∃ hj : j < C.length, a = j ∧ C[j].1.id = of)) ∧ Hid (Below W.heap.size W wr))
 case atStart => exact ⟨0, by omega, by omega, rfl, ⟨-1, rfl, hid (.inl ⟨rfl, by simp⟩)⟩, hid (Below.refl _ _)⟩
 case round =>
  obtain ⟨k, hk, hgk, rfl, ⟨a, rfl, hat⟩, hbw⟩ := hrel
  by_cases hkl : k < C.length
  ·have hEw := HE.out.below hbw.out
   obtain ⟨b, off, hAe, hc⟩ := hEw.rows (by omega)
   subst hAe
   obtain ⟨c0, _⟩ := range_at (hc k hkl)
   have c14 := HC14.out wr hbw.out
   have hsn : C.take (k + 1) = C.take k ++ [C[k]] := List.take_succ_eq_append_getElem hkl
   have HSN := hid hsn
   have i0 : (0 : Int) ≤ k := by omega
   have i1 : (k : Int) < C.length := by omega
   by_cases he : C[k].1.id = of
   ·have HHE := hid he
    rw [he] at c0
    have de : (of == of) = true := beq_self_eq_true _
    clear hEw hc hsn he
    go_upto_region 5 with fail
    go_quiet (fail)
    go_wp2_with fail
    go_roundg (C.length - (k + 1))
    case measure => omega
    case rel => exact ⟨k + 1, by omega, rfl, by go_num, ⟨k, rfl, hid (.inr ⟨k, hkl, rfl, HHE.out⟩)⟩, hid (Below.drewN' hbw.out _)⟩
   ·have HHE := hid he
    obtain ⟨y, hy⟩ : ∃ y, C[k].1.id = y := ⟨_, rfl⟩
    rw [hy] at c0 he
    have HY := hid hy
    have de : (y == of) = false := beq_eq_false_iff_ne.2 he
    clear hEw hc hsn he hy
    go_upto_region 5 with fail
    go_quiet (fail)
    go_wp2_with fail
    go_roundg (C.length - (k + 1))
    case measure => omega
    case rel => exact ⟨k + 1, by omega, rfl, by go_num, ⟨a, rfl, hid (hat.out.imp (fun h => ⟨h.1, by
     rw [HSN.out]
     intro e he
     rcases List.mem_append.1 he with h9 | h9
     ·exact h.2 e h9
     ·rw [List.mem_singleton] at h9
      subst h9
      exact decide_eq_false HHE.out⟩) id)⟩, hid (Below.drewN' hbw.out _)⟩
  ·obtain rfl : k = C.length := by omega
   rcases hat.out with ⟨rfl, hno⟩ | ⟨j, hj, rfl, hyes⟩
   ·rw [List.take_length] at hno
    have HN := hid hno
    clear hno hat
    go_wp2_with fail
    go_ret
    exact ⟨ret_int (by rw [← HRR.out, releases_none HN.out]), HBW.out.trans (hbw.out.mono HBW.out.size)⟩
   obtain ⟨V1, hV1⟩ : ∃ V, V = wr := ⟨_, rfl⟩
   subst hV1
   have hrel := releases_at hj hyes (HUQ.out j hj hyes)
   rw [HRR.out] at hrel
   have hEw := HE.out.below hbw.out
   obtain ⟨b, off, hAe, hc⟩ := hEw.rows (by omega)
   subst hAe
   have hrange := hc j hj
   have hwf := HWF.out C[j] (List.getElem_mem hj)
   have hpt := hEw.parts C[j] (List.getElem_mem hj)
   obtain ⟨⟨y, P', c'⟩, hx⟩ : ∃ x, C[j] = x := ⟨_, rfl⟩
   rw [hx] at hrel hrange hwf hpt
   dsimp only at hrel hrange hwf
   rw [laterT hwf] at hrel
   have HB1 := hid (HBW.out.trans (hbw.out.mono HBW.out.size))
   have HE1 := hid hEw
   obtain ⟨ts, hts⟩ : ∃ ts, takesL y = ts := ⟨_, rfl⟩
   obtain ⟨ms, hms⟩ : ∃ ms, y.makes = ms := ⟨_, rfl⟩
   have htl := takes_len y
   have hpl : y.parts.length ≤ 100 := hpt.len
   have hml : y.makes.length ≤ 8 := makes_len _ hwf
   have hto := fun v (hb : Below V1.heap.size V1 v) => takes_any y P' c' v hpt.len (hpt.ints.kept (Kept.of_below hb))
   have hmk := fun v => rmakes_any y P' c' v hwf
   rw [hts] at htl hto
   rw [hms] at hml
   simp only [hms] at hmk
   rw [hts, hms] at hrel
   obtain ⟨l, hle⟩ : ∃ l, ts ++ ms = l := ⟨_, rfl⟩
   have hll : l.length ≤ 200 := by rw [← hle, List.length_append]; omega
   rw [hle] at hrel
   have HLE := hid hle
   clear hle
   have HTO := hid hto
   have HMK := hid hmk
   have HHIT : Hid (∀ q (hq : q < C.length), j < q → y.kind ≠ 4 → namesOne l C[q].1 = true → R = 8) := hid (fun q hq hjq h4 h => by
    rw [hrel, if_pos ⟨h4, drop_any.2 ⟨q, hjq, hq, h⟩⟩])
   have HMISS : Hid ((y.kind = 4 ∨ ∀ q (hq : q < C.length), j < q → namesOne l C[q].1 = false) → R = 0) := hid (fun h => by
    rw [hrel, if_neg]
    rintro ⟨h1, h2⟩
    rcases h with h | h
    ·exact h1 h
    ·obtain ⟨q, h3, h4, h5⟩ := drop_any.1 h2
     rw [h q h4 h3] at h5
     cases h5)
   have HR := hid hrange
   have j0 : (0 : Int) ≤ j := by omega
   have j1 : (j : Int) < C.length := by omega
   have jn : ¬ (j : Int) < 0 := by omega
   obtain ⟨_, _, _, HK, _⟩ := range_at hrange
   have HK := hid HK
   clear hat hrel hc hrange hwf hpt hx hEw hts hms hto hmk hyes hgk
   clear HRR HUQ
   go_upto_region 10 with fail
   go_loopg [7] (C.length - (j + 1)) (fun g i wr => ∃ n : Nat, j < n ∧ n ≤ C.length ∧ g = C.length - n ∧ i = .int .i64 n ∧ Hid (∀ q (hq : q < C.length), j < q → q < n → namesOne l C[q].1 = false) ∧ Hid (Below V1.heap.size V1 wr))
   case atStart => exact ⟨j + 1, by omega, by omega, by omega, by go_num, hid (fun q _ h1 h2 => by omega), hid (Below.refl _ _)⟩
   case round =>
    obtain ⟨n, hjn, hnl, hgn, rfl, hno, hbv⟩ := hrel
    obtain ⟨V, hV⟩ : ∃ V, V = wr := ⟨_, rfl⟩
    subst hV
    have n0 : (0 : Int) ≤ n := by omega
    by_cases hnk : n < C.length
    rotate_left
    ·obtain rfl : n = C.length := by omega
     have HN := hid (HMISS.out (.inr (fun q hq h1 => hno.out q hq h1 hq)))
     go_wp2_with fail
     go_ret
     exact ⟨ret_int HN.out.symm, HB1.out.trans (hbv.out.mono HB1.out.size)⟩
    have n1 : (n : Int) < C.length := by omega
    have hk := Kept.of_below hbv.out _ _ HK.out
    by_cases h4 : y.kind = 4
    ·have d4 : (y.kind != 4) = false := by simp [h4]
     have HN := hid (HMISS.out (.inl h4))
     clear h4
     go_wp2_with fail
     go_ret
     exact ⟨ret_int HN.out.symm, HB1.out.trans (hbv.out.mono HB1.out.size)⟩
    have d4 : (y.kind != 4) = true := by simp [h4]
    have HRV := hid (rangeAt_kept HR.out (Kept.of_below hbv.out))
    have H4 := hid h4
    have HTV := hid (HTO.out V.drew hbv.out.drew)
    clear h4
    go_upto_region 12 with fail
    clear hk
    go_cut [8] from 29 to 68 (fun s8 wx => ∃ A7 k7, s8 = .slice A7 l.length k7 ∧ IntsAt wx A7 l ∧ Below V.heap.size V wx)
    case first =>
     refine wp_region_noPanic ?_
     refine wp_region_held_drew (S := fun w' => w'.rangeAt b (off + j * 15) (y.cells P' c').toList) (by kernel_rfl) (rangeAt_kept HRV.out (Kept.of_below (Below.refl _ V).drew)) (fun hHeld => ?_)
     refine tk 0 (fun _ _ _ _ _ h => h) (by kernel_rfl) ‹_› ⟨_, ?_, by simp only [zz1, zz2]; rfl, .inl ⟨by rfl, ?_⟩, ?_⟩; rotate_left; · (intro w hSw; (try dsimp only at hSw); go_simp; all_goals with_reducible rfl)
     simp only [Act.put, zz4, zz5, zz6]
     refine tk 1 (fun _ _ _ _ _ h => h) (by kernel_rfl) ‹_› ⟨_, ?_, by simp only [zz1, zz2, zz3]; rfl, .inl ⟨by rfl, ?_⟩, ?_⟩; rotate_left; · (intro w hSw; (try dsimp only at hSw); go_simp; all_goals with_reducible rfl)
     simp only [Act.put, zz4, zz5, zz6]
     refine tk 2 (fun _ _ _ _ _ h => h) (by kernel_rfl) ‹_› ⟨_, ?_, by simp only [zz1, zz2, zz3]; rfl, .inl ⟨by rfl, ?_⟩, ?_⟩; rotate_left; · (intro w hSw; (try dsimp only at hSw); go_simp; all_goals with_reducible rfl)
     simp only [Act.put, zz4, zz5, zz6]
     refine tk 3 (fun _ _ _ _ _ h => h) (by kernel_rfl) ‹_› ⟨_, _, by simp only [zz1, zz2, zz3]; rfl, yields_rep rfl (.tmp 45) rfl b (off + j * 15) rfl (fun _ h => h), ?_⟩
     simp only [Act.put, zz4, zz5, zz6]
     refine tk 5 (fun _ _ _ _ _ h => h) (by kernel_rfl) ‹_› ⟨_, ?_, by simp only [zz1, zz2, zz3]; rfl, .inl ⟨by rfl, ?_⟩, ?_⟩; rotate_left; · (intro w hSw; (try dsimp only at hSw); go_simp; all_goals with_reducible rfl)
     simp only [Act.put, zz4, zz5, zz6]
     refine tk 6 (fun _ _ _ _ _ h => h) (by kernel_rfl) ‹_› ⟨_, ?_, by simp only [zz1, zz2, zz3]; rfl, .inl ⟨by rfl, ?_⟩, ?_⟩; rotate_left; · (intro w hSw; (try dsimp only at hSw); go_simp; all_goals with_reducible rfl)
     simp only [Act.put, zz4, zz5, zz6]
     refine tk 7 (fun _ _ _ _ _ h => h) (by kernel_rfl) ‹_› ⟨_, ?_, by simp only [zz1, zz2, zz3]; rfl, .inl ⟨by rfl, ?_⟩, ?_⟩; rotate_left; · (intro w hSw; (try dsimp only at hSw); go_simp; all_goals with_reducible rfl)
     simp only [Act.put, zz4, zz5, zz6]
     refine tk 8 (fun _ _ _ _ _ h => h) (by kernel_rfl) ‹_› ⟨_, _, by simp only [zz1, zz2, zz3]; rfl, yields_rep rfl (.tmp 50) rfl b (off + j * 15) rfl (fun _ h => h), ?_⟩
     simp only [Act.put, zz4, zz5, zz6]
     refine wpAnyH_ready (rs := [4]) (by kernel_rfl) (by simp) ?_
     refine cons_one (i := 4) ⟨_, by simp only [zz1, zz2, zz3]; rfl, fun K hK => ?_⟩ ?_
     rotate_left
     ·exact AllReadyH.nil
     refine step_call rfl #[.tmp 46] 157 _ rfl enters_rtakes #[y.val P' c'] ?hs (fun u w' => w'.ownsRow V.drew.heap.size 3 1 u ts.length (ints ts) ∧ Below V.drew.heap.size V.drew w') (HTV.out.mono (fun e w' h => by obtain ⟨v, h1, h2, h3⟩ := h; exact ⟨v, h1, h2, h3⟩)) ?_
     case hs => simp [Act.eval, Rep.val, Rep.cells]
     rintro v2 w2 ⟨ho2, hb2⟩
     have HO2 := hid ho2
     have HBB2 := hid hb2
     clear ho2 hb2
     clear hHeld
     refine hK.out _ _ (rangeAt_kept HRV.out (Kept.of_below ((Below.refl _ V).drew.trans HBB2.out))) (fun hHeld => ?_)
     clear hK K
     try simp only [Act.put, zz4, zz5, zz6]
     refine wpAnyH_ready (rs := [9]) (by kernel_rfl) (by simp) ?_
     refine cons_one (i := 9) ⟨_, by simp only [zz1, zz2, zz3]; rfl, fun K hK => ?_⟩ ?_
     rotate_left
     ·exact AllReadyH.nil
     refine step_call rfl #[.tmp 51] 82 _ rfl enters_rmakes #[y.val P' c'] ?hs (fun u w' => w'.ownsRow w2.heap.size 3 1 u ms.length (ints ms) ∧ Below w2.heap.size w2 w') ((HMK.out w2).mono (fun e w' h => by obtain ⟨v, h1, h2, h3⟩ := h; exact ⟨v, h1, h2, h3⟩)) ?_
     case hs => simp [Act.eval, Rep.val, Rep.cells]
     rintro v3 w3 ⟨ho3, hb3⟩
     obtain ⟨A3, k3, rfl, hx9⟩ := ownsRow.form ho3
     obtain ⟨v4, w4, hrn, ho4, hg4⟩ := app_ints (base := V.drew.heap.size) (own_below HO2.out hb3) (A := A3) (c := k3) (ownsRow_ints ho3) (by omega) (by have := HBB2.out.size; have := hb3.size; omega)
     have HRN := hid hrn
     have HO4 := hid ho4
     have HB3 : Hid (Below V.heap.size V w3) := hid ((Below.refl _ V).drew.trans (HBB2.out.trans (hb3.mono HBB2.out.size)))
     have HB4 : Hid (Below V.heap.size V w4) := hid (HB3.out.grown hg4 (by have := HB3.out.size; omega) (fun j e => ((own_below HO2.out hb3).lt j e).1))
     clear ho3 hb3 hx9 hrn ho4 hg4
     clear hHeld
     refine hK.out _ _ (rangeAt_kept HRV.out (Kept.of_below HB3.out)) (fun hHeld => ?_)
     clear hK K
     try simp only [Act.put, zz4, zz5, zz6]
     refine wpAnyH_ready (rs := [10]) (by kernel_rfl) (by simp) ?_
     refine cons_one (i := 10) ⟨_, by simp only [zz1, zz2, zz3]; rfl, fun K hK => ?_⟩ ?_
     rotate_left
     ·exact AllReadyH.nil
     refine step_app rfl (s := .tmp 47) (x := .tmp 52) rfl rfl ?hs ?hx HRN.out ?_
     case hs => simp [Act.eval]
     case hx => simp [Act.eval]
     clear hHeld
     refine hK.out _ _ (rangeAt_kept HRV.out (Kept.of_below HB4.out)) (fun hHeld => ?_)
     clear hK K
     try simp only [Act.put, zz4, zz5, zz6]
     refine tk 11 (fun _ _ _ _ _ h => h) (by kernel_rfl) ‹_› ⟨_, ?_, by simp only [zz1, zz2, zz3]; rfl, .inl ⟨by rfl, ?_⟩, ?_⟩; rotate_left; · (intro w hSw; (try dsimp only at hSw); go_simp; all_goals with_reducible rfl)
     simp only [Act.put, zz4, zz5, zz6]
     refine wpAnyH_done (by kernel_rfl) ?_ _
     refine NoPanic.normal ?_
     go_wp2_with fail
     go_meet
     case rel =>
      obtain ⟨A7, k7, rfl, _⟩ := ownsRow.form HO4.out
      exact ⟨A7, k7, by rw [HLE.out], by rw [← HLE.out]; exact ownsRow_ints HO4.out, HB4.out⟩
    case rest =>
     obtain ⟨A7, k7, rfl, hI7, hB7⟩ := hcut
     have HI7 := hid hI7
     have HB7 := hid hB7
     have hEw := (HE1.out.below hbv.out).below hB7
     obtain ⟨b2, off2, hAe, hc⟩ := hEw.rows (by omega)
     cases hAe
     have hrange := hc n hnk
     have hwf := HWF.out C[n] (List.getElem_mem hnk)
     have hpt := hEw.parts C[n] (List.getElem_mem hnk)
     have hhit := HHIT.out n hnk hjn H4.out
     have hstep : namesOne l C[n].1 = false → ∀ q (hq : q < C.length), j < q → q < n + 1 → namesOne l C[q].1 = false := fun h q hq h1 h2 => by
      rcases Nat.lt_or_ge q n with h3 | h3
      ·exact hno.out q hq h1 h3
      ·obtain rfl : q = n := by omega
       exact h
     have HSTEP := hid hstep
     obtain ⟨⟨z, P2, c2⟩, hz⟩ : ∃ x, C[n] = x := ⟨_, rfl⟩
     have HZ := hid hz
     rw [hz] at hrange hwf hpt hhit
     dsimp only at hrange hwf hhit
     have HRZ := hid hrange
     have HHZ := hid hhit
     have HNZ := hid (fun v (hb : Below wc.heap.size wc v) p => rnames_any z P2 c2 p v hwf hpt.len (hpt.ints.kept (Kept.of_below hb)))
     clear hI7 hB7 hEw hc hrange hwf hpt hhit hstep hz HTO HMK HTV HRV htl hml hpl
     go_upto_region 14 with fail
     go_loopg [9] (l.length) (fun g i wq => ∃ q : Nat, q ≤ l.length ∧ g = l.length - q ∧ i = .int .i64 q ∧ Hid ((l.take q).any (fun p => decide (z.names p)) = false) ∧ Hid (Below wc.heap.size wc wq))
     case atStart => exact ⟨0, by omega, by omega, rfl, hid (by simp), hid (Below.refl _ _)⟩
     case round =>
      obtain ⟨q, hq, hgq, rfl, hnq, hbq⟩ := hrel
      by_cases hql : q < l.length
      ·obtain ⟨b3, off3, hA3, hc3⟩ := (HI7.out.kept (Kept.of_below hbq.out)) (by omega)
       subst hA3
       have hcq := hc3 q hql
       have hrq := rangeAt_kept HRZ.out (Kept.of_below hbq.out)
       have hsn := any_take_snoc (fun p => decide (z.names p)) l q hql
       rw [hnq.out, Bool.false_or] at hsn
       have hmem := List.getElem_mem hql
       obtain ⟨p, hp⟩ : ∃ p, l[q] = p := ⟨_, rfl⟩
       rw [hp] at hcq hsn hmem
       obtain ⟨t, ht⟩ : ∃ t, decide (z.names p) = t := ⟨_, rfl⟩
       rw [ht] at hsn
       have hnz := HNZ.out wr.drew hbq.out.drew p
       rw [ht] at hnz
       have HCN := hid hnz
       have HSN := hid hsn
       have HT := hid ht
       have HMEM := hid hmem
       have HRQ := hid hrq
       have HCQ := hid hcq
       have q0 : (0 : Int) ≤ q := by omega
       have q1 : (q : Int) < l.length := by omega
       clear hc3 hcq hrq hsn hmem hp ht hnz
       go_upto_region 16 with fail
       refine wp_region_noPanic ?_
       refine wp_region_held_drew (S := fun w' => w'.rangeAt b (off + n * 15) (z.cells P2 c2).toList ∧ w'.cell? ⟨b3, off3 + q, none⟩ = some (.int .i64 p)) (by kernel_rfl) (⟨rangeAt_kept HRQ.out (Kept.of_below (Below.refl _ wr).drew), Kept.of_below (Below.refl _ wr).drew _ _ HCQ.out⟩) (fun hHeld => ?_)
       refine tk 0 (fun _ _ _ _ _ h => h) (by kernel_rfl) ‹_› ⟨_, ?_, by simp only [zz1, zz2]; rfl, .inl ⟨by rfl, ?_⟩, ?_⟩; rotate_left; · (intro w hSw; (try dsimp only at hSw); go_simp; all_goals with_reducible rfl)
       simp only [Act.put, zz4, zz5, zz6]
       refine tk 1 (fun _ _ _ _ _ h => h) (by kernel_rfl) ‹_› ⟨_, ?_, by simp only [zz1, zz2, zz3]; rfl, .inl ⟨by rfl, ?_⟩, ?_⟩; rotate_left; · (intro w hSw; (try dsimp only at hSw); go_simp; all_goals with_reducible rfl)
       simp only [Act.put, zz4, zz5, zz6]
       refine tk 2 (fun _ _ _ _ _ h => h) (by kernel_rfl) ‹_› ⟨_, ?_, by simp only [zz1, zz2, zz3]; rfl, .inl ⟨by rfl, ?_⟩, ?_⟩; rotate_left; · (intro w hSw; (try dsimp only at hSw); go_simp; all_goals with_reducible rfl)
       simp only [Act.put, zz4, zz5, zz6]
       refine tk 3 (fun _ _ _ _ _ h => h) (by kernel_rfl) ‹_› ⟨_, _, by simp only [zz1, zz2, zz3]; rfl, yields_rep rfl (.tmp 62) rfl b (off + n * 15) rfl (fun _ h => h.1), ?_⟩
       simp only [Act.put, zz4, zz5, zz6]
       refine tk 4 (fun _ _ _ _ _ h => h) (by kernel_rfl) ‹_› ⟨_, ?_, by simp only [zz1, zz2, zz3]; rfl, .inl ⟨by rfl, ?_⟩, ?_⟩; rotate_left; · (intro w hSw; (try dsimp only at hSw); go_simp; all_goals with_reducible rfl)
       simp only [Act.put, zz4, zz5, zz6]
       refine tk 5 (fun _ _ _ _ _ h => h) (by kernel_rfl) ‹_› ⟨_, ?_, by simp only [zz1, zz2, zz3]; rfl, .inl ⟨by rfl, ?_⟩, ?_⟩; rotate_left; · (intro w hSw; (try dsimp only at hSw); go_simp; all_goals with_reducible rfl)
       simp only [Act.put, zz4, zz5, zz6]
       refine tk 6 (fun _ _ _ _ _ h => h) (by kernel_rfl) ‹_› ⟨_, ?_, by simp only [zz1, zz2, zz3]; rfl, .inl ⟨by rfl, ?_⟩, ?_⟩; rotate_left; · (intro w hSw; (try dsimp only at hSw); go_simp; all_goals with_reducible rfl)
       simp only [Act.put, zz4, zz5, zz6]
       refine tk 7 (fun _ _ _ _ _ h => h) (by kernel_rfl) ‹_› ⟨_, ?_, by simp only [zz1, zz2, zz3]; rfl, .inl ⟨by rfl, ?_⟩, ?_⟩; rotate_left; · (intro w hSw; (try dsimp only at hSw); go_simp; all_goals with_reducible rfl)
       simp only [Act.put, zz4, zz5, zz6]
       refine wpAnyH_ready (rs := [8]) (by kernel_rfl) (by simp) ?_
       refine cons_one (i := 8) ⟨_, by simp only [zz1, zz2, zz3]; rfl, fun K hK => ?_⟩ ?_
       rotate_left
       ·exact AllReadyH.nil
       refine step_call rfl #[.tmp 63, .tmp 67] 160 _ rfl enters_rnames #[z.val P2 c2, .int .i64 p] ?hs (fun u w' => u = .bool t ∧ Below wr.drew.heap.size wr.drew w') (HCN.out.mono (fun e w' h => ⟨_, h.1, rfl, h.2⟩)) ?_
       case hs => simp [Act.eval, Rep.val, Rep.cells]
       rintro _ w6 ⟨rfl, hb6⟩
       have HB6 := hid (hbq.out.drew.trans (hb6.mono hbq.out.size))
       have HB6' := hid hb6
       clear hb6
       clear hHeld
       refine hK.out _ _ (⟨rangeAt_kept HRZ.out (Kept.of_below HB6.out), Kept.of_below (show Below wr.heap.size wr w6 from (Below.refl _ wr).drew.trans HB6'.out) _ _ HCQ.out⟩) (fun hHeld => ?_)
       clear hK K
       try simp only [Act.put]
       refine wpAnyH_done (by kernel_rfl) ?_ _
       refine NoPanic.normal ?_
       rcases t with _ | _
       ·go_wp2_with fail
        go_roundg (l.length - (q + 1))
        case measure => omega
        case rel => exact ⟨q + 1, by omega, rfl, by go_num, hid HSN.out, HB6⟩
       ·go_wp2_with fail
        go_ret
        refine ⟨ret_int (HHZ.out ?_).symm, HB1.out.trans ((hbv.out.trans ((HB7.out.trans (HB6.out.mono HB7.out.size)).mono hbv.out.size)).mono HB1.out.size)⟩
        exact List.any_eq_true.2 ⟨p, HMEM.out, HT.out⟩
      ·obtain rfl : q = l.length := by omega
       have hn2 := hnq.out
       rw [List.take_length] at hn2
       have HN2 := hid (HSTEP.out (by rw [HZ.out]; exact hn2))
       clear hn2
       go_wp2_with fail
       go_roundg (C.length - (n + 1))
       case measure => omega
       case rel => exact ⟨n + 1, by omega, by omega, rfl, by go_num, HN2, hid (hbv.out.trans ((HB7.out.trans (hbq.out.mono HB7.out.size)).mono hbv.out.size))⟩
theorem commonB_snoc (l : List ByteArray) (d a : ByteArray) (h : l ≠ []) : commonB (l ++ [a]) d = if a = commonB l d then commonB l d else d := by
 rcases l with _ | ⟨b, t⟩
 ·exact absurd rfl h
 ·show (if (b :: (t ++ [a])).any (fun s => !decide (s = b)) then d else b) = if a = (if (b :: t).any (fun s => !decide (s = b)) then d else b) then (if (b :: t).any (fun s => !decide (s = b)) then d else b) else d
  have h1 : (b :: (t ++ [a])).any (fun s => !decide (s = b)) = ((b :: t).any (fun s => !decide (s = b)) || !decide (a = b)) := by
   rw [← List.cons_append, List.any_append]
   simp
  rw [h1]
  rcases (b :: t).any (fun s => !decide (s = b)) with _ | _
  ·by_cases hab : a = b <;> simp [hab]
  ·simp
theorem commonB_one (a d : ByteArray) : commonB [a] d = a := by simp [commonB]
theorem makes_kind {r : Rep} {p : Int} (h : p ∈ r.makes) : r.kind = 1 ∨ r.kind = 2 ∨ r.kind = 3 := by
 unfold Rep.makes at h
 split at h
 ·omega
 ·split at h
  ·omega
  ·cases h
set_option maxHeartbeats 16000000 in
theorem rgoods_any (C : List Ent) (hs : Sound (reps C)) (hl : C.length ≤ 900) (A : Option Addr) (cap : Nat) : ∀ (d : Nat) (p : Int) (w : World), EntsAt w A C → MadeBy (reps C) d p →
  Calls Tryz.prog 125 #[.slice A C.length cap, .int .i64 p] w fun e w' => e = .returned (.tuple #[.string (describeF (reps C) d p).1, .string (describeF (reps C) d p).2]) ∧ Below w.heap.size w w'
 | 0, p, w, _, hm => by
  obtain ⟨j, _, h, _⟩ := hm
  omega
 | d + 1, p, w, hA, hm => by
  obtain ⟨x0, hx0⟩ := made_some hm
  have hms := makerR_reps C p
  rcases he : makerR C p with _ | ⟨x, P, c⟩
  ·rw [he, hx0] at hms; cases hms
  rw [he] at hms
  have hmx : makerOf (reps C) p = some x := hms
  have hxm : (x, P, c) ∈ C := List.mem_of_find?_eq_some he
  have hmk : p ∈ x.makes := by have := List.find?_some he; simpa using this
  have hwx := hs.wfs x (List.mem_map_of_mem (f := Prod.fst) hxm)
  have hpx := hA.parts _ hxm
  have hde : describeF (reps C) (d + 1) p = if x.kind = 1 then (x.goods, x.mark) else (commonB (x.uses.map fun q => (describeF (reps C) d q).1) mixed, commonB (x.uses.map fun q => (describeF (reps C) d q).2) .empty) := by
   conv => lhs; unfold describeF
   rw [hmx]
  have hum := uses_made hs hm hmx
  have HIH := hid (fun q w' (hq : q ∈ x.uses) (hb : Below w.heap.size w w') => rgoods_any C hs hl A cap d q w' (hA.below hb) (hum q hq))
  have hkk := makes_kind hmk
  have hp3 := hwx.parts
  have hM := rmaker_any A cap C p w hA (by omega) (fun e he => hs.wfs e.1 (List.mem_map_of_mem (f := Prod.fst) he))
  have hfd : entOr (C.find? fun e => decide (p ∈ e.1.makes)) = (x, P, c) := by
   have : (C.find? fun e => decide (p ∈ e.1.makes)) = some (x, P, c) := he
   rw [this]
   rfl
  rw [hfd] at hM
  have HM := hid hM
  have HPX := hid hpx
  have HDE := hid hde
  have HU : Hid (x.uses = if x.kind = 2 then [x.parcel] else if x.kind = 3 then x.parts else if x.kind = 7 then [x.other] else []) := hid rfl
  obtain ⟨G, hG⟩ : ∃ G, describeF (reps C) (d + 1) p = G := ⟨_, rfl⟩
  rw [hG] at HDE ⊢
  have HP3 := hid hp3
  clear hms hmx hm hx0 he hxm hwx hpx hde hum hA hM hfd hmk hG hp3 hs hl
  by_cases h1 : x.kind = 1
  ·have d1 : (x.kind == 1) = true := by simp [h1]
   have HD : Hid (G = (x.goods, x.mark)) := hid (by rw [HDE.out, if_pos h1])
   clear h1 hkk
   go_enter Tryz.func125, Tryz.ntmps125
   go_wp2_with fail
   refine HM.out.mono ?_
   rintro e w1 ⟨hb1, rfl⟩
   have HB1 := hid hb1
   clear hb1
   go_upto_region 2 with (refine store_rep_new rfl _ _ rfl rfl rfl rfl rfl ?_; intro W2 hbx2 hb2 hlt2; have HX2 := hid hbx2; have HB2 := hid (HB1.out.trans (hb2.mono HB1.out.size)); clear hbx2 hb2)
   obtain ⟨_, _, _, c3, _, _, _, _, c8, c9, _⟩ := HX2.out.at_
   go_upto_region 4 with fail
   go_quiet (fail)
   go_wp2_with fail
   go_ret2
   exact ⟨by rw [HD.out]; rfl, Below.drewN' HB2.out _⟩
  ·have d1 : (x.kind == 1) = false := by simp [h1]
   have HD : Hid (G = (commonB (x.uses.map fun q => (describeF (reps C) d q).1) mixed, commonB (x.uses.map fun q => (describeF (reps C) d q).2) .empty)) := hid (by rw [HDE.out, if_neg h1])
   by_cases h2 : x.kind = 2
   ·have d2 : (x.kind == 2) = true := by simp [h2]
    have hu : x.uses = [x.parcel] := by rw [HU.out, if_pos h2]
    have HCL := hid (HIH.out x.parcel)
    rw [hu] at HD HCL
    have HD2 : Hid (G = describeF (reps C) d x.parcel) := hid (by rw [HD.out, List.map_singleton, List.map_singleton, commonB_one, commonB_one])
    have HQ : Hid (∀ w', Below w.heap.size w w' → _) := hid (fun w' hb => HCL.out w' (List.mem_singleton.2 rfl) hb)
    clear h1 h2 hkk hu HDE HIH HCL HD
    go_enter Tryz.func125, Tryz.ntmps125
    go_wp2_with fail
    refine HM.out.mono ?_
    rintro e w1 ⟨hb1, rfl⟩
    have HB1 := hid hb1
    clear hb1
    go_upto_region 2 with (refine store_rep_new rfl _ _ rfl rfl rfl rfl rfl ?_; intro W2 hbx2 hb2 hlt2; have HX2 := hid hbx2; have HB2 := hid (HB1.out.trans (hb2.mono HB1.out.size)); clear hbx2 hb2)
    obtain ⟨_, _, _, c3, c4, _⟩ := HX2.out.at_
    go_wp2_with fail
    refine (HQ.out W2 HB2.out).mono ?_
    rintro e w3 ⟨rfl, hb3⟩
    have HB3 := hid (HB2.out.trans (hb3.mono HB2.out.size))
    clear hb3
    go_wp2_with fail
    go_ret2
    exact ⟨by rw [HD2.out]; rfl, HB3.out⟩
   ·have d2 : (x.kind == 2) = false := by simp [h2]
    have h3 : x.kind = 3 := by omega
    obtain ⟨hq2, hq8, _⟩ := HP3.out h3
    have hu : x.uses = x.parts := by rw [HU.out, if_neg h2, if_pos h3]
    obtain ⟨us, hus⟩ : ∃ us, x.parts = us := ⟨_, rfl⟩
    have hIP := HPX.out.ints
    rw [hus] at hu hq2 hq8 hIP
    rw [hu] at HD HIH
    have HIP := hid hIP
    have HUS := hid hus
    clear h1 h2 h3 hkk hu HDE hIP hus HPX
    go_enter Tryz.func125, Tryz.ntmps125
    go_wp2_with fail
    refine HM.out.mono ?_
    rintro e w1 ⟨hb1, rfl⟩
    have HB1 := hid hb1
    clear hb1
    go_upto_region 2 with (refine store_rep_new rfl _ _ rfl rfl rfl rfl rfl ?_; intro W2 hbx2 hb2 hlt2; have HX2 := hid hbx2; have HB2 := hid (HB1.out.trans (hb2.mono HB1.out.size)); clear hbx2 hb2)
    obtain ⟨_, _, _, c3, _, _, c6, _⟩ := HX2.out.at_
    rw [HUS.out] at c6
    have HI2 := hid (HIP.out.kept (Kept.of_below HB2.out))
    obtain ⟨b, off, hAe, hc⟩ := HI2.out (by omega)
    subst hAe
    have hc0 := hc 0 (by omega)
    rw [Nat.add_zero] at hc0
    obtain ⟨u0, hu0⟩ : ∃ u, us[0] = u := ⟨_, rfl⟩
    rw [hu0] at hc0
    have HC0 : Hid (us.take 1 = [u0]) := hid (by rw [List.take_succ_eq_append_getElem (by omega), hu0]; rfl)
    have HQ0 := hid (HIH.out u0 W2 (by rw [← hu0]; exact List.getElem_mem _) HB2.out)
    have j0 : (0 : Int) < us.length := by omega
    have jn : ((us.length : Int) == 0) = false := by rw [beq_eq_false_iff_ne]; omega
    clear hc hu0
    go_wp2_with fail
    refine HQ0.out.mono ?_
    rintro e w3 ⟨rfl, hb3⟩
    have HB3 := hid (HB2.out.trans (hb3.mono HB2.out.size))
    have HX3 := hid (HX2.out.below hb3)
    have HB3' := hid hb3
    clear hb3 c3 c6 hc0
    go_upto_region 11 with fail
    go_loopg [8, 9, 10] (us.length - 1) (fun g gv mv i wr => ∃ k : Nat, 1 ≤ k ∧ k ≤ us.length ∧ g = us.length - k ∧ i = .int .i64 k ∧ gv = .string (commonB ((us.take k).map fun q => (describeF (reps C) d q).1) mixed) ∧ mv = .string (commonB ((us.take k).map fun q => (describeF (reps C) d q).2) .empty) ∧ Hid (Below w3.heap.size w3 wr))
    case atStart => exact ⟨1, by omega, by omega, rfl, rfl, by rw [HC0.out, List.map_singleton, commonB_one], by rw [HC0.out, List.map_singleton, commonB_one], hid (Below.refl _ _)⟩
    case round =>
     obtain ⟨k, hk1, hk, hgk, rfl, rfl, rfl, hbw⟩ := hrel
     obtain ⟨_, _, _, _, _, _, c6, _⟩ := (HX3.out.below hbw.out).at_
     rw [HUS.out] at c6
     by_cases hlt : k < us.length
     ·obtain ⟨b9, off9, hA9, hc⟩ := ((HI2.out.kept (Kept.of_below (HB3'.out))).kept (Kept.of_below hbw.out)) (by omega)
      cases hA9
      have hck := hc k hlt
      have i0 : (0 : Int) ≤ k := by omega
      have i1 : (k : Int) < us.length := by omega
      have hsn : us.take (k + 1) = us.take k ++ [us[k]] := List.take_succ_eq_append_getElem hlt
      have hmem := List.getElem_mem hlt
      obtain ⟨q, hq⟩ : ∃ q, us[k] = q := ⟨_, rfl⟩
      rw [hq] at hck hsn hmem
      have hcl := HIH.out q wr hmem (HB3.out.trans (hbw.out.mono HB3.out.size))
      have hs1 := commonB_snoc ((us.take k).map fun q => (describeF (reps C) d q).1) mixed (describeF (reps C) d q).1 (fun h => by have := congrArg List.length h; rw [List.length_map, List.length_take, List.length_nil] at this; omega)
      have hs2 := commonB_snoc ((us.take k).map fun q => (describeF (reps C) d q).2) .empty (describeF (reps C) d q).2 (fun h => by have := congrArg List.length h; rw [List.length_map, List.length_take, List.length_nil] at this; omega)
      have e1 : ((us.take (k + 1)).map fun q => (describeF (reps C) d q).1) = ((us.take k).map fun q => (describeF (reps C) d q).1) ++ [(describeF (reps C) d q).1] := by rw [hsn, List.map_append]; rfl
      have e2 : ((us.take (k + 1)).map fun q => (describeF (reps C) d q).2) = ((us.take k).map fun q => (describeF (reps C) d q).2) ++ [(describeF (reps C) d q).2] := by rw [hsn, List.map_append]; rfl
      rw [← e1] at hs1
      rw [← e2] at hs2
      obtain ⟨⟨g, m⟩, hgm⟩ : ∃ gm, describeF (reps C) d q = gm := ⟨_, rfl⟩
      rw [hgm] at hcl hs1 hs2
      dsimp only at hs1 hs2 hcl
      obtain ⟨g0, hg0⟩ : ∃ x, commonB ((us.take k).map fun q => (describeF (reps C) d q).1) mixed = x := ⟨_, rfl⟩
      obtain ⟨m0, hm0⟩ : ∃ x, commonB ((us.take k).map fun q => (describeF (reps C) d q).2) .empty = x := ⟨_, rfl⟩
      rw [hg0] at hs1 ⊢
      rw [hm0] at hs2 ⊢
      have HS1 := hid hs1
      have HS2 := hid hs2
      have HCL := hid hcl
      clear hc hsn hmem hq hcl hs1 hs2 e1 e2 hgm hg0 hm0
      go_wp2_with fail
      refine HCL.out.mono ?_
      rintro e w5 ⟨rfl, hb5⟩
      have HB5 := hid (hbw.out.trans (hb5.mono hbw.out.size))
      clear hb5 hck c6
      by_cases hg : g = g0
      ·have HG : Hid (commonB ((us.take (k + 1)).map fun q => (describeF (reps C) d q).1) mixed = g0) := hid (by rw [HS1.out, if_pos hg])
       subst hg
       by_cases hmm : m = m0
       ·have HMM : Hid (commonB ((us.take (k + 1)).map fun q => (describeF (reps C) d q).2) .empty = m0) := hid (by rw [HS2.out, if_pos hmm])
        subst hmm
        go_wp2_with fail
        go_roundg (us.length - (k + 1))
        case measure => omega
        case rel => exact ⟨k + 1, by omega, by omega, rfl, by go_num, by rw [HG.out], by rw [HMM.out], HB5⟩
       ·have HMM : Hid (commonB ((us.take (k + 1)).map fun q => (describeF (reps C) d q).2) .empty = .empty) := hid (by rw [HS2.out, if_neg hmm])
        have hgl : ¬ m.toList = m0.toList := fun h => hmm (ba_inj h)
        have hgb : (m.toList == m0.toList) = false := beq_eq_false_iff_ne.2 hgl
        clear hmm
        go_wp2_with fail
        go_roundg (us.length - (k + 1))
        case measure => omega
        case rel => exact ⟨k + 1, by omega, by omega, rfl, by go_num, by rw [HG.out], by rw [HMM.out]; rfl, HB5⟩
      ·have HG : Hid (commonB ((us.take (k + 1)).map fun q => (describeF (reps C) d q).1) mixed = mixed) := hid (by rw [HS1.out, if_neg hg])
       have hgl : ¬ g.toList = g0.toList := fun h => hg (ba_inj h)
       have hgb : (g.toList == g0.toList) = false := beq_eq_false_iff_ne.2 hgl
       clear hg
       by_cases hmm : m = m0
       ·have HMM : Hid (commonB ((us.take (k + 1)).map fun q => (describeF (reps C) d q).2) .empty = m0) := hid (by rw [HS2.out, if_pos hmm])
        subst hmm
        go_wp2_with fail
        go_roundg (us.length - (k + 1))
        case measure => omega
        case rel => exact ⟨k + 1, by omega, by omega, rfl, by go_num, by rw [HG.out], by rw [HMM.out], HB5⟩
       ·have HMM : Hid (commonB ((us.take (k + 1)).map fun q => (describeF (reps C) d q).2) .empty = .empty) := hid (by rw [HS2.out, if_neg hmm])
        have hml : ¬ m.toList = m0.toList := fun h => hmm (ba_inj h)
        have hmb : (m.toList == m0.toList) = false := beq_eq_false_iff_ne.2 hml
        clear hmm
        go_wp2_with fail
        go_roundg (us.length - (k + 1))
        case measure => omega
        case rel => exact ⟨k + 1, by omega, by omega, rfl, by go_num, by rw [HG.out], by rw [HMM.out]; rfl, HB5⟩
     ·obtain rfl : k = us.length := by omega
      rw [List.take_length]
      go_wp2_with fail
      go_ret2
      exact ⟨by rw [HD.out]; rfl, HB3.out.trans (hbw.out.mono HB3.out.size)⟩
end Go.Proofs.YtfaoillnakhejaaGreat
