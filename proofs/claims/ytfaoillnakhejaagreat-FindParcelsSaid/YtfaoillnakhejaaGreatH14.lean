/- The reference: said, goods. -/
import Derived.Test.YtfaoillnakhejaaGreatH13
import Derived.Test.YtfaoillnakhejaaGreatG14
namespace Go.Proofs.YtfaoillnakhejaaGreat
set_option maxRecDepth 100000
open Go.RowKit
def saysR (o : List Int) (x : Rep) : Bool := (decide (x.kind = 1) && decide (10 * x.id ∈ o)) || (decide (x.kind = 4) && decide (x.parcel ∈ o))
def loR (o : List Int) (m : Int) (x : Rep) : Int := if saysR o x then max m x.lo else m
def hiR (o : List Int) (m : Int) (x : Rep) : Int := if saysR o x then min m x.hi else m
def saidLo (L : List Rep) (o : List Int) : Int := L.foldl (loR o) 1
def saidHi (L : List Rep) (o : List Int) : Int := L.foldl (hiR o) 100000000
theorem fold_snoc {α β : Type} (f : β → α → β) (b : β) (l : List α) (k : Nat) (h : k < l.length) : (l.take (k + 1)).foldl f b = f ((l.take k).foldl f b) l[k] := by
 rw [List.take_succ_eq_append_getElem h, List.foldl_append]
 rfl
abbrev spanC (a b : Int) : Array Value := #[.int .i64 a, .int .i64 b]
def SpanIs (w : World) (g : Nat) (a b : Int) : Prop := w.heap[g]? = some (.cells (spanC a b) 36 (0, 0))
theorem SpanIs.below {w w' : World} {g : Nat} {a b : Int} (h : SpanIs w g a b) (hb : Below w.heap.size w w') : SpanIs w' g a b := (hb.block g (Array.getElem?_eq_some_iff.1 h).1).trans h
theorem SpanIs.drew {w : World} {g : Nat} {a b : Int} (h : SpanIs w g a b) : SpanIs w.drew g a b := h
theorem SpanIs.at_ {w : World} {g : Nat} {a b : Int} (h : SpanIs w g a b) : w.cell? ⟨g, 0, none⟩ = some (.int .i64 a) ∧ w.cell? ⟨g, 1, none⟩ = some (.int .i64 b) ∧ (∀ i, w.frozen? ⟨g, i, none⟩ = false) ∧ g < w.heap.size := by
 unfold SpanIs at h
 refine ⟨by simp [World.cell?, h, spanC], by simp [World.cell?, h, spanC], fun i => ?_, (Array.getElem?_eq_some_iff.1 h).1⟩
 simp [World.frozen?, h]
theorem SpanIs.set {w : World} {g : Nat} {a b a' b' : Int} (h : SpanIs w g a b) : SpanIs ((w.setCell ⟨g, 0, none⟩ (.int .i64 a')).setCell ⟨g, 1, none⟩ (.int .i64 b')) g a' b' := block_set (block_set h)
theorem SpanIs.far {w : World} {g k i : Nat} {v : Value} {a b : Int} (h : SpanIs w g a b) (hk : g ≠ k) : SpanIs (w.setCell ⟨k, i, none⟩ v) g a b := by
 unfold SpanIs at h ⊢
 rw [← h]
 simp only [World.setCell, Array.getElem?_modify]
 rw [if_neg (fun e => hk e.symm)]
theorem cell_far {w : World} {k i b j : Nat} {v : Value} (h : b ≠ k) : (w.setCell ⟨k, i, none⟩ v).cell? ⟨b, j, none⟩ = w.cell? ⟨b, j, none⟩ := World.cell?_of_block (setCell_ne w h)
theorem span_info : (Tryz.prog.info? 36).map (·.size) = some 2 := by kernel_rfl
theorem span2_gen {w : World} {a b c d : Int} {F : World → Prop} (k : ∀ W, SpanIs W w.heap.size a b → SpanIs W (w.heap.size + 1) c d → Below w.heap.size w W → w.heap.size + 1 < W.heap.size → F W) : F ((w.alloc (.cells (spanC a b) 36)).alloc (.cells (spanC c d) 36)) := by
 refine k _ ?_ ?_ (((Below.refl _ _).alloc (Nat.le_refl _) _).alloc (by simp) _) (by simp)
 ·exact (heap_alloc_old _ _ _ (by simp)).trans (heap_alloc_new _ _)
 ·unfold SpanIs
  have : w.heap.size + 1 = (w.alloc (.cells (spanC a b) 36)).heap.size := by simp
  rw [this, heap_alloc_new]
theorem load_span {ops : Array Oper} {rest : List Oper} {o : Oper} {a : Act} {w : World} {Q : Exit → Act → World → Prop} (hgd : o.guard = none) (x : Operand) (ho : o.op = .load 36 x)
  (g : Nat) (hx : a.eval x = .pointer (some ⟨g, 0, none⟩)) {lo hi : Int} (hg : SpanIs w g lo hi)
  (h : wpList Tryz.prog ops Q rest (a.put o.dst (.agg (spanC lo hi))) w) : wpList Tryz.prog ops Q (o :: rest) a w :=
 wpList_load_row hgd _ x ho g hx _ (spanC lo hi) (0, 0) _ hg Tryz.underlying36 rfl span_info h
theorem store_span {ops : Array Oper} {rest : List Oper} {o : Oper} {a : Act} {w : World} {Q : Exit → Act → World → Prop} (hgd : o.guard = none) (x y : Operand) (ho : o.op = .store 36 x y)
  (g : Nat) (hx : a.eval x = .pointer (some ⟨g, 0, none⟩)) {lo hi c d : Int} (hy : a.eval y = .agg (spanC lo hi)) (hg : SpanIs w g c d)
  (h : wpList Tryz.prog ops Q rest (a.put o.dst undef) (w.setRow g (spanC lo hi))) : wpList Tryz.prog ops Q (o :: rest) a w :=
 wpList_store_row hgd _ x y ho g (spanC lo hi) hx hy _ _ hg span_info rfl (by simp [spanC, Value.oneCell']) h
theorem said_ret (tmps : Array Value) (w : World) (g : Nat) {lo hi : Int} (hp : tmps.getD 4 undef = .pointer (some ⟨g, 0, none⟩)) (hg : SpanIs w g lo hi) :
  (results Tryz.f123 tmps).run Tryz.prog w = .ok (.agg (spanC lo hi)) w :=
 results_cell_row rfl tmps w g _ (spanC lo hi) (0, 0) _ hp hg Tryz.underlying36 rfl span_info
set_option maxHeartbeats 16000000 in
theorem rsaid_any (A : Option Addr) (cap : Nat) (C : List Ent) (p : Int) (w : World) (hA : EntsAt w A C) (hl : C.length ≤ 900) (hw : ∀ e ∈ C, e.1.Wf) :
  Calls Tryz.prog 123 #[.slice A C.length cap, .int .i64 p] w fun e w' => Below w.heap.size w w' ∧ ∃ o, (∀ q, q ∈ o ↔ Reach (nxL (reps C) sameG) p q) ∧ e = .returned (.agg (spanC (saidLo (reps C) o) (saidHi (reps C) o))) := by
 have HA := hid hA
 have HW := hid hw
 clear hA hw
 go_enter Tryz.func123, Tryz.ntmps123
 go_upto_region 2 with fail
 refine span2_gen ?_
 intro W hs4 hs5 hbW hlt
 have HBW := hid hbW
 have HS4 := hid hs4
 have HS5 := hid hs5
 have HBE := hid (rbecame_any A cap C p W (HA.out.below hbW) hl)
 clear hbW hs4 hs5
 go_wp2_with fail
 refine HBE.out.mono ?_
 rintro e w1 ⟨o, v, rfl, ho, hb, hol, hmem⟩
 obtain ⟨A5, k5, rfl, hx5⟩ := ownsRow.form ho
 have HI := hid (ownsRow_ints ho)
 have HNE : Hid (∀ b9 off9, A5 = some ⟨b9, off9, none⟩ → b9 ≠ w.heap.size + 1) := hid (fun b9 off9 e => by
  have := (hx5.2.2 _ e).1
  dsimp only at this
  omega)
 have HM := hid hmem
 have HB1 := hid (HBW.out.trans (hb.mono HBW.out.size))
 have HT4 := hid (HS4.out.below hb)
 have HT5 := hid (HS5.out.below hb)
 clear hx5 ho hmem hb HBE
 have hlt1 : w.heap.size + 1 < w1.heap.size := HT5.out.at_.2.2.2
 go_upto_region 4 with fail
 go_loopg [7] (C.length) (fun g i wr => ∃ k : Nat, k ≤ C.length ∧ g = C.length - k ∧ i = .int .i64 k ∧ Hid (SpanIs wr w.heap.size 0 0) ∧ Hid (SpanIs wr (w.heap.size + 1) (saidLo ((reps C).take k) o) (saidHi ((reps C).take k) o)) ∧ Hid (Below w.heap.size w wr) ∧ Hid (IntsAt wr A5 o))
 case atStart => exact ⟨0, by omega, by omega, rfl, HT4, HT5, HB1, HI⟩
 case round =>
  obtain ⟨k, hk, hgk, rfl, h4, h5, hbw, hi5⟩ := hrel
  obtain ⟨sl, hsl⟩ : ∃ x, saidLo ((reps C).take k) o = x := ⟨_, rfl⟩
  obtain ⟨sh, hsh⟩ : ∃ x, saidHi ((reps C).take k) o = x := ⟨_, rfl⟩
  rw [hsl, hsh] at h5
  by_cases hkl : k < C.length
  ·have hEw := HA.out.below hbw.out
   obtain ⟨b, off, hAe, hc⟩ := hEw.rows (by omega)
   subst hAe
   have hrange := hc k hkl
   have hkr : k < (reps C).length := by simpa using hkl
   have h1 : saidLo ((reps C).take (k + 1)) o = loR o sl (reps C)[k] := by rw [← hsl]; exact fold_snoc _ _ _ _ hkr
   have h2 : saidHi ((reps C).take (k + 1)) o = hiR o sh (reps C)[k] := by rw [← hsh]; exact fold_snoc _ _ _ _ hkr
   have hry : (reps C)[k] = C[k].1 := by simp
   rw [hry] at h1 h2
   have hwf := HW.out _ (List.getElem_mem hkl)
   obtain ⟨⟨x, P, c⟩, hx⟩ : ∃ y, C[k] = y := ⟨_, rfl⟩
   rw [hx] at hrange h1 h2 hwf
   dsimp only at hrange h1 h2 hwf
   obtain ⟨hit, hhit⟩ : ∃ t, saysR o x = t := ⟨_, rfl⟩
   unfold loR at h1
   unfold hiR at h2
   rw [hhit] at h1 h2
   have HL := hid h1
   have HH := hid h2
   have HR := hid hrange
   have HHIT := hid hhit
   have i0 : (0 : Int) ≤ k := by omega
   have i1 : (k : Int) < C.length := by omega
   have hid1 := hwf.id
   have hltr : w.heap.size + 1 < wr.heap.size := h5.out.at_.2.2.2
   clear hEw hc hrange hkr h1 h2 hry hwf hx hhit hsl hsh
   go_upto_region 7 with (first | refine load_rep_mid rfl _ rfl _ _ rfl HR.out ?_ | (refine store_rep_new rfl _ _ rfl rfl rfl rfl rfl ?_; intro W2 hbx2 hb2 hlt2; have HX2 := hid hbx2; have HB2 := hid (hbw.out.trans (hb2.mono hbw.out.size)); have H42 := hid (h4.out.below hb2); have H52 := hid (h5.out.below hb2); have HI2 := hid (hi5.out.kept (Kept.of_below hb2)); clear hbx2 hb2))
   have HH1 := hid (fun n => has_any A5 k5 o n W2 (by omega) HI2.out)
   go_frame
   go_cut [43] from 13 to 57 (fun s wx => s = .bool hit ∧ W2 = wx)
   case first =>
    obtain ⟨c0, _, _, c3, c4, _⟩ := HX2.out.at_
    by_cases k1 : x.kind = 1
    ·have d1 : (x.kind == 1) = true := beq_iff_eq.2 k1
     have d4 : (x.kind == 4) = false := beq_eq_false_iff_ne.2 (by omega)
     obtain ⟨t, ht⟩ : ∃ t, decide (10 * x.id ∈ o) = t := ⟨_, rfl⟩
     have hh := HH1.out (10 * x.id)
     rw [ht] at hh
     have HHH := hid hh
     have HZ : Hid (hit = t) := hid (by rw [← HHIT.out]; unfold saysR; rw [ht]; simp [k1])
     clear k1 ht hh
     go_wp2_with fail
     refine HHH.out.mono ?_
     rintro e w9 ⟨rfl, rfl⟩
     rcases t with _ | _
     all_goals
      go_wp2_with fail
      go_meet
      case rel => exact ⟨by rw [HZ.out], rfl⟩
    ·have d1 : (x.kind == 1) = false := beq_eq_false_iff_ne.2 k1
     by_cases k4 : x.kind = 4
     ·have d4 : (x.kind == 4) = true := beq_iff_eq.2 k4
      obtain ⟨t, ht⟩ : ∃ t, decide (x.parcel ∈ o) = t := ⟨_, rfl⟩
      have hh := HH1.out x.parcel
      rw [ht] at hh
      have HHH := hid hh
      have HZ : Hid (hit = t) := hid (by rw [← HHIT.out]; unfold saysR; rw [ht]; simp [k4])
      clear k1 k4 ht hh
      go_wp2_with fail
      refine HHH.out.mono ?_
      rintro e w9 ⟨rfl, rfl⟩
      go_wp2_with fail
      go_meet
      case rel => exact ⟨by rw [HZ.out], rfl⟩
     ·have d4 : (x.kind == 4) = false := beq_eq_false_iff_ne.2 k4
      have HZ : Hid (hit = false) := hid (by rw [← HHIT.out]; unfold saysR; simp [k1, k4])
      clear k1 k4
      go_wp2_with fail
      go_meet
      case rel => exact ⟨by rw [HZ.out], rfl⟩
   case rest =>
    obtain ⟨rfl, rfl⟩ := hcut
    rcases hit with _ | _
    ·go_wp2_with fail
     go_roundg (C.length - (k + 1))
     case measure => omega
     case rel => exact ⟨k + 1, by omega, rfl, by go_num, H42, hid (by rw [HL.out, HH.out]; exact H52.out), HB2, HI2⟩
    ·obtain ⟨_, _, _, _, _, _, _, _, _, _, c10, c11, _⟩ := HX2.out.at_
     obtain ⟨e0, e1, ef, _⟩ := H52.out.at_
     have f0 := ef 0
     have f1 := ef 1
     clear ef
     go_wp2_with fail
     go_roundg (C.length - (k + 1))
     case measure => omega
     case rel => exact ⟨k + 1, by omega, rfl, by go_num, hid ((H42.out.far (by omega)).far (by omega)), hid (by rw [HL.out, HH.out]; exact H52.out.set), hid ((HB2.out.setCell (p := ⟨w.heap.size + 1, 0, none⟩) (Nat.le_succ _) _).setCell (p := ⟨w.heap.size + 1, 1, none⟩) (Nat.le_succ _) _), hid (by
      intro h0
      obtain ⟨b9, off9, hA9, hc9⟩ := HI2.out h0
      have hb9 := HNE.out b9 off9 hA9
      exact ⟨b9, off9, hA9, fun j hj => by rw [cell_far hb9, cell_far hb9]; exact hc9 j hj⟩)⟩
  ·obtain rfl : k = C.length := by omega
   rw [List.take_of_length_le (by simp)] at hsl hsh
   have HSL := hid hsl
   have HSH := hid hsh
   clear hsl hsh
   have hltr : w.heap.size + 1 < wr.heap.size := h5.out.at_.2.2.2
   go_wp2_with (first | refine load_span rfl _ rfl _ rfl h5.out ?_ | refine store_span rfl _ _ rfl _ rfl rfl h4.out ?_)
   refine bodyPost_ret (said_ret _ _ w.heap.size rfl (setRow_heap _ _ _ _ _ _ h4.out)) rfl ?_
   refine ⟨below_setRow hbw.out (Nat.le_refl _) _, o, HM.out, ?_⟩
   rw [HSL.out, HSH.out]
end Go.Proofs.YtfaoillnakhejaaGreat
