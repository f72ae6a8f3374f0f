/- room: how much can be led along steps; lead: leading it. -/
import Derived.Test.YtfaoillnakhejaaGreatH20
import Derived.BigRegion
import Derived.BigQuiet
namespace Go.Proofs.YtfaoillnakhejaaGreat
set_option maxRecDepth 100000
open Go.RowKit
/-- A slice that starts at A holds the steps l. -/
def StepsAt (w : World) (A : Option Addr) (l : List Step) : Prop :=
 0 < l.length → ∃ b off, A = some ⟨b, off, none⟩ ∧ ∀ i (h : i < l.length), w.rangeAt b (off + i * 2) [.int .i64 l[i].1, .int .i64 l[i].2]
theorem StepsAt.kept {w w' : World} {A : Option Addr} {l : List Step} (h : StepsAt w A l) (k : Kept w w') : StepsAt w' A l := fun h0 => by
 obtain ⟨b, off, e, hc⟩ := h h0
 exact ⟨b, off, e, fun i hi => rangeAt_kept (hc i hi) k⟩
theorem flatS_at : ∀ (l : List Step) (i : Nat) (h : i < l.length) (j : Nat) (v : Value), ([.int .i64 l[i].1, .int .i64 l[i].2] : List Value)[j]? = some v → (flatS l)[i * 2 + j]? = some v
 | [], i, h, _, _, _ => by simp at h
 | e :: l, 0, h, j, v, hv => by
  have hj : j < 2 := (List.getElem?_eq_some_iff.1 hv).1
  show (([.int .i64 e.1, .int .i64 e.2] : List Value) ++ flatS l)[0 * 2 + j]? = _
  rw [Nat.zero_mul, Nat.zero_add, List.getElem?_append_left hj]
  exact hv
 | e :: l, i + 1, h, j, v, hv => by
  show (([.int .i64 e.1, .int .i64 e.2] : List Value) ++ flatS l)[(i + 1) * 2 + j]? = _
  have h2 : ([.int .i64 e.1, .int .i64 e.2] : List Value).length = 2 := rfl
  rw [List.getElem?_append_right (by rw [h2]; omega), h2, show (i + 1) * 2 + j - 2 = i * 2 + j by omega]
  exact flatS_at l i (by simpa using h) j v (by simpa using hv)
theorem flatS_length (l : List Step) : (flatS l).length = l.length * 2 := by
 induction l with
 | nil => rfl
 | cons e l ih =>
  show (([.int .i64 e.1, .int .i64 e.2] : List Value) ++ flatS l).length = _
  rw [List.length_append, ih]
  show 2 + l.length * 2 = (l.length + 1) * 2
  omega
theorem steps_of_cells {w : World} {A : Option Addr} {l : List Step} (h : CellsAt w A (flatS l)) : StepsAt w A l := fun h0 => by
 obtain ⟨b, off, e, hc⟩ := h (by rw [flatS_length]; omega)
 refine ⟨b, off, e, fun i hi j v hv => ?_⟩
 have := hc _ _ (flatS_at l i hi j v hv)
 rwa [← Nat.add_assoc] at this
theorem load_step_mid {ops : Array Oper} {rest : List Oper} {o : Oper} {a : Act} {w : World} {Q : Exit → Act → World → Prop} (hgd : o.guard = none) (x : Operand) (ho : o.op = .load 174 x)
  (b f : Nat) (hx : a.eval x = .pointer (some ⟨b, f, none⟩)) {r : Step} (hg : w.rangeAt b f [.int .i64 r.1, .int .i64 r.2])
  (h : wpList Tryz.prog ops Q rest (a.put o.dst (evS r)) w) : wpList Tryz.prog ops Q (o :: rest) a w :=
 wpList_load_mid hgd _ x ho b f hx _ _ hg Tryz.underlying174 rfl step_info h
def GoodN (L : List Arc) (x : List Int) : Prop := (∀ v ∈ x, okN v = true) ∧ ∀ a ∈ L, okN a.lo = true ∧ okN a.hi = true
theorem okN_le {v : Int} (h : okN v = true) : -1000000000000000 ≤ v ∧ v ≤ 1000000000000000 := by
 unfold okN at h
 simpa using h
set_option maxHeartbeats 16000000 in
theorem room_any {w : World} {g : Nat} {A : Option Addr} {c : Nat} {L : List Arc} {X : Option Addr} {xc : Nat} {x : List Int} (hG : GraphAt w g A c L X x.length xc) (hX : IntsAt w X x) (hlx : L.length ≤ 100000 ∧ x.length ≤ 100000) (hgd : GoodN L x) {S : Option Addr} {sc : Nat} {l : List Step} (hS : StepsAt w S l) (hl : l.length ≤ 1000) (m : Int) {R : Int} (hR : roomF L x l m = some R) :
  Calls Tryz.prog 129 #[.pointer (some ⟨g, 0, none⟩), .slice S l.length sc, .int .i64 m] w fun e w' => e = .returned (.int .i64 R) ∧ Below w.heap.size w w' := by
 have HG := hid hG
 have HX := hid hX
 have HS := hid hS
 have HR := hid hR
 have HGD := hid hgd
 obtain ⟨hlL, hlX⟩ := hlx
 clear hG hX hS hR hgd
 go_enter Tryz.func129, Tryz.ntmps129
 go_upto_region 2 with fail
 go_loopg [2, 11] (l.length) (fun g mv iv wr => ∃ (k : Nat) (m' : Int), k ≤ l.length ∧ g = l.length - k ∧ mv = .int .i64 m' ∧ iv = .int .i64 k ∧ Hid (roomF L x (l.drop k) m' = some R) ∧ Hid (Below w.heap.size w wr))
 case atStart => exact ⟨0, m, by omega, by omega, rfl, rfl, HR, hid (Below.refl _ _)⟩
 case round =>
  obtain ⟨k, m', hk, hgk, rfl, rfl, hr, hbw⟩ := hrel
  by_cases hkl : k < l.length
  ·obtain ⟨b, off, hAe, hc⟩ := (HS.out.kept (Kept.of_below hbw.out)) (by omega)
   subst hAe
   have hck := hc k hkl
   have hdr : l.drop k = l[k] :: l.drop (k + 1) := (List.getElem_cons_drop hkl).symm
   have hrr := hr.out
   rw [hdr] at hrr
   obtain ⟨⟨sa, sw⟩, hs⟩ : ∃ s, l[k] = s := ⟨_, rfl⟩
   rw [hs] at hck hrr
   unfold roomF at hrr
   dsimp only at hrr
   rcases hLa : L[sa]? with _ | a
   ·rw [hLa] at hrr; cases hrr
   rcases hxa : x[sa]? with _ | xi
   ·rw [hLa, hxa] at hrr; cases hrr
   rw [hLa, hxa] at hrr
   dsimp only at hrr
   obtain ⟨hsl, hLg⟩ := List.getElem?_eq_some_iff.1 hLa
   obtain ⟨hsx, hxg⟩ := List.getElem?_eq_some_iff.1 hxa
   have hok1 := okN_le (HGD.out.2 a (by rw [← hLg]; exact List.getElem_mem hsl)).1
   have hok2 := okN_le (HGD.out.2 a (by rw [← hLg]; exact List.getElem_mem hsl)).2
   have hok3 := okN_le (HGD.out.1 xi (by rw [← hxg]; exact List.getElem_mem hsx))
   have HCK := hid hck
   have HRR := hid hrr
   have HLG := hid hLg
   have HXG := hid hxg
   have i0 : (0 : Int) ≤ k := by omega
   have i1 : (k : Int) < l.length := by omega
   have j0 : (0 : Int) ≤ sa := by omega
   have j1 : (sa : Int) < L.length := by omega
   have j2 : (sa : Int) < x.length := by omega
   clear hc hck hdr hrr hr hs hLa hxa hLg hxg
   go_upto_region 4 with (first | refine load_step_mid rfl _ rfl _ _ rfl HCK.out ?_ | (refine store_step_new rfl _ _ rfl rfl rfl (q := (sa, sw)) rfl rfl ?_; intro W6 hst6 hb6 hlt6; have HB6 := hid (hbw.out.trans (hb6.mono hbw.out.size)); have HS6 := hid hst6; clear hb6 hst6))
   obtain ⟨s0, s1⟩ := HS6.out.at_
   have hGA := HG.out.below HB6.out
   obtain ⟨g0, g1, _⟩ := hGA.at_
   obtain ⟨b2, off2, hAe, hrg⟩ := hGA.arcs (by omega)
   subst hAe
   have hra := hrg sa hsl
   rw [HLG.out] at hra
   have a3 := hra 3 _ rfl
   have a4 := hra 4 _ rfl
   obtain ⟨b3, off3, hXe, hrx⟩ := (HX.out.kept (Kept.of_below HB6.out)) (by omega)
   subst hXe
   have hxx := hrx sa hsx
   rw [HXG.out] at hxx
   have hgcap := hGA.cap
   clear hGA hrg hra hrx
   by_cases hsw : 0 < sw
   ·have hswd : decide (0 < sw) = true := decide_eq_true hsw
    have hrr := HRR.out
    rw [if_pos hsw] at hrr
    have HRR := hid hrr
    clear hrr hsw a3
    go_upto_region 5 with (fail)
    go_region
    all_goals go_wp2_with fail
    all_goals go_roundg (l.length - (k + 1))
    case measure => omega
    case rel => exact ⟨k + 1, _, by omega, rfl, rfl, by go_num, HRR, hid (HB6.out.drew)⟩
   ·have hswd : decide (0 < sw) = false := decide_eq_false hsw
    have hrr := HRR.out
    rw [if_neg hsw] at hrr
    have HRR := hid hrr
    clear hrr hsw a4
    go_upto_region 6 with (fail)
    go_region
    all_goals go_wp2_with fail
    all_goals go_roundg (l.length - (k + 1))
    case measure => omega
    case rel => exact ⟨k + 1, _, by omega, rfl, rfl, by go_num, HRR, hid (HB6.out.drew)⟩
  ·obtain rfl : k = l.length := by omega
   have hrr := hr.out
   rw [List.drop_length] at hrr
   have HRR := hid hrr
   clear hrr hr
   go_wp2_with fail
   go_ret
   cases HRR.out
   exact ⟨rfl, hbw.out⟩
/-- A graph, with the amounts in a block of their own. -/
structure GX (w : World) (g : Nat) (A : Option Addr) (c : Nat) (L : List Arc) (xb : Nat) (x : List Int) : Prop where
 box : w.heap[g]? = some (.cells #[.slice A L.length c, .slice (some ⟨xb, 0, none⟩) x.length x.length] 100 (0, 0))
 arcs : ArcsAt w A L
 cap : L.length ≤ c
 row : Block w xb 3 (ints x)
 far : ∀ a, A = some a → a.block ≠ xb
theorem GX.lt {w : World} {g : Nat} {A : Option Addr} {c : Nat} {L : List Arc} {xb : Nat} {x : List Int} (h : GX w g A c L xb x) : g < w.heap.size ∧ xb < w.heap.size := ⟨(Array.getElem?_eq_some_iff.1 h.box).1, (Array.getElem?_eq_some_iff.1 h.row).1⟩
theorem GX.ne {w : World} {g : Nat} {A : Option Addr} {c : Nat} {L : List Arc} {xb : Nat} {x : List Int} (h : GX w g A c L xb x) : g ≠ xb := by
 rintro rfl
 have h1 := h.box
 have h2 := h.row
 unfold Block at h2
 rw [h1] at h2
 have := (Obj.cells.inj (Option.some.inj h2)).2.1
 exact absurd this (by decide)
theorem GX.below {w w' : World} {g : Nat} {A : Option Addr} {c : Nat} {L : List Arc} {xb : Nat} {x : List Int} (h : GX w g A c L xb x) (hb : Below w.heap.size w w') : GX w' g A c L xb x :=
 ⟨(hb.block g h.lt.1).trans h.box, h.arcs.kept (Kept.of_below hb), h.cap, (hb.block xb h.lt.2).trans h.row, h.far⟩
theorem GX.graph {w : World} {g : Nat} {A : Option Addr} {c : Nat} {L : List Arc} {xb : Nat} {x : List Int} (h : GX w g A c L xb x) : GraphAt w g A c L (some ⟨xb, 0, none⟩) x.length x.length ∧ IntsAt w (some ⟨xb, 0, none⟩) x :=
 ⟨⟨h.box, h.arcs, h.cap⟩, fun _ => ⟨xb, 0, rfl, fun j hj => by
  rw [h.row.cell]
  simp [ints, hj]⟩⟩
theorem arcs_far {w w' : World} {A : Option Addr} {L : List Arc} {xb : Nat} (h : ArcsAt w A L) (hf : ∀ a, A = some a → a.block ≠ xb) (hg : w.grownBy w' (some xb)) : ArcsAt w' A L := fun h0 => by
 obtain ⟨b, off, e, hc⟩ := h h0
 refine ⟨b, off, e, fun i hi j v hv => ?_⟩
 exact cell_grown hg (hc i hi j v hv) (show b ≠ xb from hf _ e)
theorem GX.set {w : World} {g : Nat} {A : Option Addr} {c : Nat} {L : List Arc} {xb : Nat} {x : List Int} (h : GX w g A c L xb x) (i : Nat) (v : Int) : GX (w.setCell ⟨xb, i, none⟩ (.int .i64 v)) g A c L xb (x.set i v) := by
 have hg := grown_set w xb i (.int .i64 v)
 refine ⟨by rw [List.length_set]; exact (hg.block g h.lt.1 (fun e => h.ne (by cases e; rfl))).trans h.box, arcs_far h.arcs h.far hg, h.cap, ?_, h.far⟩
 have := set_block (i := i) (v := .int .i64 v) h.row
 unfold Block
 rw [this]
 simp [ints, List.map_set]
theorem GX.loose {w : World} {g : Nat} {A : Option Addr} {c : Nat} {L : List Arc} {xb : Nat} {x : List Int} (h : GX w g A c L xb x) (i : Nat) : w.frozen? ⟨xb, i, none⟩ = false := by
 have := h.row
 unfold Block at this
 simp [World.frozen?, this]
theorem leadF_len {n : Int} : ∀ {l : List Step} {x x' : List Int}, leadF n l x = some x' → x'.length = x.length
 | [], x, x', h => by cases h; rfl
 | s :: l, x, x', h => by
  unfold leadF at h
  split at h
  ·split at h
   ·have := leadF_len h
    simpa using this
   ·cases h
  ·cases h
theorem leadF_good {n : Int} : ∀ {l : List Step} {x x' : List Int}, leadF n l x = some x' → (∀ v ∈ x, okN v = true) → ∀ v ∈ x', okN v = true
 | [], x, x', h, hx => by cases h; exact hx
 | s :: l, x, x', h, hx => by
  unfold leadF at h
  split at h
  ·split at h
   ·rename_i h1
    exact leadF_good h fun v hv => by
     rcases List.mem_or_eq_of_mem_set hv with h2 | h2
     ·exact hx v h2
     ·rw [h2]; exact h1.1
   ·cases h
  ·cases h
set_option maxHeartbeats 16000000 in
theorem lead_any {w : World} {g : Nat} {A : Option Addr} {c : Nat} {L : List Arc} {xb : Nat} {x : List Int} (hG : GX w g A c L xb x) (hlx : x.length ≤ 100000) (hgd : ∀ v ∈ x, okN v = true) {S : Option Addr} {sc : Nat} {l : List Step} (hS : StepsAt w S l) (hSf : ∀ a, S = some a → a.block ≠ xb) (hl : l.length ≤ 1000) (n : Int) (hn : okN n = true) {x' : List Int} (hR : leadF n l x = some x') :
  Calls Tryz.prog 130 #[.pointer (some ⟨g, 0, none⟩), .slice S l.length sc, .int .i64 n] w fun e w' => (∃ v, e = .returned v) ∧ GX w' g A c L xb x' ∧ w.grownBy w' (some xb) := by
 have HG := hid hG
 have HS := hid hS
 have HSF := hid hSf
 have HR := hid hR
 have HGD := hid hgd
 have hn2 := okN_le hn
 have hxl := hG.lt.2
 clear hG hS hR hgd hSf hn
 go_enter Tryz.func130, Tryz.ntmps130
 go_upto_region 1 with fail
 go_loopg [10] (l.length) (fun g' iv wr => ∃ (k : Nat) (y : List Int), k ≤ l.length ∧ g' = l.length - k ∧ iv = .int .i64 k ∧ Hid (leadF n (l.drop k) y = some x') ∧ Hid (GX wr g A c L xb y) ∧ Hid (w.grownBy wr (some xb)) ∧ Hid (∀ v ∈ y, okN v = true) ∧ y.length ≤ 100000)
 case atStart => exact ⟨0, x, by omega, by omega, rfl, HR, HG, hid (grown_some (Below.refl _ _)), HGD, hlx⟩
 case round =>
  obtain ⟨k, y, hk, hgk, rfl, hr, HGY, HGW, HOK, hyl⟩ := hrel
  by_cases hkl : k < l.length
  ·obtain ⟨b, off, hAe, hc⟩ := HS.out (by omega)
   subst hAe
   have hck : wr.rangeAt b (off + k * 2) [.int .i64 l[k].1, .int .i64 l[k].2] := fun j v hv => cell_grown HGW.out (hc k hkl j v hv) (show b ≠ xb from HSF.out _ rfl)
   have hdr : l.drop k = l[k] :: l.drop (k + 1) := (List.getElem_cons_drop hkl).symm
   have hrr := hr.out
   rw [hdr] at hrr
   obtain ⟨⟨sa, sw⟩, hs⟩ : ∃ s, l[k] = s := ⟨_, rfl⟩
   rw [hs] at hck hrr
   unfold leadF at hrr
   dsimp only at hrr
   rcases hxa : y[sa]? with _ | xi
   ·rw [hxa] at hrr; cases hrr
   rw [hxa] at hrr
   dsimp only at hrr
   by_cases hcond : okN (xi + sw * n) = true ∧ -1 ≤ sw ∧ sw ≤ 1
   ·rw [if_pos hcond] at hrr
    obtain ⟨hsx, hxg⟩ := List.getElem?_eq_some_iff.1 hxa
    have hok3 := okN_le (HOK.out xi (by rw [← hxg]; exact List.getElem_mem hsx))
    obtain ⟨hk1, hk2, hk3⟩ := hcond
    have hok4 := okN_le hk1
    obtain ⟨pr, hpr⟩ : ∃ pr, sw * n = pr := ⟨_, rfl⟩
    have hprb : -1000000000000000 ≤ pr ∧ pr ≤ 1000000000000000 := by
     have : sw = -1 ∨ sw = 0 ∨ sw = 1 := by omega
     rcases this with h | h | h <;> rw [h] at hpr <;> omega
    rw [hpr] at hok4
    have hww : IntKind.i64.wrap (xi + IntKind.i64.wrap (sw * n)) = xi + sw * n := by
     rw [hpr]
     simp only [IntKind.wrap, IntKind.bits, IntKind.signed]
     simp
     omega
    have HWW := hid hww
    clear hww hpr
    have HCK := hid hck
    have HRR := hid hrr
    have HXG := hid hxg
    have HSM := hid hk1
    have i0 : (0 : Int) ≤ k := by omega
    have i1 : (k : Int) < l.length := by omega
    have j0 : (0 : Int) ≤ sa := by omega
    have j2 : (sa : Int) < y.length := by omega
    clear hc hdr hr hs hxa hxg hk1 hck hrr hk2 hk3
    go_upto_region 3 with (first | refine load_step_mid rfl _ rfl _ _ rfl HCK.out ?_ | (refine store_step_new rfl _ _ rfl rfl rfl (q := (sa, sw)) rfl rfl ?_; intro W6 hst6 hb6 hlt6; have HG6 := hid ((HGY.out.below hb6).below (Below.refl _ _).drew); have HS6 := hid (hst6.below (Below.refl _ _).drew); have HB6 := hid (HGW.out.trans (grown_some (hb6.trans ((Below.refl _ _).drew.mono hb6.size)))); clear hb6 hst6))
    obtain ⟨b3, off3, hXe, hrx⟩ := HG6.out.graph.2 (by omega)
    cases hXe
    have hxx := hrx sa hsx
    rw [HXG.out, Nat.zero_add] at hxx
    clear hrx
    refine wp_region_noPanic ?_
    refine wp_region_held_drew (S := fun w' => w'.cell? ⟨g, 1, none⟩ = some (.slice (some ⟨xb, 0, none⟩) y.length y.length) ∧ w'.cell? ⟨wr.heap.size, 0, none⟩ = some (.int .i64 sa) ∧ w'.cell? ⟨wr.heap.size, 1, none⟩ = some (.int .i64 sw)) (by kernel_rfl) (⟨HG6.out.graph.1.at_.2.1, HS6.out.at_.1, HS6.out.at_.2⟩) (fun hHeld => ?_)
    refine tk 0 (fun _ _ _ _ _ h => h) (by kernel_rfl) ‹_› ⟨_, ?_, by simp only [zz1, zz2]; rfl, .inl ⟨by rfl, ?_⟩, ?_⟩; rotate_left; · (intro w hSw; (try dsimp only at hSw); go_simp; all_goals with_reducible rfl)
    simp only [Act.put, zz4, zz5, zz6]
    refine tk 1 (fun _ _ _ _ _ h => h) (by kernel_rfl) ‹_› ⟨_, ?_, by simp only [zz1, zz2, zz3]; rfl, .inl ⟨by rfl, ?_⟩, ?_⟩; rotate_left; · (intro w hSw; (try dsimp only at hSw); go_simp; all_goals with_reducible rfl)
    simp only [Act.put, zz4, zz5, zz6]
    refine tk 2 (fun _ _ _ _ _ h => h) (by kernel_rfl) ‹_› ⟨_, ?_, by simp only [zz1, zz2, zz3]; rfl, .inl ⟨by rfl, ?_⟩, ?_⟩; rotate_left; · (intro w hSw; (try dsimp only at hSw); go_simp; all_goals with_reducible rfl)
    simp only [Act.put, zz4, zz5, zz6]
    refine tk 3 (fun _ _ _ _ _ h => h) (by kernel_rfl) ‹_› ⟨_, ?_, by simp only [zz1, zz2, zz3]; rfl, .inl ⟨by rfl, ?_⟩, ?_⟩; rotate_left; · (intro w hSw; (try dsimp only at hSw); go_simp; all_goals with_reducible rfl)
    simp only [Act.put, zz4, zz5, zz6]
    refine tk 4 (fun _ _ _ _ _ h => h) (by kernel_rfl) ‹_› ⟨_, ?_, by simp only [zz1, zz2, zz3]; rfl, .inl ⟨by rfl, ?_⟩, ?_⟩; rotate_left; · (intro w hSw; (try dsimp only at hSw); go_simp; all_goals with_reducible rfl)
    simp only [Act.put, zz4, zz5, zz6]
    refine tk 5 (fun _ _ _ _ _ h => h) (by kernel_rfl) ‹_› ⟨_, ?_, by simp only [zz1, zz2, zz3]; rfl, .inl ⟨by rfl, ?_⟩, ?_⟩; rotate_left; · (intro w hSw; (try dsimp only at hSw); go_simp; all_goals with_reducible rfl)
    simp only [Act.put, zz4, zz5, zz6]
    refine tk 6 (fun _ _ _ _ _ h => h) (by kernel_rfl) ‹_› ⟨_, ?_, by simp only [zz1, zz2, zz3]; rfl, .inl ⟨by rfl, ?_⟩, ?_⟩; rotate_left; · (intro w hSw; (try dsimp only at hSw); go_simp; all_goals with_reducible rfl)
    simp only [Act.put, zz4, zz5, zz6]
    refine tk 8 (fun _ _ _ _ _ h => h) (by kernel_rfl) ‹_› ⟨_, ?_, by simp only [zz1, zz2, zz3]; rfl, .inl ⟨by rfl, ?_⟩, ?_⟩; rotate_left; · (intro w hSw; (try dsimp only at hSw); go_simp; all_goals with_reducible rfl)
    simp only [Act.put, zz4, zz5, zz6]
    refine tk 9 (fun _ _ _ _ _ h => h) (by kernel_rfl) ‹_› ⟨_, ?_, by simp only [zz1, zz2, zz3]; rfl, .inl ⟨by rfl, ?_⟩, ?_⟩; rotate_left; · (intro w hSw; (try dsimp only at hSw); go_simp; all_goals with_reducible rfl)
    simp only [Act.put, zz4, zz5, zz6]
    refine tk 10 (fun _ _ _ _ _ h => h) (by kernel_rfl) ‹_› ⟨_, ?_, by simp only [zz1, zz2, zz3]; rfl, .inl ⟨by rfl, ?_⟩, ?_⟩; rotate_left; · (intro w hSw; (try dsimp only at hSw); go_simp; all_goals with_reducible rfl)
    simp only [Act.put, zz4, zz5, zz6]
    refine tk 11 (fun _ _ _ _ _ h => h) (by kernel_rfl) ‹_› ⟨_, ?_, by simp only [zz1, zz2, zz3]; rfl, .inl ⟨by rfl, ?_⟩, ?_⟩; rotate_left; · (intro w hSw; (try dsimp only at hSw); go_simp; all_goals with_reducible rfl)
    simp only [Act.put, zz4, zz5, zz6]
    refine wpAnyH_ready (rs := [7]) (by kernel_rfl) (by simp) ?_
    refine cons_one (i := 7) ⟨_, by simp only [zz1, zz2, zz3]; rfl, fun K hK => ?_⟩ ?_
    rotate_left
    ·exact AllReadyH.nil
    go_simp
    clear hHeld
    refine hK.out _ _ (⟨HG6.out.graph.1.at_.2.1, HS6.out.at_.1, HS6.out.at_.2⟩) (fun hHeld => ?_)
    clear hK K
    try simp only [Act.put, zz4, zz5, zz6]
    refine tk 12 (fun _ _ _ _ _ h => h) (by kernel_rfl) ‹_› ⟨_, ?_, by simp only [zz1, zz2, zz3]; rfl, .inl ⟨by rfl, ?_⟩, ?_⟩; rotate_left; · (intro w hSw; (try dsimp only at hSw); go_simp; all_goals with_reducible rfl)
    simp only [Act.put, zz4, zz5, zz6]
    refine tk 13 (fun _ _ _ _ _ h => h) (by kernel_rfl) ‹_› ⟨_, ?_, by simp only [zz1, zz2, zz3]; rfl, .inl ⟨by rfl, ?_⟩, ?_⟩; rotate_left; · (intro w hSw; (try dsimp only at hSw); go_simp; all_goals with_reducible rfl)
    simp only [Act.put, zz4, zz5, zz6]
    refine wpAnyH_ready (rs := [14]) (by kernel_rfl) (by simp) ?_
    refine cons_one (i := 14) ⟨_, by simp only [zz1, zz2, zz3]; rfl, fun K hK => ?_⟩ ?_
    rotate_left
    ·exact AllReadyH.nil
    have hfx := HG6.out.loose sa
    clear hHeld
    go_simp
    have HGN : Hid (GX (W6.setCell ⟨xb, sa, none⟩ (.int .i64 (xi + sw * n))).drew g A c L xb (y.set sa (xi + sw * n))) := hid (HG6.out.set sa (xi + sw * n))
    have HSN : Hid (StepIs (W6.setCell ⟨xb, sa, none⟩ (.int .i64 (xi + sw * n))).drew wr.heap.size (sa, sw)) := hid ((setCell_ne W6.drew (by have := HGY.out.lt.2; omega)).trans HS6.out)
    have g1n := HGN.out.graph.1.at_.2.1
    rw [List.length_set] at g1n
    rw [HWW.out]
    refine hK.out _ _ ⟨g1n, HSN.out.at_.1, HSN.out.at_.2⟩ (fun hHeld => ?_)
    clear hK K
    try simp only [Act.put]
    refine wpAnyH_done (by kernel_rfl) ?_ _
    refine NoPanic.normal ?_
    go_wp2_with fail
    go_roundg (l.length - (k + 1))
    case measure => omega
    case rel => exact ⟨k + 1, y.set sa (xi + sw * n), by omega, rfl, by go_num, HRR, HGN, hid (HB6.out.trans (grown_set W6.drew xb sa _)), hid (fun v hv => by
     rcases List.mem_or_eq_of_mem_set hv with h | h
     ·exact HOK.out v h
     ·rw [h]; exact HSM.out), by rw [List.length_set]; exact hyl⟩
   ·rw [if_neg hcond] at hrr
    cases hrr
  ·obtain rfl : k = l.length := by omega
   have hrr := hr.out
   rw [List.drop_length] at hrr
   have HRR := hid hrr
   clear hrr hr
   go_wp2_with fail
   go_end0
   cases HRR.out
   exact ⟨⟨_, rfl⟩, HGY.out, HGW.out⟩
end Go.Proofs.YtfaoillnakhejaaGreat
