/- balance: amounts that are balanced, or why there are none; Chain: what it reckons (plain); a queue's push and back, with where their rows lie; The chapter's example of Chain (plain). -/
import Derived.Test.YtfaoillnakhejaaGreatH23
import Derived.Test.YtfaoillnakhejaaGreatH20
import Derived.Test.YtfaoillnakhejaaGreatH6
import Derived.Test.YtfaoillnakhejaaGreatH9
namespace Go.Proofs.YtfaoillnakhejaaGreat
set_option maxRecDepth 100000
open Go.RowKit
section
open Go.RowKit
/-- The memory of balance. -/
structure BM (w wr : World) (g : Nat) (A : Option Addr) (c : Nat) (L : List Arc) (xb : Nat) (x : List Int) (b6 mb : Nat) (m : Much) (b4 : Nat) : Prop where
 gx : GX wr g A c L xb x
 box6 : Boxed wr b6 80 (.map (some mb))
 much : MapOf wr mb (Value.int .i64) m
 conf : ConfIs wr b4 0 (.slice none 0 0)
 near : w.grownBy wr (some g)
 hg : g < w.heap.size
 h4 : w.heap.size ≤ b4
 h6 : w.heap.size ≤ b6
 hm : w.heap.size ≤ mb
 hx : w.heap.size ≤ xb
section
variable {w wr w' : World} {g : Nat} {A : Option Addr} {c : Nat} {L : List Arc} {xb : Nat} {x : List Int} {b6 mb : Nat} {m : Much} {b4 : Nat}
theorem BM.below (h : BM w wr g A c L xb x b6 mb m b4) (k : Below wr.heap.size wr w') : BM w w' g A c L xb x b6 mb m b4 :=
 ⟨h.gx.below k, h.box6.kept (grown_of_below k) (by simp), h.much.below k, (k.block b4 h.conf.lt).trans h.conf, h.near.trans (grown_some k), h.hg, h.h4, h.h6, h.hm, h.hx⟩
theorem near_new {w wr w' : World} {g q : Nat} (h : w.grownBy wr (some g)) (k : wr.grownBy w' (some q)) (hq : w.heap.size ≤ q) : w.grownBy w' (some g) :=
 ⟨k.os.trans h.os, k.tape.trans h.tape, k.output.trans h.output, Nat.le_trans h.size k.size, fun i hi hne => (k.block i (by have := h.size; omega) (fun e => by cases e; omega)).trans (h.block i hi hne)⟩
theorem BM.ne (h : BM w wr g A c L xb x b6 mb m b4) : mb ≠ b6 ∧ mb ≠ b4 ∧ mb ≠ xb ∧ mb ≠ g ∧ b6 ≠ b4 ∧ b6 ≠ xb ∧ b4 ≠ xb := by
 have h1 := h.much.not_cells
 have hb6 := h.box6
 have hc := h.conf
 have hr := h.gx.row
 unfold Boxed at hb6
 unfold ConfIs at hc
 unfold Block at hr
 refine ⟨?_, ?_, ?_, ?_, ?_, ?_, ?_⟩
 ·rintro rfl; exact h1 _ _ _ hb6
 ·rintro rfl; exact h1 _ _ _ hc
 ·rintro rfl; exact h1 _ _ _ hr
 ·rintro rfl; exact h1 _ _ _ h.gx.box
 ·rintro rfl
  rw [hb6] at hc
  exact absurd (Obj.cells.inj (Option.some.inj hc)).2.1 (by decide)
 ·rintro rfl
  rw [hb6] at hr
  exact absurd (Obj.cells.inj (Option.some.inj hr)).2.1 (by decide)
 ·rintro rfl
  rw [hc] at hr
  exact absurd (Obj.cells.inj (Option.some.inj hr)).2.1 (by decide)
theorem BM.put (h : BM w wr g A c L xb x b6 mb m b4) (p v : Int) : ∃ w', (Instr.mapUpdate 80 (.map (some mb)) (.int .i64 p) (.int .i64 v)).run Tryz.prog wr = .ok () w' ∧ BM w w' g A c L xb x b6 mb (setAt m p v) b4 ∧ Calm wr w' := by
 obtain ⟨w', h1, h2, h3⟩ := h.much.put mapI_u p v
 obtain ⟨n1, n2, n3, n4, _⟩ := h.ne
 have hc := Calm.of_put h.much h3
 refine ⟨w', h1, ⟨⟨hc _ _ _ _ h.gx.box, h.gx.arcs.kept hc.kept, h.gx.cap, hc _ _ _ _ h.gx.row, h.gx.far⟩, hc _ _ _ _ h.box6, h2, hc _ _ _ _ h.conf, near_new h.near h3 h.hm, h.hg, h.h4, h.h6, h.hm, h.hx⟩, hc⟩
/-- The amounts anew, all else as it lay. -/
theorem BM.lead (h : BM w wr g A c L xb x b6 mb m b4) {y : List Int} (hy : GX w' g A c L xb y) (k : wr.grownBy w' (some xb)) : BM w w' g A c L xb y b6 mb m b4 := by
 obtain ⟨n1, n2, n3, n4, n5, n6, n7⟩ := h.ne
 exact ⟨hy, h.box6.kept k (by simpa using n6), h.much.same (k.block mb h.much.lt (by simpa using n3)), (k.block b4 h.conf.lt (by simpa using n7)).trans h.conf, near_new h.near k h.hx, h.hg, h.h4, h.h6, h.hm, h.hx⟩
theorem BM.grown {q : Nat} (h : BM w wr g A c L xb x b6 mb m b4) (k : wr.grownBy w' (some q)) (hA : ∀ a, A = some a → a.block ≠ q) (hq : w.heap.size ≤ q) (h1 : xb ≠ q) (h2 : b6 ≠ q) (h3 : mb ≠ q) (h4 : b4 ≠ q) : BM w w' g A c L xb x b6 mb m b4 :=
 ⟨h.gx.grown k (by have := h.hg; omega) h1 hA, h.box6.kept k (by simpa using h2), h.much.same (k.block mb h.much.lt (by simpa using h3)), (k.block b4 h.conf.lt (by simpa using h4)).trans h.conf, near_new h.near k hq, h.hg, h.h4, h.h6, h.hm, h.hx⟩
theorem ints_grown {b off q : Nat} {xs : List Int} (h : IntsAt wr (some ⟨b, off, none⟩) xs) (k : wr.grownBy w' (some q)) (hq : b ≠ q) : IntsAt w' (some ⟨b, off, none⟩) xs := fun h0 => by
 obtain ⟨b', off', e, hc⟩ := h h0
 cases e
 exact ⟨b, off, rfl, fun j hj => cell_grown k (hc j hj) hq⟩
theorem BM.set (h : BM w wr g A c L xb x b6 mb m b4) (i : Nat) (v : Int) : BM w (wr.setCell ⟨xb, i, none⟩ (.int .i64 v)) g A c L xb (x.set i v) b6 mb m b4 :=
 h.lead (h.gx.set i v) (grown_set wr xb i _)
end
theorem made_x (w : World) (n : Nat) (hn : n ≤ 100000) : ∃ W, (Instr.makeSlice 25 (.int .i64 n) (.int .i64 n)).run Tryz.prog w = .ok (.slice (some ⟨w.heap.size, 0, none⟩) n n) W ∧ Block W w.heap.size 3 (ints (List.replicate n 0)) ∧ w.grownBy W none := by
 obtain ⟨i, hi, hz, hsz, hby⟩ := ints_info
 obtain ⟨W, h1, h2, h3⟩ := run_makeSlice_full (P := Tryz.prog) w w.heap.size 25 3 i (.int .i64 0) 1 intsl_u hi hz hsz .i64 .i64 n (by omega) (by rw [hby]; omega) (by simp [maxLen]; omega) (Nat.le_refl _)
 refine ⟨W, h1, ?_, h3⟩
 have h4 := (own_block h2).1
 have h5 : (madeCells (Value.int .i64 0).cells (n * 1)).toList = ints (List.replicate n 0) := by
  rw [Nat.mul_one, ints_replicate]
  exact made1 _ n
 rw [h5] at h4
 exact h4
theorem bal_start {w W2 : World} {g : Nat} {A : Option Addr} {c : Nat} {L : List Arc} (hG : GraphAt w g A c L none 0 0) (hA : ∀ a, A = some a → a.block < w.heap.size ∧ a.block ≠ g) (hrow : Block W2 (w.heap.size + 1) 3 (ints (List.replicate L.length 0)))
  (hgr : (w.alloc (.cells #[.int .i64 0, .slice none 0 0] 55)).grownBy W2 none) :
  BM w (((W2.setCell ⟨g, 1, none⟩ (.slice (some ⟨w.heap.size + 1, 0, none⟩) L.length L.length)).alloc (.map #[] 0)).alloc (.cells #[.map (some W2.heap.size)] 80)) g A c L (w.heap.size + 1) (List.replicate L.length 0) (W2.heap.size + 1) W2.heap.size (fun _ => none) w.heap.size := by
 have hgl := hG.lt
 have hb := below_of_none hgr
 have hsz := hb.size
 rw [World.size_alloc] at hsz
 have hrl := (Array.getElem?_eq_some_iff.1 hrow).1
 obtain ⟨W3, hW3⟩ : ∃ W3, W2.setCell ⟨g, 1, none⟩ (.slice (some ⟨w.heap.size + 1, 0, none⟩) L.length L.length) = W3 := ⟨_, rfl⟩
 have hs3 : W3.heap.size = W2.heap.size := by rw [← hW3]; exact World.size_setCell ..
 have hg3 : W3.heap[g]? = some (.cells #[.slice A L.length c, .slice (some ⟨w.heap.size + 1, 0, none⟩) L.length L.length] 100 (0, 0)) := by
  rw [← hW3]
  have h1 := (hb.block g (by simp; omega)).trans ((Below.heap_alloc w _ g hgl).trans hG.box)
  exact block_set h1
 have ho3 : ∀ k, k < W2.heap.size → k ≠ g → W3.heap[k]? = W2.heap[k]? := fun k _ hne => by rw [← hW3]; exact setCell_ne W2 hne
 rw [hW3]
 have hba : Below W3.heap.size W3 ((W3.alloc (.map #[] 0)).alloc (.cells #[.map (some W2.heap.size)] 80)) := ((Below.refl _ _).alloc (Nat.le_refl _) _).alloc (by simp) _
 have hno : ∀ k, k < w.heap.size → k ≠ g → W3.heap[k]? = w.heap[k]? := fun k hk hne => (ho3 k (by omega) hne).trans ((hb.block k (by simp; omega)).trans (Below.heap_alloc w _ k hk))
 refine ⟨⟨?_, ?_, hG.cap, ?_, fun a e => by have := (hA a e).1; omega⟩, ?_, ?_, ?_, ?_, hgl, Nat.le_refl _, by omega, by omega, by omega⟩
 ·rw [List.length_replicate]
  exact (hba.block g (by omega)).trans hg3
 ·intro h0
  obtain ⟨b, off, e, hc⟩ := hG.arcs h0
  refine ⟨b, off, e, fun i hi j v hv => ?_⟩
  have hbl := (hA _ e).1
  have hbg := (hA _ e).2
  have h1 := hc i hi j v hv
  refine (World.cell?_of_block ?_).trans h1
  exact (hba.block b (by simp at hbl; omega)).trans (hno b hbl hbg)
 ·exact (hba.block _ (by omega)).trans ((ho3 _ hrl (by omega)).trans hrow)
 ·have h1 := Boxed.new (W3.alloc (.map #[] 0)) 80 (.map (some W2.heap.size))
  rw [World.size_alloc, hs3] at h1
  exact h1
 ·have h1 : MapOf (W3.alloc (.map #[] 0)) W3.heap.size (Value.int .i64) (fun _ => none) := MapOf.new W3
  rw [hs3] at h1
  exact h1.below ((Below.refl _ _).alloc (Nat.le_refl _) _)
 ·refine (hba.block _ (by omega)).trans ((ho3 _ (by omega) (by omega)).trans ((hb.block _ (by simp)).trans (heap_alloc_new w _)))
 ·refine ⟨(hba.os.trans (by rw [← hW3]; rfl)).trans (hb.os.trans rfl), (hba.tape.trans (by rw [← hW3]; rfl)).trans (hb.tape.trans rfl), (hba.output.trans (by rw [← hW3]; rfl)).trans (hb.output.trans rfl), by have := hba.size; omega, fun k hk hne => ?_⟩
  exact (hba.block k (by omega)).trans (hno k hk (fun e => hne (by rw [e])))
/-- What balance hands back. -/
def BalPost (w : World) (g : Nat) (A : Option Addr) (c : Nat) (L : List Arc) (C : List Ent) (R : BalR) (e : Ending) (w' : World) : Prop :=
 w.grownBy w' (some g) ∧ match R with
 | .parcel p => e = .returned (.tuple #[.agg #[.int .i64 p, .slice none 0 0], .bool false])
 | .side seen => ∃ v, e = .returned (.tuple #[.agg #[.int .i64 0, v], .bool false]) ∧ w'.ownsRow w.heap.size 3 1 v (sideF (reps C) seen).length (ints (sideF (reps C) seen))
 | .even x => e = .returned (.tuple #[.agg #[.int .i64 0, .slice none 0 0], .bool true]) ∧ ∃ xb, w.heap.size ≤ xb ∧ GX w' g A c L xb x ∧ GoodN L x ∧ x.length = L.length
set_option maxHeartbeats 16000000 in
theorem balance_any {w : World} {bb s r1 r2 r3 r4 : Nat} {As : Option Addr} {cap : Nat} {C : List Ent} {ids : List Int} {g : Nat} {A : Option Addr} {c : Nat} {L : List Arc} (hG : GraphAt w g A c L none 0 0) (hA : ∀ a, A = some a → a.block < w.heap.size ∧ a.block ≠ g) (hB : ∀ wr, w.grownBy wr (some g) → LooksAt wr bb s r1 r2 r3 r4 As cap C ids)
  (hcl : C.length ≤ 210) (hLf : L.length ≤ 2000) (hgd : ∀ a ∈ L, okN a.lo = true ∧ okN a.hi = true) {R : BalR} (hR : balF L (nodesF (reps C)) = some R) :
  Calls Tryz.prog 87 #[.pointer (some ⟨bb, 0, none⟩), .pointer (some ⟨g, 0, none⟩)] w (BalPost w g A c L C R) := by
 have HG := hid hG
 have HA := hid hA
 have HB := hid hB
 have HGD := hid hgd
 have HR := hid hR
 have hmm := @run_makeMap Tryz.prog
 have hgl := hG.lt
 obtain ⟨g0, _, gf⟩ := hG.at_
 have hgf1 : w.frozen? ⟨g, 1, none⟩ = false := gf
 have hcA := hG.cap
 clear hG hA hB hgd hR
 go_enter Tryz.func87, Tryz.ntmps87
 obtain ⟨W2, hmk, hrow, hgr⟩ := made_x (w.alloc (.cells #[.int .i64 0, .slice none 0 0] 55)) L.length (by omega)
 rw [World.size_alloc] at hmk hrow
 have hb2 := below_of_none hgr
 have hgl1 : g < (w.alloc (.cells #[.int .i64 0, .slice none 0 0] 55)).heap.size := by simp; omega
 have hg2 : (W2.cell? ⟨g, 1, none⟩).isSome = true ∧ W2.frozen? ⟨g, 1, none⟩ = false := by
  have h1 := (hb2.block g hgl1).trans (Below.heap_alloc w _ g hgl)
  have h2 := h1.trans HG.out.box
  constructor <;> simp [World.cell?, World.frozen?, h2]
 obtain ⟨cv, hcv⟩ := Option.isSome_iff_exists.1 hg2.1
 have hfv := hg2.2
 have hbm := bal_start HG.out HA.out hrow hgr
 go_upto_region 3 with fail
 obtain ⟨W4, hW4⟩ : ∃ W4, (((W2.setCell ⟨g, 1, none⟩ (.slice (some ⟨w.heap.size + 1, 0, none⟩) L.length L.length)).alloc (.map #[] 0)).alloc (.cells #[.map (some W2.heap.size)] 80)) = W4 := ⟨_, rfl⟩
 rw [hW4] at hbm ⊢
 obtain ⟨xb, hxb⟩ : ∃ xb, w.heap.size + 1 = xb := ⟨_, rfl⟩
 obtain ⟨b6, hb6⟩ : ∃ b6, W2.heap.size + 1 = b6 := ⟨_, rfl⟩
 obtain ⟨mb, hmb⟩ : ∃ mb, W2.heap.size = mb := ⟨_, rfl⟩
 rw [hmb] at hb6
 rw [hxb, hmb, hb6] at hbm
 rw [hxb, hmb, hb6]
 have HBM := hid hbm
 obtain ⟨g0', _⟩ := hbm.gx.graph.1.at_
 clear hbm hW4 hxb hb6 hmb hmm hmk hrow hgr hb2 hgl1 hg2 hcv hfv g0 gf hgf1
 unfold balF at HR
 obtain ⟨j, hj⟩ : ∃ j, L.findIdx badB = j := ⟨_, rfl⟩
 rw [hj] at HR
 have hjl : j ≤ L.length := by rw [← hj]; exact List.findIdx_le_length
 have HJ : Hid (∀ k (h : k < L.length), k < j → badB L[k] = false) := hid (fun k h hk => by
  rw [← hj] at hk
  simpa using List.not_of_lt_findIdx hk)
 have HJB : Hid (∀ h : j < L.length, badB L[j] = true) := hid (fun h => by
  subst hj
  exact List.findIdx_getElem (w := h))
 clear hj
 rcases hst : startF L j with _ | ⟨xj, mj⟩
 ·have := HR.out
  rw [hst] at this
  cases this
 have hrr := HR.out
 rw [hst] at hrr
 dsimp only at hrr
 have HRR := hid hrr
 have HSJ := hid hst
 have HSL : Hid (∀ k ≤ j, ∃ x m, startF L k = some (x, m)) := hid (fun k hk => by
  have h1 := startF_le (L := L) (j := j) (by rw [HSJ.out]; rfl) k hk
  obtain ⟨⟨x, m⟩, h2⟩ := Option.isSome_iff_exists.1 h1
  exact ⟨x, m, h2⟩)
 clear hst hrr HR
 go_upto_region 4 with fail
 clear g0'
 go_loopg [33] (L.length) (fun gm iv wr => ∃ (k : Nat) (x : List Int) (m : Much), k ≤ j ∧ gm = L.length - k ∧ iv = .int .i64 k ∧ Hid (startF L k = some (x, m)) ∧ Hid (BM w wr g A c L xb x b6 mb m w.heap.size))
 case atStart => exact ⟨0, _, _, by omega, by omega, rfl, hid rfl, HBM⟩
 case round =>
  obtain ⟨k, x, m, hk, hgk, rfl, HSK, HM⟩ := hrel
  have hxl := startF_len HSK.out
  by_cases hkl : k < L.length
  ·obtain ⟨a, ha⟩ : ∃ a, L[k] = a := ⟨_, rfl⟩
   obtain ⟨b2, off2, hAe, hrg⟩ := HM.out.gx.arcs (by omega)
   subst hAe
   have hra := hrg k hkl
   rw [ha] at hra
   have HRA := hid hra
   have HAK := hid ha
   have i0 : (0 : Int) ≤ k := by omega
   have i1 : (k : Int) < L.length := by omega
   have HXL := hid hxl
   clear hrg hra ha hxl
   go_upto_region 6 with (first | refine load_arc_mid rfl _ rfl _ _ rfl HRA.out ?_ | (refine store_arc_new rfl _ _ rfl rfl rfl (q := a) rfl rfl rfl ?_; intro W6 hax6 hb6 hlt6; have HAX := hid hax6; have HM6 := hid (HM.out.below hb6); clear hax6 hb6))
   obtain ⟨a0, a1, a2, a3, a4⟩ := HAX.out.at_
   by_cases hbad : a.hi < a.lo
   ·have hbd : decide (a.hi < a.lo) = true := decide_eq_true hbad
    have hkj : k = j := by
     rcases Nat.lt_or_ge k j with h | h
     ·have := HJ.out k hkl h
      rw [HAK.out] at this
      unfold badB at this
      rw [hbd] at this
      cases this
     ·omega
    subst hkj
    have hrr := HRR.out
    rw [List.getElem?_eq_getElem hkl, HAK.out] at hrr
    dsimp only at hrr
    have HRR2 := hid hrr
    clear hrr hbad
    go_wp2_with (first | refine store_conf rfl _ _ rfl _ rfl (p := a.parcel) (v := .slice none 0 0) rfl rfl HM6.out.conf ?_)
    refine bodyPost_ret (balance_ret _ _ w.heap.size rfl rfl (conf_set HM6.out.conf)) rfl ?_
    cases HRR2.out
    exact ⟨near_below HM6.out.near (Nat.le_refl _) (below_setRow (Below.refl _ _) (Nat.le_refl _) _), rfl⟩
   ·have hbd : decide (a.hi < a.lo) = false := decide_eq_false hbad
    have hkj : k < j := by
     rcases Nat.lt_or_ge k j with h | h
     ·exact h
     ·obtain rfl : k = j := by omega
      have := HJB.out hkl
      rw [HAK.out] at this
      unfold badB at this
      rw [hbd] at this
      cases this
    obtain ⟨x2, m2, hs2⟩ := HSL.out (k + 1) (by omega)
    have hs3 := hs2
    unfold startF at hs3
    rw [HSK.out, List.getElem?_eq_getElem hkl, HAK.out] at hs3
    dsimp only at hs3
    by_cases hok : okN (mAt m a.to_ + a.lo) = true ∧ okN (mAt (setAt m a.to_ (mAt m a.to_ + a.lo)) a.from_ - a.lo) = true
    case neg =>
     rw [if_neg hok] at hs3
     cases hs3
    rw [if_pos hok] at hs3
    obtain ⟨hx2, hm2⟩ := Prod.mk.inj (Option.some.inj hs3)
    have hok1 := okN_le hok.1
    have hok2 := okN_le hok.2
    have HS2 := hid hs2
    have HX2 := hid hx2
    have HM2 := hid hm2
    have HM7 := hid (HM6.out.below (Below.refl _ _).drew)
    have HA7 := hid (HAX.out.below (Below.refl _ _).drew)
    clear hbad hs3 hok hs2 hx2 hm2
    have hxk : (k : Int) < x.length := by have := HXL.out; omega
    have hxn : k < x.length := by omega
    go_upto_region 8 with (fail)
    clear a0 a1 a2 a3 a4
    refine wp_region_noPanic ?_
    refine wp_region_held_drew (S := fun w' => w'.cell? ⟨g, 1, none⟩ = some (.slice (some ⟨xb, 0, none⟩) x.length x.length) ∧ w'.cell? ⟨wr.heap.size, 3, none⟩ = some (.int .i64 a.lo)) (by kernel_rfl) (⟨HM7.out.gx.graph.1.at_.2.1, HA7.out.at_.2.2.2.1⟩) (fun hHeld => ?_)
    refine tk 0 (fun _ _ _ _ _ h => h) (by kernel_rfl) ‹_› ⟨_, ?_, by simp only [zz1, zz2]; rfl, .inl ⟨by rfl, ?_⟩, ?_⟩; rotate_left; · (intro w hSw; (try dsimp only at hSw); go_simp; all_goals with_reducible rfl)
    simp only [Act.put, zz4, zz5, zz6]
    refine tk 1 (fun _ _ _ _ _ h => h) (by kernel_rfl) ‹_› ⟨_, ?_, by simp only [zz1, zz2, zz3]; rfl, .inl ⟨by rfl, ?_⟩, ?_⟩; rotate_left; · (intro w hSw; (try dsimp only at hSw); go_simp; all_goals with_reducible rfl)
    simp only [Act.put, zz4, zz5, zz6]
    refine tk 2 (fun _ _ _ _ _ h => h) (by kernel_rfl) ‹_› ⟨_, ?_, by simp only [zz1, zz2, zz3]; rfl, .inl ⟨by rfl, ?_⟩, ?_⟩; rotate_left; · (intro w hSw; (try dsimp only at hSw); go_simp; all_goals with_reducible rfl)
    simp only [Act.put, zz4, zz5, zz6]
    refine tk 3 (fun _ _ _ _ _ h => h) (by kernel_rfl) ‹_› ⟨_, ?_, by simp only [zz1, zz2, zz3]; rfl, .inl ⟨by rfl, ?_⟩, ?_⟩; rotate_left; · (intro w hSw; (try dsimp only at hSw); go_simp; all_goals with_reducible rfl)
    simp only [Act.put, zz4, zz5, zz6]
    refine tk 4 (fun _ _ _ _ _ h => h) (by kernel_rfl) ‹_› ⟨_, ?_, by simp only [zz1, zz2, zz3]; rfl, .inl ⟨by rfl, ?_⟩, ?_⟩; rotate_left; · (intro w hSw; (try dsimp only at hSw); go_simp; all_goals with_reducible rfl)
    simp only [Act.put, zz4, zz5, zz6]
    refine tk 5 (fun _ _ _ _ _ h => h) (by kernel_rfl) ‹_› ⟨_, ?_, by simp only [zz1, zz2, zz3]; rfl, .inl ⟨by rfl, ?_⟩, ?_⟩; rotate_left; · (intro w hSw; (try dsimp only at hSw); go_simp; all_goals with_reducible rfl)
    simp only [Act.put, zz4, zz5, zz6]
    refine tk 6 (fun _ _ _ _ _ h => h) (by kernel_rfl) ‹_› ⟨_, ?_, by simp only [zz1, zz2, zz3]; rfl, .inl ⟨by rfl, ?_⟩, ?_⟩; rotate_left; · (intro w hSw; (try dsimp only at hSw); go_simp; all_goals with_reducible rfl)
    simp only [Act.put, zz4, zz5, zz6]
    refine tk 7 (fun _ _ _ _ _ h => h) (by kernel_rfl) ‹_› ⟨_, ?_, by simp only [zz1, zz2, zz3]; rfl, .inl ⟨by rfl, ?_⟩, ?_⟩; rotate_left; · (intro w hSw; (try dsimp only at hSw); go_simp; all_goals with_reducible rfl)
    simp only [Act.put, zz4, zz5, zz6]
    refine wpAnyH_ready (rs := [8]) (by kernel_rfl) (by simp) ?_
    refine cons_one (i := 8) ⟨_, by simp only [zz1, zz2, zz3]; rfl, fun K hK => ?_⟩ ?_
    rotate_left
    ·exact AllReadyH.nil
    have hfx := HM7.out.gx.loose k
    clear hHeld
    obtain ⟨b9, off9, e9, hr9⟩ := HM7.out.gx.graph.2 (by omega)
    cases e9
    have hx9 := hr9 k (by omega)
    rw [Nat.zero_add] at hx9
    clear hr9
    go_simp
    have HM8 : Hid (BM w (W6.setCell ⟨xb, k, none⟩ (.int .i64 a.lo)).drew g (some ⟨b2, off2, none⟩) c L xb (x.set k a.lo) b6 mb m w.heap.size) := hid (HM7.out.set k a.lo)
    have HA8 : Hid (ArcIs (W6.setCell ⟨xb, k, none⟩ (.int .i64 a.lo)).drew wr.heap.size a) := hid (HA7.out.other (by have := HM.out.gx.lt.2; omega))
    have g1n := HM8.out.gx.graph.1.at_.2.1
    rw [List.length_set] at g1n
    refine hK.out _ _ ⟨g1n, HA8.out.at_.2.2.2.1⟩ (fun hHeld => ?_)
    clear hK K g1n hx9 hfx
    try simp only [Act.put]
    refine wpAnyH_done (by kernel_rfl) ?_ _
    refine NoPanic.normal ?_
    obtain ⟨W8, hW8⟩ : ∃ W8, (W6.setCell ⟨xb, k, none⟩ (.int .i64 a.lo)).drew = W8 := ⟨_, rfl⟩
    rw [hW8] at HM8 HA8 hHeld ⊢
    clear hW8 hHeld
    obtain ⟨W9, hp9, HMx9, k9⟩ := HM8.out.put a.to_ (mAt m a.to_ + a.lo)
    have HM9 := hid HMx9
    have HA9 := hid (k9 _ _ _ _ HA8.out)
    obtain ⟨m1, hm1⟩ : ∃ m1, setAt m a.to_ (mAt m a.to_ + a.lo) = m1 := ⟨_, rfl⟩
    have hok2' := hok2
    rw [hm1] at hok2' HM9 HM2
    obtain ⟨W10, hp10, HMx10, k10⟩ := HM9.out.put a.from_ (mAt m1 a.from_ - a.lo)
    have HM10 := hid HMx10
    have hl8 := HM8.out.much.lookI a.to_
    have hl9 := HM9.out.much.lookI a.from_
    obtain ⟨v8, hv8⟩ : ∃ v8, mAt m a.to_ = v8 := ⟨_, rfl⟩
    obtain ⟨v9, hv9⟩ : ∃ v9, mAt m1 a.from_ = v9 := ⟨_, rfl⟩
    rw [hv8] at hl8 hok1 hp9
    rw [hv9] at hl9 hok2' hp10
    have c8 := HM8.out.box6.cell
    have c9 := HM9.out.box6.cell
    obtain ⟨_, e1, e2, e3, _⟩ := HA8.out.at_
    obtain ⟨_, f1, f2, f3, _⟩ := (show ArcIs W9 wr.heap.size a from HA9.out).at_
    clear HMx9 HMx10 k9 k10 hok2 hm1
    have HV8 := hid hv8
    have HV9 := hid hv9
    clear hv8 hv9
    go_wp2_with fail
    go_roundg (L.length - (k + 1))
    case measure => omega
    case rel => exact ⟨k + 1, x2, m2, by omega, rfl, by go_num, HS2, by rw [← HX2.out, ← HM2.out]; exact HM10⟩
  ·obtain rfl : k = L.length := by omega
   obtain rfl : L.length = j := by omega
   obtain ⟨V, hV⟩ : ∃ V, V = wr := ⟨_, rfl⟩
   subst hV
   have hxm := HSK.out.symm.trans HSJ.out
   obtain ⟨hx1, hm1⟩ := Prod.mk.inj (Option.some.inj hxm)
   subst hx1 hm1
   have hrr := HRR.out
   rw [List.getElem?_eq_none (Nat.le_refl _)] at hrr
   dsimp only at hrr
   have HRN := hid hrr
   have HGX0 : Hid (GoodN L x) := hid ⟨startF_good HGD.out HSK.out, HGD.out⟩
   have HXL := hid hxl
   have hLA := HB.out V HM.out.near
   have HLA := hid hLA
   obtain ⟨l0, _, _⟩ := hLA.cells
   have hbbl : bb < V.heap.size := by
    obtain ⟨_, _, h1, _⟩ := hLA.box
    exact (Array.getElem?_eq_some_iff.1 h1).1
   have hsl := hLA.store.lt
   obtain ⟨s0, _, _, _⟩ := hLA.store.cell
   clear hLA hrr HRR HSJ HSL HJ HJB hxm hxl hjl hk
   go_upto_region 14 with fail
   clear l0 s0
   obtain ⟨W5, hW5⟩ : ∃ W5, V.alloc (.cells #[.int .i64 0] 3) = W5 := ⟨_, rfl⟩
   have hb5 : Below V.heap.size V W5 := by rw [← hW5]; exact (Below.refl _ _).alloc (Nat.le_refl _) _
   have hbl5 : Block W5 V.heap.size 3 (ints [0]) := by rw [← hW5]; exact heap_alloc_new V _
   have how5 : W5.ownsRow V.heap.size 3 1 (.slice (some ⟨V.heap.size, 0, none⟩) 1 1) 1 (ints [0]) := block_own hbl5 rfl (Nat.le_refl _) (by simp [maxLen])
   rw [hW5]
   have HB5 := hid hb5
   have HO5 := hid how5
   have hcrl : (reps C).length = C.length := by simp [reps]
   have HCRL := hid hcrl
   clear hW5 hb5 hbl5 how5 hcrl
   go_loopg [9, 78] (C.length) (fun gm ov iv wq => ∃ k : Nat, k ≤ C.length ∧ gm = C.length - k ∧ iv = .int .i64 k ∧ Hid (wq.ownsRow V.heap.size 3 1 ov (nodesF ((reps C).take k)).length (ints (nodesF ((reps C).take k)))) ∧ Hid (Below V.heap.size V wq))
   case atStart => exact ⟨0, by omega, by omega, rfl, HO5, HB5⟩
   case round =>
    obtain ⟨k, hk, hgk2, rfl, how, hbw⟩ := hrel
    by_cases hkl : k < C.length
    ·obtain ⟨b, off, hAe, hc⟩ := (HLA.out.ents.below hbw.out).rows (by omega)
     subst hAe
     have hck := hc k hkl
     have hsn := nodesF_take (reps C) k (by rw [HCRL.out]; exact hkl)
     have hge : (reps C)[k]'(by rw [HCRL.out]; exact hkl) = C[k].1 := by simp [reps]
     rw [hge] at hsn
     have hll2 : (nodesF ((reps C).take k)).length ≤ 211 := by unfold nodesF; rw [List.length_cons, List.length_map, List.length_take, HCRL.out]; omega
     obtain ⟨⟨xr, P, cr⟩, hx⟩ : ∃ y, C[k] = y := ⟨_, rfl⟩
     rw [hx] at hck hsn
     dsimp only at hck hsn
     obtain ⟨D, hD⟩ : ∃ D, nodesF ((reps C).take k) = D := ⟨_, rfl⟩
     rw [hD] at hsn how hll2
     have HCK := hid hck
     have HSN := hid hsn
     have i0 : (0 : Int) ≤ k := by omega
     have i1 : (k : Int) < C.length := by omega
     clear hc hck hsn hge hx hD
     go_upto_region 16 with (first | refine load_rep_mid rfl _ rfl _ _ rfl HCK.out ?_ | (refine store_rep_new rfl _ _ rfl rfl rfl (r := xr) rfl rfl ?_; intro W7 hbx7 hb7 hlt7; have HX7 := hid hbx7; have HB7 := hid (hbw.out.trans (hb7.mono hbw.out.size)); have HO7 := hid (own_below how.out hb7); clear hbx7 hb7))
     obtain ⟨x0, _⟩ := HX7.out.at_
     obtain ⟨v8, w8, hr8, ho8, hb8⟩ := app_one xr.id HO7.out (by omega) HB7.out.size
     obtain ⟨A8, k8, hv8, hx8⟩ := ownsRow.form ho8
     subst hv8
     have HR8 := hid hr8
     have HO8 := hid ho8
     have HB8 := hid (HB7.out.trans hb8)
     clear hr8 ho8 hb8 hx8
     have hln : (D ++ [xr.id]).length = D.length + 1 := by simp
     rw [hln] at HR8
     have HLN := hid hln
     clear hln
     go_wp2_with (first | (at_builtin; refine wpList_app rfl rfl rfl rfl rfl HR8.out ?_))
     go_roundg (C.length - (k + 1))
     case measure => omega
     case rel => exact ⟨k + 1, by omega, rfl, by go_num, by rw [HSN.out]; exact hid (by have := HO8.out; rw [HLN.out] at this ⊢; exact this), HB8⟩
    ·obtain rfl : k = C.length := by omega
     have ho := how.out
     rw [List.take_of_length_le (by rw [HCRL.out]; omega)] at ho
     obtain ⟨A8, k8, hv8, hx8, hx9, hx10⟩ := ownsRow.form ho
     subst hv8
     have HNI := hid (ownsRow_ints ho)
     have hnl : (nodesF (reps C)).length ≤ 211 := by unfold nodesF; rw [List.length_cons, List.length_map, HCRL.out]; omega
     have HNA : Hid (∀ a, A8 = some a → V.heap.size ≤ a.block) := hid fun a e => (hx10 a e).1
     have HM9 := hid (HM.out.below hbw.out)
     have hxw : xb < V.heap.size := HM.out.gx.lt.2
     obtain ⟨N, hN⟩ : ∃ N, nodesF (reps C) = N := ⟨_, rfl⟩
     rw [hN] at HNI hnl hx9 HRN
     rw [hN]
     clear ho hx8 hx10 how hN
     go_upto_region 19 with fail
     obtain ⟨V2, hV2⟩ : ∃ V2, V2 = wr := ⟨_, rfl⟩
     subst hV2
     have HRD : Hid (drainsR L N x m = some R) := hid HRN.out
     have HN0 := hid HNI.out
     clear HRN HSK hbw
     go_loopg [90] (N.length) (fun gm iv wq => ∃ (k : Nat) (x1 : List Int) (m1 : Much), k ≤ N.length ∧ gm = N.length - k ∧ iv = .int .i64 k ∧ Hid (drainsR L (N.drop k) x1 m1 = some R) ∧ Hid (BM w wq g A c L xb x1 b6 mb m1 w.heap.size) ∧ Hid (IntsAt wq A8 N) ∧ Hid ((∀ v ∈ x1, okN v = true) ∧ x1.length = L.length))
     case atStart => exact ⟨0, x, m, by omega, by omega, rfl, HRD, HM9, HN0, hid ⟨HGX0.out.1, HXL.out⟩⟩
     case round =>
      obtain ⟨k, x1, m1, hk, hgk3, rfl, HRK, HMK, HNK, HXK⟩ := hrel
      by_cases hkl : k < N.length
      ·obtain ⟨b8, off8, hAe, hc⟩ := HNK.out (by omega)
       subst hAe
       have hck := hc k hkl
       have hdr : N.drop k = N[k] :: N.drop (k + 1) := (List.getElem_cons_drop hkl).symm
       have hrr := HRK.out
       rw [hdr, drainsR_cons] at hrr
       obtain ⟨v, hv⟩ : ∃ v, N[k] = v := ⟨_, rfl⟩
       rw [hv] at hck hrr
       rcases hres : drainF L v drainN x1 m1 with _ | res
       ·rw [hres] at hrr
        cases hrr
       rw [hres] at hrr
       have HRR := hid hrr
       have HRES := hid hres
       have i0 : (0 : Int) ≤ k := by omega
       have i1 : (k : Int) < N.length := by omega
       clear hc hdr hrr hv hres
       go_upto_region 21 with fail
       clear hck
       have hpb := HNA.out _ rfl
       go_loopg [] (drainN) (fun gm wq => ∃ (n : Nat) (x2 : List Int) (m2 : Much), gm = n ∧ Hid (drainF L v n x2 m2 = some res) ∧ Hid (BM w wq g A c L xb x2 b6 mb m2 w.heap.size) ∧ Hid (IntsAt wq (some ⟨b8, off8, none⟩) N) ∧ Hid ((∀ v ∈ x2, okN v = true) ∧ x2.length = L.length))
       case atStart => exact ⟨drainN, x1, m1, rfl, HRES, HMK, HNK, HXK⟩
       case round =>
        obtain ⟨n, x2, m2, hgn, HRN, HM2, HN2, HX2⟩ := hrel
        rcases n with _ | n
        ·have := HRN.out
         cases this
        have hrn := HRN.out
        unfold drainF at hrn
        have c6 := HM2.out.box6.cell
        have hlk := HM2.out.much.lookI v
        by_cases hpos : 0 < mAt m2 v
        ·rw [if_pos hpos] at hrn
         have hpd : decide (0 < mAt m2 v) = true := decide_eq_true hpos
         have HRN2 := hid hrn
         clear hrn HRN hpos
         go_upto_region 23 with fail
         obtain ⟨V3, hV3⟩ : ∃ V3, V3 = wr := ⟨_, rfl⟩
         subst hV3
         obtain ⟨W5, hW5⟩ : ∃ W5, V3.alloc (.cells #[.int .i64 0] 3) = W5 := ⟨_, rfl⟩
         have hbn := Boxed.new V3 3 (.int .i64 0)
         have hb5 : Below V3.heap.size V3 W5 := by rw [← hW5]; exact (Below.refl _ _).alloc (Nat.le_refl _) _
         rw [hW5] at hbn ⊢
         obtain ⟨bl, hbl⟩ : ∃ bl, V3.heap.size = bl := ⟨_, rfl⟩
         have HM5 := hid (HM2.out.below hb5)
         have HN5 := hid (HN2.out.kept (Kept.of_below hb5))
         have hl1 := HM2.out.gx.lt
         have hl2 := HM2.out.box6.lt
         have hl3 := HM2.out.much.lt
         have hl4 := HM2.out.conf.lt
         have hl5 := HM2.out.near.size
         have hl6 : b8 < V3.heap.size := by
          obtain ⟨b', off', e, hc⟩ := HN2.out (by omega)
          cases e
          exact cell_lt (hc 0 (by omega))
         rw [hbl] at hbn hl1 hl2 hl3 hl4 hl5 hl6 ⊢
         have hgw := HM2.out.hg
         have hAb : ∀ a, A = some a → a.block ≠ bl := fun a e => by have := (HA.out a e).1; omega
         have HXL2 := hid HX2.out.2
         have hLies : Lies W5 (some bl) g A c L (some ⟨xb, 0, none⟩) x2.length x2 :=
          ⟨fun wr' hg' => (HM5.out.gx.grown hg' (by omega) (by omega) hAb).graph, by have := HXL2.out; omega, hLf, Nat.le_refl _⟩
         have hWants : Wants W5 (some bl) 127 #[.pointer (some ⟨bl, 0, none⟩), .pointer (some ⟨b6, 0, none⟩)] (fun u => decide (mAt m2 u < 0)) := fun u wr' hg' hb' => by
          obtain ⟨z, hz⟩ := hb' bl rfl
          exact balance1_any (HM5.out.box6.kept hg' (by simp; omega)) (HM5.out.much.same (hg'.block mb HM5.out.much.lt (by simp; omega))) hz u
         have hLast : ∀ b, some bl = some b → b < W5.heap.size ∧ ∃ u, Boxed W5 b 3 u := fun b e => by
          cases e
          exact ⟨hbn.lt, _, hbn⟩
         rcases hpo : pathOf L x2 v (fun u => decide (mAt m2 u < 0)) (-1) with _ | R0
         ·have := HRN2.out
          rw [hpo] at this
          cases this
         have HPA := hid (path_any hLies v enters_bal1 hWants hLast (-1) hpo)
         have hrr := HRN2.out
         rw [hpo] at hrr
         have HRR2 := hid hrr
         have HPO := hid hpo
         have HLB := hid hbl
         have HL := hid (And.intro hl1 (And.intro hl2 (And.intro hl3 (And.intro hl4 (And.intro hl5 (And.intro hl6 hgw))))))
         have HAB := hid hAb
         clear hLies hWants hLast hpo hrr HRN2 hbn hb5 hW5 hl1 hl2 hl3 hl4 hl5 hl6 hgw hAb c6 hlk hpd hbl
         go_wp2_with fail
         refine HPA.out.mono ?_
         rintro e w3 hpost
         clear HPA
         obtain ⟨⟨hl1a, hl1b⟩, hl2, hl3, hl4, hl5, hl6, hgw⟩ := HL.out
         rcases R0 with ⟨o, last⟩ | seen
         ·obtain ⟨hnear, ⟨v3, rfl, ho3⟩, hlb⟩ := hpost
          have hlb2 := hlb bl rfl
          obtain ⟨A7, k7, rfl, hx1, hx2, hx3⟩ := ownsRow.form ho3
          have hol : o.length ≤ 400 := pathF_len HPO.out
          have hrr := HRR2.out
          dsimp only at hrr
          obtain ⟨mv, hmv⟩ : ∃ mv, mAt m2 v = mv := ⟨_, rfl⟩
          obtain ⟨ml, hml⟩ : ∃ ml, mAt m2 last = ml := ⟨_, rfl⟩
          rw [hmv, hml] at hrr
          rcases hro : roomF L x2 o (min mv (-ml)) with _ | q
          ·rw [hro] at hrr
           cases hrr
          rw [hro] at hrr
          dsimp only at hrr
          by_cases hoq : okN q = true ∧ okN mv = true ∧ okN ml = true
          case neg =>
           rw [if_neg hoq] at hrr
           cases hrr
          rw [if_pos hoq] at hrr
          rcases hle : leadF q o x2 with _ | y
          ·rw [hle] at hrr
           cases hrr
          rw [hle] at hrr
          dsimp only at hrr
          obtain ⟨m3, hm3⟩ : ∃ m3, setAt m2 v (mv - q) = m3 := ⟨_, rfl⟩
          rw [hm3] at hrr
          obtain ⟨m3l, hm3l⟩ : ∃ m3l, mAt m3 last = m3l := ⟨_, rfl⟩
          rw [hm3l] at hrr
          by_cases hos : okN (mv - q) = true ∧ okN (m3l + q) = true
          case neg =>
           rw [if_neg hos] at hrr
           cases hrr
          rw [if_pos hos] at hrr
          have hk1 := okN_le hoq.1
          have hk2 := okN_le hoq.2.1
          have hk3 := okN_le hoq.2.2
          have hk4 := okN_le hos.1
          have hk5 := okN_le hos.2
          have HRR3 := hid hrr
          have HM6 := hid (HM5.out.grown hnear HAB.out (by omega) (by omega) (by omega) (by omega) (by omega))
          have HN6 := hid (ints_grown HN5.out hnear (by omega))
          have HST := hid (steps_of_cells hx1)
          have HX3 := hid hx3
          have HBL6 := hid hlb2
          have HLE := hid hle
          have HM3 := hid hm3
          have HM3L := hid hm3l
          have HMV := hid hmv
          have HML := hid hml
          have HOQ := hid hoq.1
          have HK2 := hid hoq.2.1
          have HK4 := hid hos.1
          have HK5 := hid hos.2
          have hxs5 : xb < W5.heap.size := HM5.out.gx.lt.2
          have HRM := hid (room_any HM6.out.gx.graph.1 HM6.out.gx.graph.2 (by have := HXL2.out; omega) ⟨HX2.out.1, HGD.out⟩ (sc := k7) HST.out (by omega) (min mv (-ml)) hro)
          have c6 := HM6.out.box6.cell
          have hlv := HM6.out.much.lookI v
          have hll := HM6.out.much.lookI last
          rw [hmv] at hlv
          rw [hml] at hll
          have cl := hlb2.cell
          have hnn := neq_nil none
          simp only [Option.isNone_none, Bool.not_true] at hnn
          clear hnear hlb hlb2 ho3 hx1 hx2 hx3 hrr hmv hml hro hoq hle hm3 hm3l hos hk4 hk5 HRR2
          go_wp2_with fail
          refine HRM.out.mono ?_
          rintro e w4 ⟨rfl, hb4⟩
          have HM7 := hid (HM6.out.below hb4)
          have HN7 := hid (HN6.out.kept (Kept.of_below hb4))
          have HBL7 := hid (HBL6.out.kept (grown_of_below hb4) (by simp))
          have HLD := hid (lead_any HM7.out.gx (by have := HXL2.out; omega) HX2.out.1 (sc := k7) (HST.out.kept (Kept.of_below hb4)) (fun a' e => by
           have h1 := (HX3.out a' e).1
           omega) (by omega) q HOQ.out HLE.out)
          clear hb4 HRM c6 hlv hll cl hk2 hk3
          go_wp2_with fail
          refine HLD.out.mono ?_
          rintro e w5 ⟨⟨v5, rfl⟩, hg5, hgr5⟩
          have HM8 := hid (HM7.out.lead hg5 hgr5)
          have HN8 := hid (ints_grown HN7.out hgr5 (by omega))
          have HBL8 := hid (HBL7.out.kept hgr5 (by simp; omega))
          obtain ⟨w6, hp6, hM6, hc6⟩ := HM8.out.put v (mv - q)
          rw [HM3.out] at hM6
          have HM9 := hid hM6
          have HN9 := hid (HN8.out.kept hc6.kept)
          have HBL9 : Hid (Boxed w6 bl 3 (.int .i64 last)) := hid (hc6 _ _ _ _ HBL8.out)
          obtain ⟨w7, hp7, hM7, hc7⟩ := HM9.out.put last (m3l + q)
          have HM10 := hid hM7
          have HN10 := hid (HN9.out.kept hc7.kept)
          have c8 := HM8.out.box6.cell
          have hl8 := HM8.out.much.lookI v
          rw [HMV.out] at hl8
          have c9 := HM9.out.box6.cell
          have cl9 := HBL9.out.cell
          have hl9 := HM9.out.much.lookI last
          rw [HM3L.out] at hl9
          have hk2 := okN_le (show okN mv = true from HK2.out)
          have hk4 := okN_le (show okN (mv - q) = true from HK4.out)
          have hk5 := okN_le (show okN (m3l + q) = true from HK5.out)
          clear hg5 hgr5 hM6 hc6 hM7 hc7 HLD
          go_wp2_with fail
          go_roundg n
          case measure => omega
          case rel => exact ⟨n, y, _, rfl, HRR3, HM10, HN10, hid ⟨leadF_good HLE.out HX2.out.1, (leadF_len HLE.out).trans HX2.out.2⟩⟩
         ·obtain ⟨hnear, r, rfl, hms⟩ := hpost
          have HM6 := hid (HM5.out.grown hnear HAB.out (by omega) (by omega) (by omega) (by omega) (by omega))
          have HSD := hid (side_any (HB.out w3 HM6.out.near) hcl hms)
          have hnn := neq_nil (some r)
          simp only [Option.isNone_some, Bool.not_false] at hnn
          clear hnear hms
          go_wp2_with fail
          refine HSD.out.mono ?_
          rintro e w4 ⟨v4, rfl, ho4, hb4⟩
          obtain ⟨A7, k7, rfl, hx1⟩ := ownsRow.form ho4
          have HO4 := hid ho4
          have HM7 := hid (HM6.out.below hb4)
          have hs3 := HM6.out.near.size
          clear hx1 ho4 hb4 HSD
          have h2 := HRR2.out
          cases h2
          have h3 := HRR.out
          cases h3
          go_wp2_with (first | refine store_conf rfl _ _ rfl _ rfl (p := 0) (v := .slice A7 (sideF (reps C) seen).length k7) rfl rfl HM7.out.conf ?_)
          refine bodyPost_ret (balance_ret _ _ w.heap.size rfl rfl (conf_set HM7.out.conf)) rfl ?_
          refine ⟨near_below HM7.out.near (Nat.le_refl _) (below_setRow (Below.refl _ _) (Nat.le_refl _) _), _, rfl, ?_⟩
          refine (own_lo HO4.out hs3).kept (row := some w.heap.size) ⟨rfl, rfl, rfl, by simp, fun i _ hi => setRow_other _ _ _ _ (fun e => hi (by rw [e]))⟩ ?_
          rcases hv : (Value.slice A7 (sideF (reps C) seen).length k7).ownBlock with _ | kk
          ·exact .inl rfl
          ·refine .inr fun e => ?_
           cases e
           have := (HO4.out.lt _ hv).1
           have h4 := HM6.out.conf.lt
           omega
        ·rw [if_neg hpos] at hrn
         have hpd : decide (0 < mAt m2 v) = false := decide_eq_false hpos
         have HRN2 := hid hrn
         clear hrn HRN hpos
         go_wp2_with fail
         go_roundg (N.length - (k + 1))
         case measure => omega
         case rel =>
          have h1 := HRN2.out
          cases h1
          exact ⟨k + 1, x2, m2, by omega, rfl, by go_num, HRR, HM2, HN2, HX2⟩
      ·obtain rfl : k = N.length := by omega
       have hrr := HRK.out
       rw [List.drop_length] at hrr
       have HRR := hid hrr
       clear hrr
       go_wp2_with (first | refine store_conf rfl _ _ rfl _ rfl (p := 0) (v := .slice none 0 0) rfl rfl HMK.out.conf ?_)
       refine bodyPost_ret (balance_ret _ _ w.heap.size rfl rfl (conf_set HMK.out.conf)) rfl ?_
       cases HRR.out
       have hne := HMK.out.ne
       refine ⟨near_below HMK.out.near (Nat.le_refl _) (below_setRow (Below.refl _ _) (Nat.le_refl _) _), rfl, xb, HMK.out.hx, ?_, ⟨HXK.out.1, HGD.out⟩, HXK.out.2⟩
       exact HMK.out.gx.grown (q := w.heap.size) ⟨rfl, rfl, rfl, by simp, fun i _ hi => setRow_other _ _ _ _ (fun e => hi (by rw [e]))⟩ (by have := HMK.out.hg; omega) (fun e => hne.2.2.2.2.2.2 e.symm) (fun a e => by have := (HA.out a e).1; omega)
end
/-- What lies behind a parcel that is left: those not yet reached are, one further. -/
def pushF (p : Int) : List Int → List Int → Much → Option (List Int × Much)
 | [], row, far => some (row, far)
 | q :: qs, row, far => if (far q).isSome = true then pushF p qs row far else if row.length ≤ 1000 ∧ 0 ≤ mAt far p ∧ mAt far p ≤ 1000000 then pushF p qs (row ++ [q]) (setAt far q (mAt far p + 1)) else none
def bfsF (C : List Ent) : Nat → List Int → Much → Option Much
 | _, [], far => some far
 | 0, _ :: _, _ => none
 | n + 1, p :: row, far => match pushF p (backL C p) row far with
  | none => none
  | some (row', far') => bfsF C n row' far'
def uidF (C : List Ent) (p : Int) : Int := (entOr (userE C p)).1.id
def bestStep (C : List Ent) (b p : Int) : Int := if b = 0 ∨ uidF C p < b then uidF C p else b
def bestF (C : List Ent) (hl : List Int) : Int := hl.foldl (bestStep C) 0
def onNext (C : List Ent) (F : Much) (p : Int) : List Int := (onL C p).filter fun q => decide (F q = some (mAt F p - 1))
def nextF (C : List Ent) (F : Much) (hl : List Int) (best : Int) : List Int := (hl.filter fun p => decide (uidF C p = best)).flatMap (onNext C F)
def goodH (C : List Ent) (F : Much) (p : Int) : Bool := decide (1 ≤ uidF C p) && decide (1 ≤ mAt F p) && decide (mAt F p ≤ 1000000)
def stepsF (C : List Ent) (F : Much) : Nat → List Int → List Int → Option (List Int)
 | 0, _, _ => none
 | n + 1, hl, ol => if hl.any (fun p => decide (mAt F p = 0)) = true then some ol
  else if hl.all (goodH C F) = true ∧ ol.length ≤ 1000 then stepsF C F n (nextF C F hl (bestF C hl)) (ol ++ [bestF C hl]) else none
def chainF (C : List Ent) (find parcel : Int) : Option (Option (List Int)) := match bfsF C 2000 [parcel] (fun q => if q = parcel then some 0 else none) with
 | none => none
 | some F => if (F find).isSome = true then (stepsF C F 2000 [find] []).map some else some none
/-- The least of some numbers, all of which are positive. -/
theorem best_is {C : List Ent} : ∀ (hl : List Int) (b : Int), 0 ≤ b → (∀ p ∈ hl, 1 ≤ uidF C p) → (hl.foldl (bestStep C) b = b ∨ ∃ p ∈ hl, hl.foldl (bestStep C) b = uidF C p) ∧ (∀ p ∈ hl, hl.foldl (bestStep C) b ≤ uidF C p) ∧ (0 < b → hl.foldl (bestStep C) b ≤ b) ∧ (b = 0 → hl ≠ [] → 0 < hl.foldl (bestStep C) b) ∧ 0 ≤ hl.foldl (bestStep C) b
 | [], b, h0, _ => ⟨.inl rfl, by simp, fun _ => Int.le_refl _, fun _ h => absurd rfl h, h0⟩
 | x :: l, b, h0, hp => by
  have hx := hp x (by simp)
  have hs : bestStep C b x = if b = 0 ∨ uidF C x < b then uidF C x else b := rfl
  have h1 : 0 < bestStep C b x := by rw [hs]; split <;> omega
  obtain ⟨e1, e2, e3, e4, e5⟩ := best_is l (bestStep C b x) (by omega) (fun p h => hp p (by simp [h]))
  have e6 := e3 h1
  have hxx : bestStep C b x ≤ uidF C x := by rw [hs]; split <;> omega
  refine ⟨?_, ?_, ?_, ?_, e5⟩
  ·rcases e1 with e | ⟨p, hp2, e⟩
   ·by_cases hc : b = 0 ∨ uidF C x < b
    ·right
     refine ⟨x, by simp, ?_⟩
     rw [hs, if_pos hc] at e
     show l.foldl (bestStep C) (bestStep C b x) = _
     rw [hs, if_pos hc]
     exact e
    ·left
     rw [hs, if_neg hc] at e
     show l.foldl (bestStep C) (bestStep C b x) = _
     rw [hs, if_neg hc]
     exact e
   ·exact .inr ⟨p, by simp [hp2], e⟩
  ·intro p hp2
   rcases List.mem_cons.1 hp2 with rfl | h
   ·exact Int.le_trans e6 hxx
   ·exact e2 p h
  ·intro hb
   refine Int.le_trans e6 ?_
   rw [hs]
   split <;> omega
  ·intro _ _
   show 0 < l.foldl (bestStep C) (bestStep C b x)
   by_cases hl : l = []
   ·subst hl
    exact h1
   ·rcases e1 with e | ⟨p, hp2, e⟩
    ·rw [e]; exact h1
    ·rw [e]
     have := hp p (by simp [hp2])
     omega
/-- The same numbers in another order have the same least one. -/
theorem best_same {C : List Ent} {l m : List Int} (hp : ∀ p ∈ l, 1 ≤ uidF C p) (h : ∀ p, p ∈ l ↔ p ∈ m) : bestF C l = bestF C m := by
 obtain ⟨a1, a2, _, a4, _⟩ := best_is l 0 (Int.le_refl _) hp
 obtain ⟨b1, b2, _, b4, _⟩ := best_is m 0 (Int.le_refl _) (fun p hm => hp p ((h p).2 hm))
 unfold bestF
 by_cases hl : l = []
 ·subst hl
  have : m = [] := List.eq_nil_iff_forall_not_mem.2 (fun p hm => by have := (h p).2 hm; simp at this)
  rw [this]
 ·have hm : m ≠ [] := fun e => hl (List.eq_nil_iff_forall_not_mem.2 (fun p hp => by have := (h p).1 hp; rw [e] at this; simp at this))
  have c1 := a4 rfl hl
  have c2 := b4 rfl hm
  rcases a1 with e | ⟨p, hp1, e⟩
  ·omega
  ·rcases b1 with e2 | ⟨q, hq1, e2⟩
   ·omega
   ·have d1 := a2 q ((h q).2 hq1)
    have d2 := b2 p ((h p).1 hp1)
    omega
/-- A set of parcels, as a map to true. -/
def memF (l : List Int) (q : Int) : Option Bool := if q ∈ l then some true else none
theorem memF_same {l m : List Int} (h : ∀ p, p ∈ l ↔ p ∈ m) : memF l = memF m := by
 funext q
 unfold memF
 by_cases hq : q ∈ l
 ·rw [if_pos hq, if_pos ((h q).1 hq)]
 ·rw [if_neg hq, if_neg (fun h2 => hq ((h q).2 h2))]
theorem memF_put (l : List Int) (x : Int) : (fun p => if p = x then some true else memF l p) = memF (l ++ [x]) := by
 funext q
 unfold memF
 by_cases h : q = x
 ·simp [h]
 ·simp [h]
theorem memF_nil : memF [] = fun _ => none := by
 funext q
 simp [memF]
/-- The block in which a slice lies. -/
def blockOf : Value → Option Nat
 | .slice (some a) _ _ => some a.block
 | _ => none
theorem Queue.push2 {w : World} {base : Nat} {v : Value} {xs : List Int} (x : Int) (h : Queue w base v xs) (hl : xs.length ≤ 100000) (hbase : base ≤ w.heap.size) :
  ∃ v' w', (Builtin.append_ #[25, 25] 25 #[v, .slice (some ⟨w.heap.size, 0, none⟩) 1 1]).run Tryz.prog (w.alloc (.cells #[.int .i64 x] 3)) = .ok v' w' ∧ Queue w' base v' (xs ++ [x]) ∧ Below base w w' ∧ KeepsOthers w w' ∧ (∀ k, k < w.heap.size → blockOf v ≠ some k → w'.heap[k]? = w.heap[k]?) ∧ (blockOf v' = blockOf v ∨ ∃ k, blockOf v' = some k ∧ w.heap.size ≤ k) := by
 obtain ⟨i, hi, hz, hsz, hby⟩ := ints_info
 obtain ⟨g, off, cap, cur, rfl, h2, h3, h4, h5, h6, h7⟩ := h
 have hlt := (Array.getElem?_eq_some_iff.1 h3).1
 have h3' : (w.alloc (.cells #[.int .i64 x] 3)).heap[g]? = some (.cells cur 3 (0, 0)) := (Below.heap_alloc _ _ g hlt).trans h3
 by_cases hroom : xs.length + 1 ≤ cap
 ·have hr := run_append_room_cells (P := Tryz.prog) (w := w.alloc (.cells #[.int .i64 x] 3)) 25 25 3 i intsl_u hi g off xs.length cap ⟨w.heap.size, 0, none⟩ 1 1 [.int .i64 x] (by rw [hsz]; rfl) (cell_one_new _ _ _) (by simp [Value.oneCell']) hroom
   (fun j hj => by
    have : j = 0 := by simpa using hj
    subst this
    simp only [World.cell?, h3', hsz]
    simp
    omega) (fun j hj => by simp [World.frozen?, h3'])
  refine ⟨_, _, hr, ?_, ?_, ?_, fun k hkl hkn => ?_, ?_⟩
  ·refine ⟨g, off, cap, cur.setIfInBounds (off + xs.length) (.int .i64 x), by simp, h2, ?_, by simpa using h4, fun j hj => ?_, by simpa using hroom, h7⟩
   ·rw [hsz, Nat.mul_one]
    show ((w.alloc (.cells #[.int .i64 x] 3)).setCells g (off + xs.length) [.int .i64 x]).heap[g]? = _
    exact block_set h3'
   ·simp only [List.length_append, List.length_singleton] at hj
    by_cases hjl : j < xs.length
    ·rw [List.getElem_append_left hjl, Array.getElem?_setIfInBounds_ne (by omega)]
     exact h5 j hjl
    ·obtain rfl : j = xs.length := by omega
     rw [Array.getElem?_setIfInBounds_self_of_lt (by omega)]
     simp
  ·rw [hsz, Nat.mul_one]
   exact ((Below.refl _ _).alloc hbase _).setCell (p := ⟨g, off + xs.length, none⟩) h2 _
  ·rw [hsz, Nat.mul_one]
   exact (KeepsOthers.alloc _ _).trans (KeepsOthers.setCell _ _ _)
  ·rw [hsz, Nat.mul_one]
   exact (setCell_ne _ (fun e => hkn (by rw [e]; rfl))).trans (Below.heap_alloc _ _ k hkl)
  ·exact .inl rfl
 ·have hcells : ∀ j u, (ints xs)[j]? = some u → (w.alloc (.cells #[.int .i64 x] 3)).cell? ((⟨g, off, none⟩ : Addr).add j) = some u := fun j u hj => by
   have hj2 : j < xs.length := by
    have := (List.getElem?_eq_some_iff.1 hj).1
    simpa [ints] using this
   have hu : u = .int .i64 xs[j] := by simpa [ints, hj2] using hj.symm
   subst hu
   rw [add_lit]
   simp only [World.cell?, h3']
   simpa using h5 j hj2
  have hr := run_append_grow (P := Tryz.prog) (w.alloc (.cells #[.int .i64 x] 3)) 25 25 3 i (.int .i64 0) intsl_u hi hz ⟨g, off, none⟩ xs.length cap (ints xs) (by rw [hsz, ints_length, Nat.mul_one]) hcells ⟨w.heap.size, 0, none⟩ 1 1 [.int .i64 x] (by rw [hsz]; rfl) (cell_one_new _ _ _) (by omega) (by omega) (growslice_fits (by omega) (by rw [hby]; omega))
  have hge := grownCap_ge (w.alloc (.cells #[.int .i64 x] 3)) (xs.length + 1) cap 3
  have hcm := grownCap_le_maxLen (w.alloc (.cells #[.int .i64 x] 3)) (xs.length + 1) cap 3 (by simp [maxLen]; omega)
  refine ⟨_, _, hr, ?_, ?_, ?_, fun k hkl hkn => ?_, ?_⟩
  ·refine ⟨_, 0, _, _, by simp, ?_, heap_alloc_new _ _, ?_, fun j hj => ?_, by simpa using hge, hcm⟩
   ·simp <;> omega
   ·simp only [Nat.zero_add, Array.size_append, size_zeroCells, List.size_toArray, ints_length, List.length_cons, List.length_nil]
    simp [Value.cells]
    omega
   ·simp only [List.length_append, List.length_singleton] at hj
    rw [Nat.zero_add, Array.getElem?_append_left (by simp [ints]; omega)]
    by_cases hjl : j < xs.length
    ·rw [Array.getElem?_append_left (by simp [ints]; omega), List.getElem_append_left hjl]
     simp [ints, hjl]
    ·obtain rfl : j = xs.length := by omega
     rw [Array.getElem?_append_right (by simp [ints])]
     simp [ints]
  ·exact (((Below.refl _ _).alloc hbase _).drew).alloc (by simp; omega) _
  ·exact ((KeepsOthers.alloc _ _).trans (KeepsOthers.drew _)).trans (KeepsOthers.alloc _ _)
  ·exact (Below.heap_alloc _ _ k (by simp; omega)).trans (Below.heap_alloc w _ k hkl)
  ·exact .inr ⟨_, rfl, by simp <;> omega⟩
/-- A list of numbers that a call hands back, in a row below N or beyond what was. -/
def IntsPostN (N : Nat) (xs : List Int) (w : World) (e : Ending) (w' : World) : Prop :=
 Below w.heap.size w w' ∧ ∃ A c, e = .returned (.slice A xs.length c) ∧ IntsAt w' A xs ∧ ∀ a, A = some a → 0 < xs.length → a.block < N ∨ w.heap.size ≤ a.block
theorem ints_block {w : World} {a : Addr} {xs : List Int} (h : IntsAt w (some a) xs) (h0 : 0 < xs.length) : a.block < w.heap.size := by
 obtain ⟨b, off, e, hc⟩ := h h0
 cases e
 exact cell_lt (hc 0 h0)
set_option maxHeartbeats 4000000 in
theorem uses_anyN (N : Nat) (r : Rep) (A : Option Addr) (c : Nat) (w : World) (hA : IntsAt w A r.parts) (hN : ∀ a, A = some a → 0 < r.parts.length → a.block < N) :
  Calls Tryz.prog 92 #[r.val A c] w (IntsPostN N r.uses w) := by
 have HA := hid hA
 have HN := hid hN
 have HU : Hid (r.uses = if r.kind = 2 then [r.parcel] else if r.kind = 3 then r.parts else if r.kind = 7 then [r.other] else []) := hid rfl
 clear hA hN
 obtain ⟨W, hW, hbx, hbW, hz⟩ := boxB r A c w
 obtain ⟨c0, c1, c2, c3, c4, c5, c6, c7, c8, c9, c10, c11, c12, c13, c14⟩ := hbx
 have hlt : w.heap.size < W.heap.size := by omega
 have HBW := hid hbW
 clear hbW hz
 by_cases k2 : r.kind = 2
 ·have d2 : (r.kind == 2) = true := beq_iff_eq.2 k2
  have e : r.uses = [r.parcel] := by rw [HU.out, if_pos k2]
  clear HU k2
  rw [e]
  clear e
  go_enter Tryz.func92, Tryz.ntmps92
  go_wp2_with fail
  go_ret
  exact ⟨HBW.out.alloc HBW.out.size _, _, _, rfl, one_int _ _ rfl, fun a e _ => by cases e; exact .inr HBW.out.size⟩
 have d2 : (r.kind == 2) = false := beq_eq_false_iff_ne.2 k2
 by_cases k3 : r.kind = 3
 ·have d3 : (r.kind == 3) = true := beq_iff_eq.2 k3
  have e : r.uses = r.parts := by rw [HU.out, if_neg k2, if_pos k3]
  clear HU k2 k3
  rw [e]
  clear e
  go_enter Tryz.func92, Tryz.ntmps92
  go_wp2_with fail
  go_ret
  exact ⟨HBW.out, _, _, rfl, HA.out.kept (Kept.of_below HBW.out), fun a e h0 => .inl (HN.out a e h0)⟩
 have d3 : (r.kind == 3) = false := beq_eq_false_iff_ne.2 k3
 by_cases k7 : r.kind = 7
 ·have d7 : (r.kind == 7) = true := beq_iff_eq.2 k7
  have e : r.uses = [r.other] := by rw [HU.out, if_neg k2, if_neg k3, if_pos k7]
  clear HU k2 k3 k7
  rw [e]
  clear e
  go_enter Tryz.func92, Tryz.ntmps92
  go_wp2_with fail
  go_ret
  exact ⟨HBW.out.alloc HBW.out.size _, _, _, rfl, one_int _ _ rfl, fun a e _ => by cases e; exact .inr HBW.out.size⟩
 have d7 : (r.kind == 7) = false := beq_eq_false_iff_ne.2 k7
 have e : r.uses = [] := by rw [HU.out, if_neg k2, if_neg k3, if_neg k7]
 clear HU k2 k3 k7
 rw [e]
 clear e
 go_enter Tryz.func92, Tryz.ntmps92
 go_wp2_with fail
 go_ret
 exact ⟨HBW.out, _, _, rfl, IntsAt.nil _ _, fun a _ h0 => absurd h0 (by simp)⟩
set_option maxHeartbeats 4000000 in
theorem back_anyN (N : Nat) {w : World} {b s r1 r2 r3 : Nat} {A : Option Addr} {cap : Nat} {C : List Ent} (h : BeachAt w b s r1 r2 r3 A cap C) (p : Int) (hN : ∀ a, (entOr (makerE C p)).2.1 = some a → 0 < (entOr (makerE C p)).1.parts.length → a.block < N) :
  Calls Tryz.prog 48 #[.pointer (some ⟨b, 0, none⟩), .int .i64 p] w (IntsPostN N (backL C p) w) := by
 have hp := entOr_parts h.ents.parts p
 have hlk := h.store.maker.lookR p
 have hbk : backL C p = if (entOr (makerE C p)).1.kind = 1 then [] else (entOr (makerE C p)).1.uses := rfl
 obtain ⟨⟨x, P, c⟩, hx⟩ : ∃ y, entOr (makerE C p) = y := ⟨_, rfl⟩
 rw [hx] at hlk hbk hp hN
 dsimp only at hbk hN
 obtain ⟨s0, s1, s2, s3⟩ := h.store.cell
 have hptr := h.ptr
 have HP := hid hp
 have HN := hid hN
 clear h hx hp s0 s2 s3 hN
 by_cases h1 : x.kind = 1
 ·rw [if_pos h1] at hbk
  rw [hbk]
  have d1 : (x.kind != 1) = false := by simp [h1]
  clear h1 hbk
  go_enter Tryz.func48, Tryz.ntmps48
  go_wp2_with (refine store_rep_new rfl _ _ rfl rfl rfl rfl rfl ?_; intro W2 hbx2 hb2 hlt2; have HB2 := hid hb2; obtain ⟨c0, c1, c2, c3, _⟩ := hbx2.at_; clear hbx2 hb2 c0 c1 c2)
  go_ret
  exact ⟨HB2.out, none, 0, rfl, IntsAt.nil _ _, fun a e _ => by cases e⟩
 ·rw [if_neg h1] at hbk
  rw [hbk]
  have d1 : (x.kind != 1) = true := bne_iff_ne.2 h1
  clear h1 hbk
  go_enter Tryz.func48, Tryz.ntmps48
  go_wp2_with (first | (refine store_rep_new rfl _ _ rfl rfl rfl rfl rfl ?_; intro W2 hbx2 hb2 hlt2; have HB2 := hid hb2; have HX2 := hid hbx2; obtain ⟨c0, c1, c2, c3, _⟩ := hbx2.at_; clear hbx2 hb2 c0 c1 c2) | refine load_rep rfl _ rfl _ rfl HX2.out ?_)
  refine (uses_anyN N x P c W2 (HP.out.kept (Kept.of_below HB2.out)).ints HN.out).mono ?_
  rintro e w3 ⟨hb3, A3, k3, rfl, hI3, hA3⟩
  have HB3 := hid (HB2.out.trans (hb3.mono HB2.out.size))
  have HI3 := hid hI3
  have HA3 := hid hA3
  clear hb3 hI3 hA3
  go_wp2_with fail
  go_ret
  exact ⟨HB3.out, _, _, rfl, HI3.out, fun a e h0 => (HA3.out a e h0).imp id (fun h => Nat.le_trans HB2.out.size h)⟩
theorem chain1040 (A : Option Addr) (c : Nat) : chainF (beachE A c) 10 40 = some (some [3, 4]) := by kernel_rfl
end Go.Proofs.YtfaoillnakhejaaGreat
