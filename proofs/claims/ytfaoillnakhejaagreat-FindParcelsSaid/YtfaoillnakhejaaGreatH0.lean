/- parcel. -/
import Derived.Test.YtfaoillnakhejaaGreatG15
import Derived.Deep.RegionHeld3
import Derived.BigRegion
import Derived.Deep.CutRange
namespace Go.Proofs.YtfaoillnakhejaaGreat
set_option maxRecDepth 100000
section
open Go.RowKit
/-- What is said of a parcel. -/
structure Pcl where
 id : Int
 from_ : Int
 into : Int
 mark : ByteArray
 goods : ByteArray
 lo : Int
 hi : Int
 finder : Int
 cell : Int
 hour : Int
 found : Bool
 hidden : Bool
 deriving DecidableEq
def Pcl.cells (q : Pcl) : Array Value := #[.int .i64 q.id, .int .i64 q.from_, .int .i64 q.into, .string q.mark, .string q.goods, .int .i64 q.lo, .int .i64 q.hi, .int .i64 q.finder, .int .i64 q.cell, .int .i64 q.hour, .bool q.found, .bool q.hidden]
abbrev Pcl.val (q : Pcl) : Value := .agg q.cells
/-- What is said of a parcel, out of the counting reports. -/
def parcelF (C : List Ent) (p : Int) : Pcl :=
 ⟨p, (entOr (makerE C p)).1.id, (entOr (userE C p)).1.id, (describeF (reps C) C.length p).2, (describeF (reps C) C.length p).1,
  (saysE C p).foldl (fun m e => max m e.1.lo) 1, (saysE C p).foldl (fun m e => min m e.1.hi) 100000000,
  if (entOr (makerE C p)).1.kind = 1 then (entOr (makerE C p)).1.party else 0, if (entOr (makerE C p)).1.kind = 1 then (entOr (makerE C p)).1.cell else 0, (entOr (makerE C p)).1.hour,
  decide ((entOr (makerE C p)).1.kind = 1), ((makerE C p).isSome && (userE C p).isNone) && (hidE C p).getD false⟩
def PclIs (w : World) (b : Nat) (q : Pcl) : Prop := w.heap[b]? = some (.cells q.cells 38 (0, 0))
theorem there_t {w : World} {s r1 r2 r3 : Nat} {A : Option Addr} {n cap : Nat} {fm fu : Int → Option Ent} {fh : Int → Option Bool} (h : StoreIs w s r1 r2 r3 A n cap fm fu fh) (p : Int) {t : Bool} (ht : ((fm p).isSome && (fu p).isNone) = t) :
  Calls Tryz.prog 133 #[.pointer (some ⟨s, 0, none⟩), .int .i64 p] w fun e w' => e = .returned (.bool t) ∧ Below w.heap.size w w' := by
 subst ht
 exact there_any h p
/-- An operation taken first. -/
theorem take_one {P : Program} {md : Region.Mode} {ops : Array Oper} {Q : Exit → Act → World → Prop} {S : World → Prop} {i fuel : Nat} {listed : Array Bool} {a : Act} {w : World}
  (hQ : ∀ c (a : Act) (d : Option Tmp) v w, Q (.panic c) (a.put d v) w → Q (.panic c) a w) (hs : Region.noSelect ops = true) (hf : Region.free md ops listed i = true) (hr : (Region.ready md ops listed).contains i = true) (hS : S w)
  (h : ∃ oi v, ops[i]? = some oi ∧ YieldsIf P ops S oi v a ∧ wpAnyH P md ops Q S fuel (listed.setIfInBounds i true) (a.put oi.dst v) w) : wpAnyH P md ops Q S (fuel + 1) listed a w := by
 obtain ⟨oi, v, hi, hy, h⟩ := h
 exact wpAnyH_take hi hs hf hr (fun c a w => hQ c a oi.dst v w) hy hS h
/-- The same, its three checks as one. -/
theorem tk {P : Program} {md : Region.Mode} {ops : Array Oper} {Q : Exit → Act → World → Prop} {S : World → Prop} (i : Nat) {fuel : Nat} {listed : Array Bool} {a : Act} {w : World}
  (hQ : ∀ c (a : Act) (d : Option Tmp) v w, Q (.panic c) (a.put d v) w → Q (.panic c) a w) (hb : (Region.noSelect ops && Region.free md ops listed i && (Region.ready md ops listed).contains i) = true) (hS : S w)
  (h : ∃ oi v, ops[i]? = some oi ∧ YieldsIf P ops S oi v a ∧ wpAnyH P md ops Q S fuel (listed.setIfInBounds i true) (a.put oi.dst v) w) : wpAnyH P md ops Q S (fuel + 1) listed a w := by
 rw [Bool.and_eq_true, Bool.and_eq_true] at hb
 exact take_one (i := i) hQ hb.1.1 hb.1.2 hb.2 hS h
/-- An operation that has come up. -/
theorem cons_one {P : Program} {md : Region.Mode} {ops : Array Oper} {Q : Exit → Act → World → Prop} {S : World → Prop} {i fuel : Nat} {listed : Array Bool} {a : Act} {w : World} {rs : List Nat}
  (h : ∃ o, ops[i]? = some o ∧ ∀ K' : Act → World → Prop, Shut (∀ a w, S w → (S w → wpAnyH P md ops Q S fuel (listed.setIfInBounds i true) a w) → K' a w) → if Region.wanted o (yielded ops a.tmps) = true then Oper.wp P o a w K' Q else K' (a.put o.dst undef) w)
  (hs : AllReadyH P md ops Q S fuel listed a w rs) : AllReadyH P md ops Q S fuel listed a w (i :: rs) := by
 obtain ⟨o, ho, h⟩ := h
 exact AllReadyH.cons ho h hs
/-- A store of a whole struct as a step. -/
theorem step_store {P : Program} {ops : Array Oper} {o : Oper} {a : Act} {w : World} {K : Act → World → Prop} {Q : Exit → Act → World → Prop} {E : Prop}
  (hgd : o.guard = none) (ty : TypeId) (x y : Operand) (ho : o.op = .store ty x y) (g : Nat) (cells : Array Value) (hx : a.eval x = .pointer (some ⟨g, 0, none⟩)) (hy : a.eval y = .agg cells)
  (t : TypeId) (old : Array Value) (hg : w.heap[g]? = some (.cells old t (0, 0))) (hi : (P.info? ty).map (·.size) = some cells.size)
  (hold : old.size = cells.size) (h1 : cells.all (·.oneCell') = true) (hK : K (a.put o.dst undef) (w.setRow g cells)) :
  if Region.wanted o (yielded ops a.tmps) = true then Oper.wp P o a w K Q else E := by
 have hw : Region.wanted o (yielded ops a.tmps) = true := by simp [Region.wanted, hgd]
 rw [if_pos hw]
 exact wp_store_row ty x y ho g cells hx hy t old hg hi hold h1 hK
theorem pcl_info : (Tryz.prog.info? 38).map (·.size) = some 12 := by kernel_rfl
theorem pcl_one (q : Pcl) : q.cells.all (·.oneCell') = true := by
 simp [Pcl.cells, Value.oneCell']
theorem enters71 : Enters 133 := fun args w => by kernel_rfl
theorem PclIs.at_ {w : World} {g : Nat} {q : Pcl} (h : PclIs w g q) : w.cell? ⟨g, 0, none⟩ = some (.int .i64 q.id) ∧ w.cell? ⟨g, 1, none⟩ = some (.int .i64 q.from_) ∧ w.cell? ⟨g, 2, none⟩ = some (.int .i64 q.into) ∧ w.cell? ⟨g, 3, none⟩ = some (.string q.mark) ∧ w.cell? ⟨g, 4, none⟩ = some (.string q.goods) ∧ w.cell? ⟨g, 5, none⟩ = some (.int .i64 q.lo) ∧ w.cell? ⟨g, 6, none⟩ = some (.int .i64 q.hi) ∧ w.cell? ⟨g, 7, none⟩ = some (.int .i64 q.finder) ∧ w.cell? ⟨g, 8, none⟩ = some (.int .i64 q.cell) ∧ w.cell? ⟨g, 9, none⟩ = some (.int .i64 q.hour) ∧ w.cell? ⟨g, 10, none⟩ = some (.bool q.found) ∧ w.cell? ⟨g, 11, none⟩ = some (.bool q.hidden) := by
 unfold PclIs at h
 simp [World.cell?, h, Pcl.cells]
theorem PclIs.loose {w : World} {g : Nat} {q : Pcl} (h : PclIs w g q) (i : Nat) : w.frozen? ⟨g, i, none⟩ = false := by
 unfold PclIs at h
 simp [World.frozen?, h]
theorem PclIs.below {w w' : World} {g : Nat} {q : Pcl} (h : PclIs w g q) (hb : Below w.heap.size w w') : PclIs w' g q :=
 (hb.block g (Array.getElem?_eq_some_iff.1 h).1).trans h
theorem PclIs.lt {w : World} {g : Nat} {q : Pcl} (h : PclIs w g q) : g < w.heap.size := (Array.getElem?_eq_some_iff.1 h).1
theorem pcl_gen2 {w w0 : World} {g B : Nat} {q : Pcl} {a b : ByteArray} {M : World → Prop} (hp : PclIs w g q) (hb : Below B w0 w) (hg : B ≤ g)
  (h : ∀ w5, PclIs w5 g { q with goods := a, mark := b } → Below B w0 w5 → M w5) : M ((w.setCell ⟨g, 4, none⟩ (.string a)).setCell ⟨g, 3, none⟩ (.string b)) :=
 h _ (block_set (block_set hp)) ((hb.setCell (p := ⟨g, 4, none⟩) hg _).setCell (p := ⟨g, 3, none⟩) hg _)
theorem load_pcl {ops : Array Oper} {rest : List Oper} {o : Oper} {a : Act} {w : World} {Q : Exit → Act → World → Prop} (hgd : o.guard = none) (x : Operand) (ho : o.op = .load 38 x)
  (g : Nat) (hx : a.eval x = .pointer (some ⟨g, 0, none⟩)) {q : Pcl} (hg : PclIs w g q)
  (h : wpList Tryz.prog ops Q rest (a.put o.dst q.val) w) : wpList Tryz.prog ops Q (o :: rest) a w :=
 wpList_load_row hgd _ x ho g hx _ q.cells (0, 0) _ hg Tryz.underlying38 rfl pcl_info h
theorem store_pcl {ops : Array Oper} {rest : List Oper} {o : Oper} {a : Act} {w : World} {Q : Exit → Act → World → Prop} (hgd : o.guard = none) (x y : Operand) (ho : o.op = .store 38 x y)
  (g : Nat) (hx : a.eval x = .pointer (some ⟨g, 0, none⟩)) {q : Pcl} (hy : a.eval y = q.val) {old : Pcl} (hg : PclIs w g old)
  (h : wpList Tryz.prog ops Q rest (a.put o.dst undef) (w.setRow g q.cells)) : wpList Tryz.prog ops Q (o :: rest) a w :=
 wpList_store_row hgd _ x y ho g q.cells hx hy _ old.cells hg pcl_info rfl (pcl_one q) h
theorem pcl_set {w : World} {g : Nat} {q old : Pcl} (hg : PclIs w g old) : PclIs (w.setRow g q.cells) g q := setRow_heap w g old.cells _ _ _ hg
theorem block_stays {β : Type} {B g : Nat} {f : β → Array Value} {t : TypeId} : OwnFrom B (fun (x : β) W => W.heap[g]? = some (.cells (f x) t (0, 0))) := fun x W W' row hs hg hr => by
 have hlt := (Array.getElem?_eq_some_iff.1 hs).1
 refine (hg.block g hlt ?_).trans hs
 intro e
 obtain ⟨_, o, ho, hc⟩ := hr g e.symm
 rw [hs] at ho
 cases ho
 cases hc
theorem pcl_span {W : World} {g : Nat} {q : Pcl} {lo hi a b : Int} (hp : PclIs W g q) (h1 : lo = a) (h2 : hi = b) : PclIs ((W.setCell ⟨g, 5, none⟩ (.int .i64 a)).setCell ⟨g, 6, none⟩ (.int .i64 b)) g { q with lo := lo, hi := hi } := by
 subst h1 h2
 exact block_set (block_set hp)
attribute [local go_sem] Oper.semAt_some
theorem enters59 : Enters 114 := fun args w => by kernel_rfl
set_option maxHeartbeats 16000000 in
theorem parcel_any {w : World} {s r1 r2 r3 : Nat} {A : Option Addr} {cap : Nat} {C : List Ent} (h : StoreIs w s r1 r2 r3 A C.length cap (makerE C) (userE C) (hidE C)) (hE : EntsAt w A C) (hs : Sound (reps C)) (hcl : C.length ≤ 210) (p : Int) (hm : MadeBy (reps C) C.length p) :
  Calls Tryz.prog 90 #[.pointer (some ⟨s, 0, none⟩), .int .i64 p] w fun e w' => e = .returned (parcelF C p).val ∧ Below w.heap.size w w' := by
 have hlk := h.maker.lookR p
 obtain ⟨⟨x, P, c⟩, hx⟩ : ∃ y, entOr (makerE C p) = y := ⟨_, rfl⟩
 rw [hx] at hlk
 have HS := hid h
 obtain ⟨bt, hbt⟩ : ∃ b, ((makerE C p).isSome && (userE C p).isNone) = b := ⟨_, rfl⟩
 have HM := hid hm
 have HSO := hid hs
 have HE := hid hE
 have HCL := hid hcl
 obtain ⟨W, hW⟩ : ∃ W, w.alloc (.cells #[.int .i64 0, .int .i64 0, .int .i64 0, .string { data := #[] }, .string { data := #[] }, .int .i64 0, .int .i64 0, .int .i64 0, .int .i64 0, .int .i64 0, .bool false, .bool false] 38) = W := ⟨_, rfl⟩
 have hbW : Below w.heap.size w W := by rw [← hW]; exact (Below.refl _ _).alloc (Nat.le_refl _) _
 have hlt : w.heap.size < W.heap.size := by rw [← hW]; simp
 have HBW := hid hbW
 have HSW := hid (h.below hbW)
 obtain ⟨s0, s1, s2, s3⟩ := HSW.out.cell
 have hlk := HSW.out.maker.lookR p
 rw [hx] at hlk
 obtain ⟨⟨u, Pu, cu⟩, hu⟩ : ∃ y, entOr (userE C p) = y := ⟨_, rfl⟩
 obtain ⟨bh, hbh⟩ : ∃ b, (hidE C p).getD false = b := ⟨_, rfl⟩
 have HU := hid hu
 have HBH := hid hbh
 have HBT := hid hbt
 clear hbW hu hbh hbt h s0 s2 s3
 refine callsIn_wide.1 (callsIn_of_wp_marks (F := Fence.wide) (n := 9) Tryz.func90 rfl trivial ?_ rfl)
 simp only [Tryz.ntmps90, List.size_toArray, List.length_cons, List.length_nil, Nat.reduceAdd, Nat.reduceSub, Array.replicate_succ, Array.replicate_zero, List.push_toArray, List.append_toArray, List.nil_append, List.cons_append]
 refine (wpIn_wide (n := 9)).2 ?_
 go_upto_region 2 with (refine store_rep_new rfl _ _ rfl rfl rfl rfl rfl ?_; intro W2 hbx2 hb2 hlt2; have HX2 := hid hbx2; have HB2 := hid hb2; clear hbx2 hb2)
 clear s1 hlk
 have hfu := field_id u Pu cu
 have hkeep : ∀ w', Below W2.heap.size W2 w' → (fun w' => w'.cell? ⟨W.heap.size, 0, none⟩ = some (.int .i64 x.id) ∧ w'.cell? ⟨W.heap.size, 2, none⟩ = some (.int .i64 x.hour) ∧ w'.cell? ⟨s, 2, none⟩ = some (.map (some r2)) ∧ w'.cell? ⟨s, 3, none⟩ = some (.map (some r3)) ∧ (Instr.lookup 82 (.map (some r2)) (.int .i64 p) false).run Tryz.prog w' = .ok (u.val Pu cu) w' ∧ (Instr.lookup 69 (.map (some r3)) (.int .i64 p) false).run Tryz.prog w' = .ok (.bool bh) w') w' := by
  intro w' hb
  obtain ⟨c0, c1, c2, _⟩ := (HX2.out.below hb).at_
  have hS := (HSW.out.below HB2.out).below hb
  obtain ⟨_, _, s2, s3⟩ := hS.cell
  have h1 := hS.user.lookR p
  have h2 := hS.hidden.look mapB_u (.bool false) (bool_zeroV _) p
  rw [orZ_bool, HBH.out] at h2
  rw [HU.out] at h1
  exact ⟨c0, c2, s2, s3, h1, h2⟩
 have HKEEP := hid hkeep
 have hth : ∀ V, Below W2.heap.size W2 V → Calls Tryz.prog 133 #[.pointer (some ⟨s, 0, none⟩), .int .i64 p] V fun e w' => e = .returned (.bool bt) ∧ Below W2.heap.size W2 w' ∧ Below V.heap.size V w' := fun V hV =>
  (there_t ((HSW.out.below HB2.out).below hV) p HBT.out).mono fun e w' h => ⟨h.1, hV.trans (h.2.mono hV.size), h.2⟩
 have hta : ∀ V, Below W2.heap.size W2 V → V.heap.size = W2.heap.size → Calls Tryz.prog 133 #[.pointer (some ⟨s, 0, none⟩), .int .i64 p] (V.alloc (.cells #[.int .i64 0, .int .i64 0, .int .i64 0, .string { data := #[] }, .string { data := #[] }, .int .i64 0, .int .i64 0, .int .i64 0, .int .i64 0, .int .i64 0, .bool false, .bool false] 38)) fun e w' => e = .returned (.bool bt) ∧ Below W2.heap.size W2 w' ∧ w'.heap[W2.heap.size]? = some (.cells #[.int .i64 0, .int .i64 0, .int .i64 0, .string { data := #[] }, .string { data := #[] }, .int .i64 0, .int .i64 0, .int .i64 0, .int .i64 0, .int .i64 0, .bool false, .bool false] 38 (0, 0)) := fun V hV hs =>
  (hth _ (hV.alloc hV.size _)).mono fun e w' h => ⟨h.1, h.2.1, (h.2.2.block W2.heap.size (by simp; omega)).trans (by rw [← hs]; exact heap_alloc_new V _)⟩
 have HTH := hid hth
 have HTA := hid hta
 go_frame
 go_cut [6] from 14 to 38 (fun s6 wx => ∃ g, s6 = .pointer (some ⟨g, 0, none⟩) ∧ W2.heap.size ≤ g ∧ Below W2.heap.size W2 wx ∧ PclIs wx g ⟨p, x.id, u.id, .empty, .empty, 1, 100000000, 0, 0, x.hour, false, bt && bh⟩)
 case first =>
  clear hkeep hth hta HBT HS hE hs hcl hx hW hlt hlt2 HBW HSW HU HBH HB2 HX2
  rcases bt with _ | _
  ·refine wp_region_noPanic ?_
   refine wp_region_held_drew (S := fun w' => w'.cell? ⟨W.heap.size, 0, none⟩ = some (.int .i64 x.id) ∧ w'.cell? ⟨W.heap.size, 2, none⟩ = some (.int .i64 x.hour) ∧ w'.cell? ⟨s, 2, none⟩ = some (.map (some r2)) ∧ w'.cell? ⟨s, 3, none⟩ = some (.map (some r3)) ∧ (Instr.lookup 82 (.map (some r2)) (.int .i64 p) false).run Tryz.prog w' = .ok (u.val Pu cu) w' ∧ (Instr.lookup 69 (.map (some r3)) (.int .i64 p) false).run Tryz.prog w' = .ok (.bool bh) w') (by kernel_rfl) (HKEEP.out _ (Below.refl _ _).drew) (fun hHeld => ?_)
   refine tk 0 (fun _ _ _ _ _ h => h) (by kernel_rfl) ‹_› ⟨_, ?_, by simp only [zz1, zz2]; rfl, .inl ⟨by rfl, ?_⟩, ?_⟩; rotate_left; · (intro w hSw; (try dsimp only at hSw); go_simp; all_goals with_reducible rfl)
   simp only [Act.put, zz4, zz5, zz6]
   refine tk 1 (fun _ _ _ _ _ h => h) (by kernel_rfl) ‹_› ⟨_, ?_, by simp only [zz1, zz2, zz3]; rfl, .inl ⟨by rfl, ?_⟩, ?_⟩; rotate_left; · (intro w hSw; (try dsimp only at hSw); go_simp; all_goals with_reducible rfl)
   simp only [Act.put, zz4, zz5, zz6]
   refine tk 2 (fun _ _ _ _ _ h => h) (by kernel_rfl) ‹_› ⟨_, ?_, by simp only [zz1, zz2, zz3]; rfl, .inl ⟨by rfl, ?_⟩, ?_⟩; rotate_left; · (intro w hSw; (try dsimp only at hSw); go_simp; all_goals with_reducible rfl)
   simp only [Act.put, zz4, zz5, zz6]
   refine tk 3 (fun _ _ _ _ _ h => h) (by kernel_rfl) ‹_› ⟨_, ?_, by simp only [zz1, zz2, zz3]; rfl, .inl ⟨by rfl, ?_⟩, ?_⟩; rotate_left; · (intro w hSw; (try dsimp only at hSw); go_simp; all_goals with_reducible rfl)
   simp only [Act.put, zz4, zz5, zz6]
   refine tk 4 (fun _ _ _ _ _ h => h) (by kernel_rfl) ‹_› ⟨_, ?_, by simp only [zz1, zz2, zz3]; rfl, .inl ⟨by rfl, ?_⟩, ?_⟩; rotate_left; · (intro w hSw; (try dsimp only at hSw); go_simp; all_goals with_reducible rfl)
   simp only [Act.put, zz4, zz5, zz6]
   refine tk 5 (fun _ _ _ _ _ h => h) (by kernel_rfl) ‹_› ⟨_, ?_, by simp only [zz1, zz2, zz3]; rfl, .inl ⟨by rfl, ?_⟩, ?_⟩; rotate_left; · (intro w hSw; (try dsimp only at hSw); go_simp; all_goals with_reducible rfl)
   simp only [Act.put, zz4, zz5, zz6]
   refine tk 6 (fun _ _ _ _ _ h => h) (by kernel_rfl) ‹_› ⟨_, ?_, by simp only [zz1, zz2, zz3]; rfl, .inl ⟨by rfl, ?_⟩, ?_⟩; rotate_left; · (intro w hSw; (try dsimp only at hSw); go_simp; all_goals with_reducible rfl)
   simp only [Act.put, zz4, zz5, zz6]
   refine tk 7 (fun _ _ _ _ _ h => h) (by kernel_rfl) ‹_› ⟨_, ?_, by simp only [zz1, zz2, zz3]; rfl, .inl ⟨by rfl, ?_⟩, ?_⟩; rotate_left; · (intro w hSw; (try dsimp only at hSw); go_simp; all_goals with_reducible rfl)
   simp only [Act.put, zz4, zz5, zz6]
   refine tk 8 (fun _ _ _ _ _ h => h) (by kernel_rfl) ‹_› ⟨_, ?_, by simp only [zz1, zz2, zz3]; rfl, .inl ⟨by rfl, ?_⟩, ?_⟩; rotate_left; · (intro w hSw; (try dsimp only at hSw); go_simp; all_goals with_reducible rfl)
   simp only [Act.put, zz4, zz5, zz6]
   refine tk 9 (fun _ _ _ _ _ h => h) (by kernel_rfl) ‹_› ⟨_, ?_, by simp only [zz1, zz2, zz3]; rfl, .inl ⟨by rfl, ?_⟩, ?_⟩; rotate_left; · (intro w hSw; (try dsimp only at hSw); go_simp; all_goals with_reducible rfl)
   simp only [Act.put, zz4, zz5, zz6]
   refine tk 10 (fun _ _ _ _ _ h => h) (by kernel_rfl) ‹_› ⟨_, ?_, by simp only [zz1, zz2, zz3]; rfl, .inl ⟨by rfl, ?_⟩, ?_⟩; rotate_left; · (intro w hSw; (try dsimp only at hSw); go_simp; all_goals with_reducible rfl)
   simp only [Act.put, zz4, zz5, zz6]
   refine tk 11 (fun _ _ _ _ _ h => h) (by kernel_rfl) ‹_› ⟨_, ?_, by simp only [zz1, zz2, zz3]; rfl, .inl ⟨by rfl, ?_⟩, ?_⟩; rotate_left; · (intro w hSw; (try dsimp only at hSw); go_simp; all_goals with_reducible rfl)
   simp only [Act.put, zz4, zz5, zz6]
   refine tk 12 (fun _ _ _ _ _ h => h) (by kernel_rfl) ‹_› ⟨_, ?_, by simp only [zz1, zz2, zz3]; rfl, .inl ⟨by rfl, ?_⟩, ?_⟩; rotate_left; · (intro w hSw; (try dsimp only at hSw); go_simp; all_goals with_reducible rfl)
   simp only [Act.put, zz4, zz5, zz6]
   refine tk 13 (fun _ _ _ _ _ h => h) (by kernel_rfl) ‹_› ⟨_, ?_, by simp only [zz1, zz2, zz3]; rfl, .inl ⟨by rfl, ?_⟩, ?_⟩; rotate_left; · (intro w hSw; (try dsimp only at hSw); go_simp; all_goals with_reducible rfl)
   simp only [Act.put, zz4, zz5, zz6]
   refine tk 23 (fun _ _ _ _ _ h => h) (by kernel_rfl) ‹_› ⟨_, ?_, by simp only [zz1, zz2, zz3]; rfl, .inl ⟨by rfl, ?_⟩, ?_⟩; rotate_left; · (intro w hSw; (try dsimp only at hSw); go_simp; all_goals with_reducible rfl)
   simp only [Act.put, zz4, zz5, zz6]
   refine wpAnyH_ready (rs := [14, 25]) (by kernel_rfl) (by simp) ?_
   refine cons_one (i := 14) ⟨_, by simp only [zz1, zz2, zz3]; rfl, fun K hK => ?_⟩ ?_
   ·refine step_call rfl #[.tmp 26, .tmp 27] 133 _ rfl enters71 #[.pointer (some ⟨s, 0, none⟩), .int .i64 p] ?hs (fun u w' => u = .bool false ∧ Below W2.heap.size W2 w') ((HTH.out _ (Below.refl _ W2).drew).mono (fun e w' h => ⟨_, h.1, rfl, h.2.1⟩)) ?_
    case hs => simp [Act.eval]
    rintro _ w3 ⟨rfl, hb3⟩
    have HB3 := hid hb3
    clear hb3
    clear hHeld
    refine hK.out _ _ (HKEEP.out _ (HB3.out)) (fun hHeld => ?_)
    clear hK K
    try simp only [Act.put, zz4, zz5, zz6]
    refine tk 15 (fun _ _ _ _ _ h => h) (by kernel_rfl) ‹_› ⟨_, ?_, by simp only [zz1, zz2, zz3]; rfl, .inl ⟨by rfl, ?_⟩, ?_⟩; rotate_left; · (intro w hSw; (try dsimp only at hSw); go_simp; all_goals with_reducible rfl)
    simp only [Act.put, zz4, zz5, zz6]
    refine tk 16 (fun _ _ _ _ _ h => h) (by kernel_rfl) ‹_› ⟨_, _, by simp only [zz1, zz2, zz3]; rfl, Or.inr ⟨by rfl, rfl⟩, ?_⟩
    simp only [Act.put, zz4, zz5, zz6]
    refine tk 17 (fun _ _ _ _ _ h => h) (by kernel_rfl) ‹_› ⟨_, _, by simp only [zz1, zz2, zz3]; rfl, Or.inr ⟨by rfl, rfl⟩, ?_⟩
    simp only [Act.put, zz4, zz5, zz6]
    refine tk 18 (fun _ _ _ _ _ h => h) (by kernel_rfl) ‹_› ⟨_, _, by simp only [zz1, zz2, zz3]; rfl, Or.inr ⟨by rfl, rfl⟩, ?_⟩
    simp only [Act.put, zz4, zz5, zz6]
    refine tk 19 (fun _ _ _ _ _ h => h) (by kernel_rfl) ‹_› ⟨_, _, by simp only [zz1, zz2, zz3]; rfl, Or.inr ⟨by rfl, rfl⟩, ?_⟩
    simp only [Act.put, zz4, zz5, zz6]
    refine tk 20 (fun _ _ _ _ _ h => h) (by kernel_rfl) ‹_› ⟨_, _, by simp only [zz1, zz2, zz3]; rfl, Or.inr ⟨by rfl, rfl⟩, ?_⟩
    simp only [Act.put, zz4, zz5, zz6]
    refine tk 21 (fun _ _ _ _ _ h => h) (by kernel_rfl) ‹_› ⟨_, _, by simp only [zz1, zz2, zz3]; rfl, Or.inr ⟨by rfl, rfl⟩, ?_⟩
    simp only [Act.put, zz4, zz5, zz6]
    refine tk 22 (fun _ _ _ _ _ h => h) (by kernel_rfl) ‹_› ⟨_, ?_, by simp only [zz1, zz2, zz3]; rfl, .inl ⟨by rfl, ?_⟩, ?_⟩; rotate_left; · (intro w hSw; (try dsimp only at hSw); go_simp; all_goals with_reducible rfl)
    simp only [Act.put, zz4, zz5, zz6]
    refine tk 24 (fun _ _ _ _ _ h => h) (by kernel_rfl) ‹_› ⟨_, ?_, by simp only [zz1, zz2, zz3]; rfl, .inl ⟨by rfl, ?_⟩, ?_⟩; rotate_left; · (intro w hSw; (try dsimp only at hSw); go_simp; all_goals with_reducible rfl)
    simp only [Act.put, zz4, zz5, zz6]
    refine wpAnyH_ready (rs := [25]) (by kernel_rfl) (by simp) ?_
    refine cons_one (i := 25) ⟨_, by simp only [zz1, zz2, zz3]; rfl, fun K hK => ?_⟩ ?_
    ·go_simp
     clear hHeld
     refine hK.out _ _ (HKEEP.out _ (HB3.out.alloc HB3.out.size (.cells #[.int .i64 0, .int .i64 0, .int .i64 0, .string { data := #[] }, .string { data := #[] }, .int .i64 0, .int .i64 0, .int .i64 0, .int .i64 0, .int .i64 0, .bool false, .bool false] 38))) (fun hHeld => ?_)
     clear hK K
     try simp only [Act.put, zz4, zz5, zz6]
     refine wpAnyH_ready (rs := [26]) (by kernel_rfl) (by simp) ?_
     refine cons_one (i := 26) ⟨_, by simp only [zz1, zz2, zz3]; rfl, fun K hK => ?_⟩ ?_
     ·refine step_store rfl 38 (.tmp 6) (.tmp 38) rfl (w3.heap.size) (Pcl.cells ⟨p, x.id, u.id, .empty, .empty, 1, 100000000, 0, 0, x.hour, false, false && bh⟩) rfl rfl 38 _ (heap_alloc_new _ _) pcl_info rfl (pcl_one _) ?_
      have hbz := below_setRow (HB3.out.alloc HB3.out.size (.cells #[.int .i64 0, .int .i64 0, .int .i64 0, .string { data := #[] }, .string { data := #[] }, .int .i64 0, .int .i64 0, .int .i64 0, .int .i64 0, .int .i64 0, .bool false, .bool false] 38)) HB3.out.size (Pcl.cells ⟨p, x.id, u.id, .empty, .empty, 1, 100000000, 0, 0, x.hour, false, false && bh⟩)
      clear hHeld
      refine hK.out _ _ (HKEEP.out _ hbz) (fun hHeld => ?_)
      clear hK K
      try simp only [Act.put]
      refine wpAnyH_done (by kernel_rfl) ?_ _
      refine NoPanic.normal ?_
      go_wp2_with fail
      go_meet
      case rel => exact ⟨_, rfl, HB3.out.size, hbz, setRow_heap _ _ _ _ _ _ (heap_alloc_new _ _)⟩
     exact AllReadyH.nil
    exact AllReadyH.nil
   refine cons_one (i := 25) ⟨_, by simp only [zz1, zz2, zz3]; rfl, fun K hK => ?_⟩ ?_
   ·go_simp
    clear hHeld
    refine hK.out _ _ (HKEEP.out _ ((Below.refl _ W2).drew.alloc (Nat.le_refl _) (.cells #[.int .i64 0, .int .i64 0, .int .i64 0, .string { data := #[] }, .string { data := #[] }, .int .i64 0, .int .i64 0, .int .i64 0, .int .i64 0, .int .i64 0, .bool false, .bool false] 38))) (fun hHeld => ?_)
    clear hK K
    try simp only [Act.put, zz4, zz5, zz6]
    refine wpAnyH_ready (rs := [14]) (by kernel_rfl) (by simp) ?_
    refine cons_one (i := 14) ⟨_, by simp only [zz1, zz2, zz3]; rfl, fun K hK => ?_⟩ ?_
    ·refine step_call rfl #[.tmp 26, .tmp 27] 133 _ rfl enters71 #[.pointer (some ⟨s, 0, none⟩), .int .i64 p] ?hs (fun u w' => u = .bool false ∧ Below W2.heap.size W2 w' ∧ w'.heap[W2.heap.size]? = some (.cells #[.int .i64 0, .int .i64 0, .int .i64 0, .string { data := #[] }, .string { data := #[] }, .int .i64 0, .int .i64 0, .int .i64 0, .int .i64 0, .int .i64 0, .bool false, .bool false] 38 (0, 0))) ((HTA.out _ (Below.refl _ W2).drew rfl).mono (fun e w' h => ⟨_, h.1, rfl, h.2⟩)) ?_
     case hs => simp [Act.eval]
     rintro _ w3 ⟨rfl, hb3, hz3⟩
     have HB3 := hid hb3
     have HZ3 := hid hz3
     clear hb3 hz3
     clear hHeld
     refine hK.out _ _ (HKEEP.out _ (HB3.out)) (fun hHeld => ?_)
     clear hK K
     try simp only [Act.put, zz4, zz5, zz6]
     refine tk 15 (fun _ _ _ _ _ h => h) (by kernel_rfl) ‹_› ⟨_, ?_, by simp only [zz1, zz2, zz3]; rfl, .inl ⟨by rfl, ?_⟩, ?_⟩; rotate_left; · (intro w hSw; (try dsimp only at hSw); go_simp; all_goals with_reducible rfl)
     simp only [Act.put, zz4, zz5, zz6]
     refine tk 16 (fun _ _ _ _ _ h => h) (by kernel_rfl) ‹_› ⟨_, _, by simp only [zz1, zz2, zz3]; rfl, Or.inr ⟨by rfl, rfl⟩, ?_⟩
     simp only [Act.put, zz4, zz5, zz6]
     refine tk 17 (fun _ _ _ _ _ h => h) (by kernel_rfl) ‹_› ⟨_, _, by simp only [zz1, zz2, zz3]; rfl, Or.inr ⟨by rfl, rfl⟩, ?_⟩
     simp only [Act.put, zz4, zz5, zz6]
     refine tk 18 (fun _ _ _ _ _ h => h) (by kernel_rfl) ‹_› ⟨_, _, by simp only [zz1, zz2, zz3]; rfl, Or.inr ⟨by rfl, rfl⟩, ?_⟩
     simp only [Act.put, zz4, zz5, zz6]
     refine tk 19 (fun _ _ _ _ _ h => h) (by kernel_rfl) ‹_› ⟨_, _, by simp only [zz1, zz2, zz3]; rfl, Or.inr ⟨by rfl, rfl⟩, ?_⟩
     simp only [Act.put, zz4, zz5, zz6]
     refine tk 20 (fun _ _ _ _ _ h => h) (by kernel_rfl) ‹_› ⟨_, _, by simp only [zz1, zz2, zz3]; rfl, Or.inr ⟨by rfl, rfl⟩, ?_⟩
     simp only [Act.put, zz4, zz5, zz6]
     refine tk 21 (fun _ _ _ _ _ h => h) (by kernel_rfl) ‹_› ⟨_, _, by simp only [zz1, zz2, zz3]; rfl, Or.inr ⟨by rfl, rfl⟩, ?_⟩
     simp only [Act.put, zz4, zz5, zz6]
     refine tk 22 (fun _ _ _ _ _ h => h) (by kernel_rfl) ‹_› ⟨_, ?_, by simp only [zz1, zz2, zz3]; rfl, .inl ⟨by rfl, ?_⟩, ?_⟩; rotate_left; · (intro w hSw; (try dsimp only at hSw); go_simp; all_goals with_reducible rfl)
     simp only [Act.put, zz4, zz5, zz6]
     refine tk 24 (fun _ _ _ _ _ h => h) (by kernel_rfl) ‹_› ⟨_, ?_, by simp only [zz1, zz2, zz3]; rfl, .inl ⟨by rfl, ?_⟩, ?_⟩; rotate_left; · (intro w hSw; (try dsimp only at hSw); go_simp; all_goals with_reducible rfl)
     simp only [Act.put, zz4, zz5, zz6]
     refine wpAnyH_ready (rs := [26]) (by kernel_rfl) (by simp) ?_
     refine cons_one (i := 26) ⟨_, by simp only [zz1, zz2, zz3]; rfl, fun K hK => ?_⟩ ?_
     ·refine step_store rfl 38 (.tmp 6) (.tmp 38) rfl (W2.heap.size) (Pcl.cells ⟨p, x.id, u.id, .empty, .empty, 1, 100000000, 0, 0, x.hour, false, false && bh⟩) rfl rfl 38 _ (HZ3.out) pcl_info rfl (pcl_one _) ?_
      have hbz := below_setRow HB3.out (Nat.le_refl _) (Pcl.cells ⟨p, x.id, u.id, .empty, .empty, 1, 100000000, 0, 0, x.hour, false, false && bh⟩)
      clear hHeld
      refine hK.out _ _ (HKEEP.out _ hbz) (fun hHeld => ?_)
      clear hK K
      try simp only [Act.put]
      refine wpAnyH_done (by kernel_rfl) ?_ _
      refine NoPanic.normal ?_
      go_wp2_with fail
      go_meet
      case rel => exact ⟨_, rfl, Nat.le_refl _, hbz, setRow_heap _ _ _ _ _ _ (HZ3.out)⟩
     exact AllReadyH.nil
    exact AllReadyH.nil
   exact AllReadyH.nil
  ·refine wp_region_noPanic ?_
   refine wp_region_held_drew (S := fun w' => w'.cell? ⟨W.heap.size, 0, none⟩ = some (.int .i64 x.id) ∧ w'.cell? ⟨W.heap.size, 2, none⟩ = some (.int .i64 x.hour) ∧ w'.cell? ⟨s, 2, none⟩ = some (.map (some r2)) ∧ w'.cell? ⟨s, 3, none⟩ = some (.map (some r3)) ∧ (Instr.lookup 82 (.map (some r2)) (.int .i64 p) false).run Tryz.prog w' = .ok (u.val Pu cu) w' ∧ (Instr.lookup 69 (.map (some r3)) (.int .i64 p) false).run Tryz.prog w' = .ok (.bool bh) w') (by kernel_rfl) (HKEEP.out _ (Below.refl _ _).drew) (fun hHeld => ?_)
   refine tk 0 (fun _ _ _ _ _ h => h) (by kernel_rfl) ‹_› ⟨_, ?_, by simp only [zz1, zz2]; rfl, .inl ⟨by rfl, ?_⟩, ?_⟩; rotate_left; · (intro w hSw; (try dsimp only at hSw); go_simp; all_goals with_reducible rfl)
   simp only [Act.put, zz4, zz5, zz6]
   refine tk 1 (fun _ _ _ _ _ h => h) (by kernel_rfl) ‹_› ⟨_, ?_, by simp only [zz1, zz2, zz3]; rfl, .inl ⟨by rfl, ?_⟩, ?_⟩; rotate_left; · (intro w hSw; (try dsimp only at hSw); go_simp; all_goals with_reducible rfl)
   simp only [Act.put, zz4, zz5, zz6]
   refine tk 2 (fun _ _ _ _ _ h => h) (by kernel_rfl) ‹_› ⟨_, ?_, by simp only [zz1, zz2, zz3]; rfl, .inl ⟨by rfl, ?_⟩, ?_⟩; rotate_left; · (intro w hSw; (try dsimp only at hSw); go_simp; all_goals with_reducible rfl)
   simp only [Act.put, zz4, zz5, zz6]
   refine tk 3 (fun _ _ _ _ _ h => h) (by kernel_rfl) ‹_› ⟨_, ?_, by simp only [zz1, zz2, zz3]; rfl, .inl ⟨by rfl, ?_⟩, ?_⟩; rotate_left; · (intro w hSw; (try dsimp only at hSw); go_simp; all_goals with_reducible rfl)
   simp only [Act.put, zz4, zz5, zz6]
   refine tk 4 (fun _ _ _ _ _ h => h) (by kernel_rfl) ‹_› ⟨_, ?_, by simp only [zz1, zz2, zz3]; rfl, .inl ⟨by rfl, ?_⟩, ?_⟩; rotate_left; · (intro w hSw; (try dsimp only at hSw); go_simp; all_goals with_reducible rfl)
   simp only [Act.put, zz4, zz5, zz6]
   refine tk 5 (fun _ _ _ _ _ h => h) (by kernel_rfl) ‹_› ⟨_, ?_, by simp only [zz1, zz2, zz3]; rfl, .inl ⟨by rfl, ?_⟩, ?_⟩; rotate_left; · (intro w hSw; (try dsimp only at hSw); go_simp; all_goals with_reducible rfl)
   simp only [Act.put, zz4, zz5, zz6]
   refine tk 6 (fun _ _ _ _ _ h => h) (by kernel_rfl) ‹_› ⟨_, ?_, by simp only [zz1, zz2, zz3]; rfl, .inl ⟨by rfl, ?_⟩, ?_⟩; rotate_left; · (intro w hSw; (try dsimp only at hSw); go_simp; all_goals with_reducible rfl)
   simp only [Act.put, zz4, zz5, zz6]
   refine tk 7 (fun _ _ _ _ _ h => h) (by kernel_rfl) ‹_› ⟨_, ?_, by simp only [zz1, zz2, zz3]; rfl, .inl ⟨by rfl, ?_⟩, ?_⟩; rotate_left; · (intro w hSw; (try dsimp only at hSw); go_simp; all_goals with_reducible rfl)
   simp only [Act.put, zz4, zz5, zz6]
   refine tk 8 (fun _ _ _ _ _ h => h) (by kernel_rfl) ‹_› ⟨_, ?_, by simp only [zz1, zz2, zz3]; rfl, .inl ⟨by rfl, ?_⟩, ?_⟩; rotate_left; · (intro w hSw; (try dsimp only at hSw); go_simp; all_goals with_reducible rfl)
   simp only [Act.put, zz4, zz5, zz6]
   refine tk 9 (fun _ _ _ _ _ h => h) (by kernel_rfl) ‹_› ⟨_, ?_, by simp only [zz1, zz2, zz3]; rfl, .inl ⟨by rfl, ?_⟩, ?_⟩; rotate_left; · (intro w hSw; (try dsimp only at hSw); go_simp; all_goals with_reducible rfl)
   simp only [Act.put, zz4, zz5, zz6]
   refine tk 10 (fun _ _ _ _ _ h => h) (by kernel_rfl) ‹_› ⟨_, ?_, by simp only [zz1, zz2, zz3]; rfl, .inl ⟨by rfl, ?_⟩, ?_⟩; rotate_left; · (intro w hSw; (try dsimp only at hSw); go_simp; all_goals with_reducible rfl)
   simp only [Act.put, zz4, zz5, zz6]
   refine tk 11 (fun _ _ _ _ _ h => h) (by kernel_rfl) ‹_› ⟨_, ?_, by simp only [zz1, zz2, zz3]; rfl, .inl ⟨by rfl, ?_⟩, ?_⟩; rotate_left; · (intro w hSw; (try dsimp only at hSw); go_simp; all_goals with_reducible rfl)
   simp only [Act.put, zz4, zz5, zz6]
   refine tk 12 (fun _ _ _ _ _ h => h) (by kernel_rfl) ‹_› ⟨_, ?_, by simp only [zz1, zz2, zz3]; rfl, .inl ⟨by rfl, ?_⟩, ?_⟩; rotate_left; · (intro w hSw; (try dsimp only at hSw); go_simp; all_goals with_reducible rfl)
   simp only [Act.put, zz4, zz5, zz6]
   refine tk 13 (fun _ _ _ _ _ h => h) (by kernel_rfl) ‹_› ⟨_, ?_, by simp only [zz1, zz2, zz3]; rfl, .inl ⟨by rfl, ?_⟩, ?_⟩; rotate_left; · (intro w hSw; (try dsimp only at hSw); go_simp; all_goals with_reducible rfl)
   simp only [Act.put, zz4, zz5, zz6]
   refine tk 23 (fun _ _ _ _ _ h => h) (by kernel_rfl) ‹_› ⟨_, ?_, by simp only [zz1, zz2, zz3]; rfl, .inl ⟨by rfl, ?_⟩, ?_⟩; rotate_left; · (intro w hSw; (try dsimp only at hSw); go_simp; all_goals with_reducible rfl)
   simp only [Act.put, zz4, zz5, zz6]
   refine wpAnyH_ready (rs := [14, 25]) (by kernel_rfl) (by simp) ?_
   refine cons_one (i := 14) ⟨_, by simp only [zz1, zz2, zz3]; rfl, fun K hK => ?_⟩ ?_
   ·refine step_call rfl #[.tmp 26, .tmp 27] 133 _ rfl enters71 #[.pointer (some ⟨s, 0, none⟩), .int .i64 p] ?hs (fun u w' => u = .bool true ∧ Below W2.heap.size W2 w') ((HTH.out _ (Below.refl _ W2).drew).mono (fun e w' h => ⟨_, h.1, rfl, h.2.1⟩)) ?_
    case hs => simp [Act.eval]
    rintro _ w3 ⟨rfl, hb3⟩
    have HB3 := hid hb3
    clear hb3
    clear hHeld
    refine hK.out _ _ (HKEEP.out _ (HB3.out)) (fun hHeld => ?_)
    clear hK K
    try simp only [Act.put, zz4, zz5, zz6]
    refine tk 15 (fun _ _ _ _ _ h => h) (by kernel_rfl) ‹_› ⟨_, ?_, by simp only [zz1, zz2, zz3]; rfl, .inl ⟨by rfl, ?_⟩, ?_⟩; rotate_left; · (intro w hSw; (try dsimp only at hSw); go_simp; all_goals with_reducible rfl)
    simp only [Act.put, zz4, zz5, zz6]
    refine tk 16 (fun _ _ _ _ _ h => h) (by kernel_rfl) ‹_› ⟨_, ?_, by simp only [zz1, zz2, zz3]; rfl, .inl ⟨by rfl, ?_⟩, ?_⟩; rotate_left; · (intro w hSw; (try dsimp only at hSw); go_simp; all_goals with_reducible rfl)
    simp only [Act.put, zz4, zz5, zz6]
    refine tk 17 (fun _ _ _ _ _ h => h) (by kernel_rfl) ‹_› ⟨_, ?_, by simp only [zz1, zz2, zz3]; rfl, .inl ⟨by rfl, ?_⟩, ?_⟩; rotate_left; · (intro w hSw; (try dsimp only at hSw); go_simp; all_goals with_reducible rfl)
    simp only [Act.put, zz4, zz5, zz6]
    refine tk 18 (fun _ _ _ _ _ h => h) (by kernel_rfl) ‹_› ⟨_, ?_, by simp only [zz1, zz2, zz3]; rfl, .inl ⟨by rfl, ?_⟩, ?_⟩; rotate_left; · (intro w hSw; (try dsimp only at hSw); go_simp; all_goals with_reducible rfl)
    simp only [Act.put, zz4, zz5, zz6]
    refine tk 19 (fun _ _ _ _ _ h => h) (by kernel_rfl) ‹_› ⟨_, ?_, by simp only [zz1, zz2, zz3]; rfl, .inl ⟨by rfl, ?_⟩, ?_⟩; rotate_left; · (intro w hSw; (try dsimp only at hSw); go_simp; all_goals with_reducible rfl)
    simp only [Act.put, zz4, zz5, zz6]
    refine tk 20 (fun _ _ _ _ _ h => h) (by kernel_rfl) ‹_› ⟨_, ?_, by simp only [zz1, zz2, zz3]; rfl, .inl ⟨by rfl, ?_⟩, ?_⟩; rotate_left; · (intro w hSw; (try dsimp only at hSw); go_simp; all_goals with_reducible rfl)
    simp only [Act.put, zz4, zz5, zz6]
    refine tk 21 (fun _ _ _ _ _ h => h) (by kernel_rfl) ‹_› ⟨_, ?_, by simp only [zz1, zz2, zz3]; rfl, .inl ⟨by rfl, ?_⟩, ?_⟩; rotate_left; · (intro w hSw; (try dsimp only at hSw); go_simp; all_goals with_reducible rfl)
    simp only [Act.put, zz4, zz5, zz6]
    refine tk 22 (fun _ _ _ _ _ h => h) (by kernel_rfl) ‹_› ⟨_, ?_, by simp only [zz1, zz2, zz3]; rfl, .inl ⟨by rfl, ?_⟩, ?_⟩; rotate_left; · (intro w hSw; (try dsimp only at hSw); go_simp; all_goals with_reducible rfl)
    simp only [Act.put, zz4, zz5, zz6]
    refine tk 24 (fun _ _ _ _ _ h => h) (by kernel_rfl) ‹_› ⟨_, ?_, by simp only [zz1, zz2, zz3]; rfl, .inl ⟨by rfl, ?_⟩, ?_⟩; rotate_left; · (intro w hSw; (try dsimp only at hSw); go_simp; all_goals with_reducible rfl)
    simp only [Act.put, zz4, zz5, zz6]
    refine wpAnyH_ready (rs := [25]) (by kernel_rfl) (by simp) ?_
    refine cons_one (i := 25) ⟨_, by simp only [zz1, zz2, zz3]; rfl, fun K hK => ?_⟩ ?_
    ·go_simp
     clear hHeld
     refine hK.out _ _ (HKEEP.out _ (HB3.out.alloc HB3.out.size (.cells #[.int .i64 0, .int .i64 0, .int .i64 0, .string { data := #[] }, .string { data := #[] }, .int .i64 0, .int .i64 0, .int .i64 0, .int .i64 0, .int .i64 0, .bool false, .bool false] 38))) (fun hHeld => ?_)
     clear hK K
     try simp only [Act.put, zz4, zz5, zz6]
     refine wpAnyH_ready (rs := [26]) (by kernel_rfl) (by simp) ?_
     refine cons_one (i := 26) ⟨_, by simp only [zz1, zz2, zz3]; rfl, fun K hK => ?_⟩ ?_
     ·refine step_store rfl 38 (.tmp 6) (.tmp 38) rfl (w3.heap.size) (Pcl.cells ⟨p, x.id, u.id, .empty, .empty, 1, 100000000, 0, 0, x.hour, false, true && bh⟩) rfl rfl 38 _ (heap_alloc_new _ _) pcl_info rfl (pcl_one _) ?_
      have hbz := below_setRow (HB3.out.alloc HB3.out.size (.cells #[.int .i64 0, .int .i64 0, .int .i64 0, .string { data := #[] }, .string { data := #[] }, .int .i64 0, .int .i64 0, .int .i64 0, .int .i64 0, .int .i64 0, .bool false, .bool false] 38)) HB3.out.size (Pcl.cells ⟨p, x.id, u.id, .empty, .empty, 1, 100000000, 0, 0, x.hour, false, true && bh⟩)
      clear hHeld
      refine hK.out _ _ (HKEEP.out _ hbz) (fun hHeld => ?_)
      clear hK K
      try simp only [Act.put]
      refine wpAnyH_done (by kernel_rfl) ?_ _
      refine NoPanic.normal ?_
      go_wp2_with fail
      go_meet
      case rel => exact ⟨_, rfl, HB3.out.size, hbz, setRow_heap _ _ _ _ _ _ (heap_alloc_new _ _)⟩
     exact AllReadyH.nil
    exact AllReadyH.nil
   refine cons_one (i := 25) ⟨_, by simp only [zz1, zz2, zz3]; rfl, fun K hK => ?_⟩ ?_
   ·go_simp
    clear hHeld
    refine hK.out _ _ (HKEEP.out _ ((Below.refl _ W2).drew.alloc (Nat.le_refl _) (.cells #[.int .i64 0, .int .i64 0, .int .i64 0, .string { data := #[] }, .string { data := #[] }, .int .i64 0, .int .i64 0, .int .i64 0, .int .i64 0, .int .i64 0, .bool false, .bool false] 38))) (fun hHeld => ?_)
    clear hK K
    try simp only [Act.put, zz4, zz5, zz6]
    refine wpAnyH_ready (rs := [14]) (by kernel_rfl) (by simp) ?_
    refine cons_one (i := 14) ⟨_, by simp only [zz1, zz2, zz3]; rfl, fun K hK => ?_⟩ ?_
    ·refine step_call rfl #[.tmp 26, .tmp 27] 133 _ rfl enters71 #[.pointer (some ⟨s, 0, none⟩), .int .i64 p] ?hs (fun u w' => u = .bool true ∧ Below W2.heap.size W2 w' ∧ w'.heap[W2.heap.size]? = some (.cells #[.int .i64 0, .int .i64 0, .int .i64 0, .string { data := #[] }, .string { data := #[] }, .int .i64 0, .int .i64 0, .int .i64 0, .int .i64 0, .int .i64 0, .bool false, .bool false] 38 (0, 0))) ((HTA.out _ (Below.refl _ W2).drew rfl).mono (fun e w' h => ⟨_, h.1, rfl, h.2⟩)) ?_
     case hs => simp [Act.eval]
     rintro _ w3 ⟨rfl, hb3, hz3⟩
     have HB3 := hid hb3
     have HZ3 := hid hz3
     clear hb3 hz3
     clear hHeld
     refine hK.out _ _ (HKEEP.out _ (HB3.out)) (fun hHeld => ?_)
     clear hK K
     try simp only [Act.put, zz4, zz5, zz6]
     refine tk 15 (fun _ _ _ _ _ h => h) (by kernel_rfl) ‹_› ⟨_, ?_, by simp only [zz1, zz2, zz3]; rfl, .inl ⟨by rfl, ?_⟩, ?_⟩; rotate_left; · (intro w hSw; (try dsimp only at hSw); go_simp; all_goals with_reducible rfl)
     simp only [Act.put, zz4, zz5, zz6]
     refine tk 16 (fun _ _ _ _ _ h => h) (by kernel_rfl) ‹_› ⟨_, ?_, by simp only [zz1, zz2, zz3]; rfl, .inl ⟨by rfl, ?_⟩, ?_⟩; rotate_left; · (intro w hSw; (try dsimp only at hSw); go_simp; all_goals with_reducible rfl)
     simp only [Act.put, zz4, zz5, zz6]
     refine tk 17 (fun _ _ _ _ _ h => h) (by kernel_rfl) ‹_› ⟨_, ?_, by simp only [zz1, zz2, zz3]; rfl, .inl ⟨by rfl, ?_⟩, ?_⟩; rotate_left; · (intro w hSw; (try dsimp only at hSw); go_simp; all_goals with_reducible rfl)
     simp only [Act.put, zz4, zz5, zz6]
     refine tk 18 (fun _ _ _ _ _ h => h) (by kernel_rfl) ‹_› ⟨_, ?_, by simp only [zz1, zz2, zz3]; rfl, .inl ⟨by rfl, ?_⟩, ?_⟩; rotate_left; · (intro w hSw; (try dsimp only at hSw); go_simp; all_goals with_reducible rfl)
     simp only [Act.put, zz4, zz5, zz6]
     refine tk 19 (fun _ _ _ _ _ h => h) (by kernel_rfl) ‹_› ⟨_, ?_, by simp only [zz1, zz2, zz3]; rfl, .inl ⟨by rfl, ?_⟩, ?_⟩; rotate_left; · (intro w hSw; (try dsimp only at hSw); go_simp; all_goals with_reducible rfl)
     simp only [Act.put, zz4, zz5, zz6]
     refine tk 20 (fun _ _ _ _ _ h => h) (by kernel_rfl) ‹_› ⟨_, ?_, by simp only [zz1, zz2, zz3]; rfl, .inl ⟨by rfl, ?_⟩, ?_⟩; rotate_left; · (intro w hSw; (try dsimp only at hSw); go_simp; all_goals with_reducible rfl)
     simp only [Act.put, zz4, zz5, zz6]
     refine tk 21 (fun _ _ _ _ _ h => h) (by kernel_rfl) ‹_› ⟨_, ?_, by simp only [zz1, zz2, zz3]; rfl, .inl ⟨by rfl, ?_⟩, ?_⟩; rotate_left; · (intro w hSw; (try dsimp only at hSw); go_simp; all_goals with_reducible rfl)
     simp only [Act.put, zz4, zz5, zz6]
     refine tk 22 (fun _ _ _ _ _ h => h) (by kernel_rfl) ‹_› ⟨_, ?_, by simp only [zz1, zz2, zz3]; rfl, .inl ⟨by rfl, ?_⟩, ?_⟩; rotate_left; · (intro w hSw; (try dsimp only at hSw); go_simp; all_goals with_reducible rfl)
     simp only [Act.put, zz4, zz5, zz6]
     refine tk 24 (fun _ _ _ _ _ h => h) (by kernel_rfl) ‹_› ⟨_, ?_, by simp only [zz1, zz2, zz3]; rfl, .inl ⟨by rfl, ?_⟩, ?_⟩; rotate_left; · (intro w hSw; (try dsimp only at hSw); go_simp; all_goals with_reducible rfl)
     simp only [Act.put, zz4, zz5, zz6]
     refine wpAnyH_ready (rs := [26]) (by kernel_rfl) (by simp) ?_
     refine cons_one (i := 26) ⟨_, by simp only [zz1, zz2, zz3]; rfl, fun K hK => ?_⟩ ?_
     ·refine step_store rfl 38 (.tmp 6) (.tmp 38) rfl (W2.heap.size) (Pcl.cells ⟨p, x.id, u.id, .empty, .empty, 1, 100000000, 0, 0, x.hour, false, true && bh⟩) rfl rfl 38 _ (HZ3.out) pcl_info rfl (pcl_one _) ?_
      have hbz := below_setRow HB3.out (Nat.le_refl _) (Pcl.cells ⟨p, x.id, u.id, .empty, .empty, 1, 100000000, 0, 0, x.hour, false, true && bh⟩)
      clear hHeld
      refine hK.out _ _ (HKEEP.out _ hbz) (fun hHeld => ?_)
      clear hK K
      try simp only [Act.put]
      refine wpAnyH_done (by kernel_rfl) ?_ _
      refine NoPanic.normal ?_
      go_wp2_with fail
      go_meet
      case rel => exact ⟨_, rfl, Nat.le_refl _, hbz, setRow_heap _ _ _ _ _ _ (HZ3.out)⟩
     exact AllReadyH.nil
    exact AllReadyH.nil
   exact AllReadyH.nil
 case rest =>
  obtain ⟨g, rfl, hg, hbc, hpc⟩ := hcut
  have HR0 : Hid (PclIs W w.heap.size ⟨0, 0, 0, .empty, .empty, 0, 0, 0, 0, 0, false, false⟩) := hid (by rw [← hW]; exact heap_alloc_new w _)
  have HBC := hid (HBW.out.trans ((HB2.out.trans (hbc.mono HB2.out.size)).mono HBW.out.size))
  have HSC := hid ((HSW.out.below HB2.out).below hbc)
  have HXC := hid (HX2.out.below hbc)
  have HPC := hid hpc
  have HBCC := hid hbc
  have HEC := hid (((HE.out.below HBW.out).below HB2.out).below hbc)
  have HD := hid (described_any C HSO.out s r1 r2 r3 A C.length cap (userE C) (hidE C) C.length p wc HSC.out HEC.out.parts HM.out)
  clear hpc hbc hE hs hcl hm
  go_upto_region 4 with (first | (go_at_call 134; refine HD.out.mono ?_; rintro e w4 ⟨rfl, hb4⟩; have hp4 := HPC.out.below hb4; obtain ⟨_, _, _, q3, q4, _⟩ := hp4.at_; have f3 := hp4.loose 3; have f4 := hp4.loose 4; have HP4 := hid hp4; have HB4 := hid (HBCC.out.trans (hb4.mono HBCC.out.size)); clear hp4 hb4))
  refine pcl_gen2 HP4.out HB4.out hg ?_
  clear q3 q4 f3 f4
  intro w5 hp5 hb5
  obtain ⟨G0, hG⟩ : ∃ b, (describeF (reps C) C.length p).1 = b := ⟨_, rfl⟩
  obtain ⟨M0, hM⟩ : ∃ b, (describeF (reps C) C.length p).2 = b := ⟨_, rfl⟩
  rw [hG, hM] at hp5
  have HG := hid hG
  have HMK := hid hM
  clear hG hM
  rw [HG.out, HMK.out]
  have hp5 : PclIs w5 g ⟨p, x.id, u.id, M0, G0, 1, 100000000, 0, 0, x.hour, false, bt && bh⟩ := hp5
  have HP5 := hid hp5
  have HB5 := hid hb5
  have hx5 := HX2.out.below hb5
  obtain ⟨_, _, _, x3, _, _, _, x7, _, _, _, _, x12, _, _⟩ := hx5.at_
  obtain ⟨_, _, _, _, _, _, _, q7, q8, q9, q10, _⟩ := hp5.at_
  have f7 := hp5.loose 7
  have f8 := hp5.loose 8
  have f10 := hp5.loose 10
  have HX5 := hid hx5
  clear hp5 hb5 hx5
  go_upto_if 49 with (fail)
  go_cut [] from 47 to 56 (fun wx => Below W2.heap.size W2 wx ∧ PclIs wx g ⟨p, x.id, u.id, M0, G0, 1, 100000000, if x.kind = 1 then x.party else 0, if x.kind = 1 then x.cell else 0, x.hour, decide (x.kind = 1), bt && bh⟩)
  case first =>
   clear hkeep hth hta HKEEP HTH HTA HSC HXC HBC HEC HD HPC HP4 HB4 HBCC HS HE hx hW HSW HU HBH HB2 HX2
   by_cases hk : x.kind = 1
   ·have hkd : decide (x.kind = 1) = true := by simp [hk]
    go_wp2_with (first | go_region)
    all_goals go_meet
    case rel =>
     rw [if_pos hk, if_pos hk, hkd]
     exact ⟨(((HB5.out.setCell (p := ⟨g, 10, none⟩) hg _).setCell (p := ⟨g, 8, none⟩) hg _).setCell (p := ⟨g, 7, none⟩) hg _).drew, block_set (block_set (block_set HP5.out))⟩
   ·have hkd : decide (x.kind = 1) = false := by simp [hk]
    go_wp2_with (first | go_region)
    all_goals go_meet
    case rel =>
     rw [if_neg hk, if_neg hk, hkd]
     exact ⟨HB5.out, HP5.out⟩
  case rest =>
   obtain ⟨hb6, hp6⟩ := hcut
   have HB6 := hid hb6
   have HP6 := hid hp6
   have HX6 := hid (HX2.out.below hb6)
   have HW6 := hid (weighs_any s p wc)
   clear hkeep hth hta HKEEP HTH HTA HSC HXC HBC HEC HD HPC HP4 HB4 HBCC HP5 HX5 x3 x7 x12 q7 q8 q9 q10 f7 f8 f10 hb6 hp6
   go_upto_region 6 with (fail)
   go_wp2_with (first | (go_at_call 75; refine HW6.out.mono ?_; rintro e w7 ⟨rfl, hb7, c71, c72, hs7⟩))
   obtain ⟨FI, hFI⟩ : ∃ v, (if x.kind = 1 then x.party else 0) = v := ⟨_, rfl⟩
   obtain ⟨CE, hCE⟩ : ∃ v, (if x.kind = 1 then x.cell else 0) = v := ⟨_, rfl⟩
   obtain ⟨FO, hFO⟩ : ∃ v, decide (x.kind = 1) = v := ⟨_, rfl⟩
   have HP7 := HP6.out.below hb7
   rw [hFI, hCE, hFO] at HP7
   have HP7 := hid HP7
   have HFI := hid hFI
   have HCE := hid hCE
   have HFO := hid hFO
   have HB7 := hid (HB6.out.trans (hb7.mono HB6.out.size))
   have HLT7 : Hid (w.heap.size < w7.heap.size) := hid (by have := HB7.out.size; have := HB2.out.size; have := HR0.out.lt; omega)
   have hgl : g < w7.heap.size := HP7.out.lt
   have hgc : g < wc.heap.size := HP6.out.lt
   clear hb7 hFI hCE hFO HP6
   refine (wpIn_wide (n := 9)).1 ?_
   refine range_box (F := Fence.wide) (n := 9) rfl (by decide) (gf := 114) rfl trivial enters59 (weighs_stops (9 - 1) (by decide) wc.heap.size (wc.heap.size + 1) W2 (HSW.out.below HB2.out) ((HE.out.below HBW.out).below HB2.out) HSO.out HCL.out p w7 HB7.out c71 c72)
    (fun h k => h.t k) (Keep2.put HB7.out.size) (Below.refl _ _)
    (fun pre W => Below W2.heap.size W2 W ∧ PclIs W g ⟨p, x.id, u.id, M0, G0, pre.foldl (fun m e => max m e.1.lo) 1, pre.foldl (fun m e => min m e.1.hi) 100000000, FI, CE, x.hour, FO, bt && bh⟩)
    ((ownFrom_below (Nat.le_refl _) HB7.out.size).and block_stays) ⟨HB7.out, HP7.out⟩ 7 (fun W b e => BoxIs W b e.1 e.2.1 e.2.2) (fun e b => block_stays) ?assign ?body ?done
   case assign =>
    rintro l pre e W K ⟨hB, hP⟩ hK
    simp only [zz4, zz5, zz6] at hK ⊢
    have HK := hid hK
    have HBI := hid hB
    have HPI := hid hP
    clear hK hB hP
    gi_wp2_with (first | (refine store_rep_newIn rfl _ _ rfl rfl rfl (r := e.1) rfl rfl ?_; intro W' hbx hbw hlt))
    exact HK.out _ _ (keeps_below hbw) ((Keep2.r W).below HBI.out.size hbw) ⟨HBI.out.trans (hbw.mono HBI.out.size), HPI.out.below hbw⟩ hbx
   case body =>
    rintro l pre e b W ⟨hB, hP⟩ hbx hlt
    simp only [zz4, zz5, zz6]
    obtain ⟨_, _, _, _, _, _, _, _, _, _, b10, b11, _⟩ := hbx.at_
    have HP := hid hP
    obtain ⟨LO, hLO⟩ : ∃ v, pre.foldl (fun (m : Int) (e : Ent) => max m e.1.lo) 1 = v := ⟨_, rfl⟩
    obtain ⟨HI, hHI⟩ : ∃ v, pre.foldl (fun (m : Int) (e : Ent) => min m e.1.hi) 100000000 = v := ⟨_, rfl⟩
    rw [hLO, hHI] at hP
    have HLO := hid hLO
    have HHI := hid hHI
    clear hLO hHI
    obtain ⟨_, _, _, _, _, q5, q6, _⟩ := hP.at_
    have f5 := hP.loose 5
    have f6 := hP.loose 6
    have HP := hid hP
    have HBI := hid hB
    clear hP hB hbx
    gi_wp2_with fail
    all_goals refine ⟨((KeepsOthers.setCell _ _ _).from _).trans ((KeepsOthers.setCell _ _ _).from _), (keep2_set hg (by omega) (by omega)).t (keep2_set hg (by omega) (by omega)), (HBI.out.setCell (p := ⟨g, 5, none⟩) hg _).setCell (p := ⟨g, 6, none⟩) hg _, pcl_span HP.out ?_ ?_⟩
    all_goals rw [List.foldl_append]
    all_goals simp only [List.foldl_cons, List.foldl_nil]
    all_goals first | rw [HLO.out] | rw [HHI.out]
    all_goals omega
   case done =>
    rintro D ys W hD rfl ⟨hB, hP⟩ hK
    have HP := hid hP
    have HBI := hid hB
    have HK := hid hK
    clear hP hB hK
    have HRW := hid ((HR0.out.below HB2.out).below HBI.out)
    go_wp2_with (first | refine load_pcl rfl _ rfl _ rfl HP.out ?_ | refine store_pcl rfl _ _ rfl _ rfl rfl HRW.out ?_)
    have hsz := HLT7.out
    have hDK := (setRow_other W w.heap.size D (Pcl.cells ⟨p, x.id, u.id, M0, G0, (saysE C p).foldl (fun m e => max m e.1.lo) 1, (saysE C p).foldl (fun m e => min m e.1.hi) 100000000, FI, CE, x.hour, FO, bt && bh⟩) (by omega)).trans HK.out
    have hq : parcelF C p = ⟨p, x.id, u.id, M0, G0, (saysE C p).foldl (fun m e => max m e.1.lo) 1, (saysE C p).foldl (fun m e => min m e.1.hi) 100000000, FI, CE, x.hour, FO, bt && bh⟩ := by
     unfold parcelF
     rw [hx, HU.out, HBT.out, HBH.out, HG.out, HMK.out]
     dsimp only
     rw [HFI.out, HCE.out, HFO.out]
    refine ⟨by simp, .inl ⟨_, _, rfl, run_takeDeferred hDK, ?_⟩⟩
    refine ⟨_, results_cell_row rfl _ _ w.heap.size _ _ (0, 0) _ rfl ((World.putObj_heap_other (by omega)).trans (pcl_set HRW.out)) Tryz.underlying38 rfl pcl_info, by rw [hq], ?_⟩
    have hb1 : Below w.heap.size w W := HBW.out.trans ((HB2.out.trans (HBI.out.mono HB2.out.size)).mono HBW.out.size)
    exact (below_setRow hb1 (Nat.le_refl _) _).trans (belowK_b (w := w) (Nat.le_refl _) _ D _ _ (by omega) hDK rfl rfl)
end
end Go.Proofs.YtfaoillnakhejaaGreat
