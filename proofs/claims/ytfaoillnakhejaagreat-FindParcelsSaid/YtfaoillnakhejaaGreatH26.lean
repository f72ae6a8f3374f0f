/- terms: what a side says of an end of a parcel; CheckSide. -/
import Derived.Test.YtfaoillnakhejaaGreatH25
namespace Go.Proofs.YtfaoillnakhejaaGreat
set_option maxRecDepth 100000
open Go.RowKit
structure Term where
 arc : Arc
 up : Bool
 sign : Int
 deriving DecidableEq
def Term.cells (t : Term) : Array Value := #[.int .i64 t.arc.parcel, .int .i64 t.arc.from_, .int .i64 t.arc.to_, .int .i64 t.arc.lo, .int .i64 t.arc.hi, .bool t.up, .int .i64 t.sign]
abbrev Term.val (t : Term) : Value := .agg t.cells
/-- The terms of the arcs that a side uses, beside the parcel's own. -/
def termOf (p : Int) (up : Bool) (side : List Int) (way : Int) (a : Arc) : Option Term :=
 if a.parcel = p ∨ acrossF a side = 0 then none else if acrossF a side = way then some ⟨a, !up, -1⟩ else some ⟨a, up, 1⟩
def termsF (L : List Arc) (p : Int) (up : Bool) (side : List Int) (own : Arc) : Option (List Term) :=
 if side = [] then some [⟨own, up, 1⟩] else if acrossF own side = 0 then none else some (L.filterMap (termOf p up side (acrossF own side)))
theorem term_info : (Tryz.prog.info? 109).map (·.size) = some 7 := by kernel_rfl
theorem term_one (t : Term) : t.cells.all (·.oneCell') = true := by simp [Term.cells, Value.oneCell']
theorem built_term (a : Arc) (up : Bool) (sg : Int) : Tryz.prog.built 109 [(0, a.val), (1, .bool up), (2, .int .i64 sg)] = some (Term.cells ⟨a, up, sg⟩) := by kernel_rfl
theorem build_term {ops : Array Oper} {rest : List Oper} {o : Oper} {a : Act} {w : World} {Q : Exit → Act → World → Prop} (hgd : o.guard = none) (x y z : Operand) (ho : o.op = .build 109 #[(0, x), (1, y), (2, z)])
  {r : Arc} {up : Bool} {sg : Int} (hx : a.eval x = r.val) (hy : a.eval y = .bool up) (hz : a.eval z = .int .i64 sg) (h : wpList Tryz.prog ops Q rest (a.put o.dst (Term.val ⟨r, up, sg⟩)) w) : wpList Tryz.prog ops Q (o :: rest) a w := by
 have h1 : ((#[(0, x), (1, y), (2, z)] : Array (Nat × Operand)).map fun (i, x) => (i, a.eval x)).toList = [(0, r.val), (1, .bool up), (2, .int .i64 sg)] := by simp [hx, hy, hz]
 refine wpList_build hgd _ #[(0, x), (1, y), (2, z)] ho ?_ ?_
 ·rw [h1, built_term]; rfl
 ·rw [h1, built_term]
  exact h
theorem termA_info : ∃ i z, Tryz.prog.info? 109 = some i ∧ i.zero = some z ∧ i.size = 7 ∧ i.bytes = 56 ∧ z.cells.size = 7 := by
 have h : (Tryz.prog.info? 109).map (fun i => (i.zero.map (·.cells.size), i.size, i.bytes)) = some (some 7, 7, 56) := by kernel_rfl
 rcases hi : Tryz.prog.info? 109 with _ | i
 ·rw [hi] at h; cases h
 ·rw [hi] at h
  simp only [Option.map_some, Option.some.injEq, Prod.mk.injEq] at h
  obtain ⟨h1, h2, h3⟩ := h
  rcases hz : i.zero with _ | z
  ·rw [hz] at h1; cases h1
  ·rw [hz] at h1
   simp only [Option.map_some, Option.some.injEq] at h1
   exact ⟨i, z, rfl, hz, h2, h3, h1⟩
theorem termsl_u : Tryz.prog.underlying 105 = some (.slice 109) := by kernel_rfl
theorem buildl_term {ops : Array Oper} {rest : List Oper} {o : Oper} {a : Act} {w : World} {Q : Exit → Act → World → Prop} (hgd : o.guard = none) (x : Operand) (ho : o.op = .buildSlice 105 1 #[(0, x)])
  {r : Term} (hx : a.eval x = r.val) (h : wpList Tryz.prog ops Q rest (a.put o.dst (.slice (some ⟨w.heap.size, 0, none⟩) 1 1)) (w.alloc (.cells r.cells 109))) : wpList Tryz.prog ops Q (o :: rest) a w := by
 obtain ⟨i, z, h1, h2, h3, h4, h5⟩ := termA_info
 refine wpList_buildSlice hgd _ _ 1 #[(0, x)] ho r.cells i z termsl_u h1 h2 (by omega) (by omega) ?_ h
 rw [h3]
 have h6 := Great.fill_whole (s := 7) (by omega) [r.val] ((Array.range (1 * 7)).map (z.cells[· % z.cells.size]!)) (by intro v hv; rw [List.mem_singleton] at hv; subst hv; rfl) (by simp)
 have h7 : ((#[(0, x)] : Array (Nat × Operand)).map fun (i, x) => (i, a.eval x)).toList = (([r.val].zipIdx 0).map fun x => (x.2, x.1)) := by
  simp [hx]
 rw [h7, h6]
 simp [Value.cells]
def flatT (l : List Term) : List Value := l.flatMap fun t => t.cells.toList
theorem flatT_snoc (l : List Term) (t : Term) : flatT (l ++ [t]) = flatT l ++ t.cells.toList := by simp [flatT]
theorem flatT_length (L : List Term) : (flatT L).length = L.length * 7 := by
 induction L with
 | nil => rfl
 | cons e L ih =>
  show (e.cells.toList ++ flatT L).length = _
  rw [List.length_append, ih]
  show 7 + L.length * 7 = (L.length + 1) * 7
  omega
theorem flatT_at : ∀ (L : List Term) (i : Nat) (h : i < L.length) (j : Nat) (v : Value), (L[i].cells).toList[j]? = some v → (flatT L)[i * 7 + j]? = some v
 | [], i, h, _, _, _ => by simp at h
 | e :: L, 0, h, j, v, hv => by
  show (e.cells.toList ++ flatT L)[0 * 7 + j]? = _
  have hj : j < 7 := (List.getElem?_eq_some_iff.1 hv).1
  rw [Nat.zero_mul, Nat.zero_add, List.getElem?_append_left hj]
  exact hv
 | e :: L, i + 1, h, j, v, hv => by
  show (e.cells.toList ++ flatT L)[(i + 1) * 7 + j]? = _
  have h5 : e.cells.toList.length = 7 := rfl
  rw [List.getElem?_append_right (by rw [h5]; omega), h5, show (i + 1) * 7 + j - 7 = i * 7 + j by omega]
  exact flatT_at L i (by simpa using h) j v (by simpa using hv)
/-- A slice that starts at A holds the terms l. -/
def TermsAt (w : World) (A : Option Addr) (l : List Term) : Prop :=
 0 < l.length → ∃ b off, A = some ⟨b, off, none⟩ ∧ ∀ i (h : i < l.length), w.rangeAt b (off + i * 7) (l[i].cells).toList
theorem TermsAt.kept {w w' : World} {A : Option Addr} {l : List Term} (h : TermsAt w A l) (k : Kept w w') : TermsAt w' A l := fun h0 => by
 obtain ⟨b, off, e, hc⟩ := h h0
 exact ⟨b, off, e, fun i hi => rangeAt_kept (hc i hi) k⟩
theorem terms_of_cells {w : World} {A : Option Addr} {L : List Term} (h : CellsAt w A (flatT L)) : TermsAt w A L := fun h0 => by
 obtain ⟨b, off, e, hc⟩ := h (by rw [flatT_length]; omega)
 refine ⟨b, off, e, fun i hi j v hv => ?_⟩
 have := hc _ _ (flatT_at L i hi j v hv)
 rwa [← Nat.add_assoc] at this
theorem app_term {w : World} {base : Nat} {v : Value} {l : List Term} (t : Term) (hown : w.ownsRow base 109 7 v l.length (flatT l)) (hl : l.length ≤ 10000) (hbase : base ≤ w.heap.size) :
  ∃ v' w', (Builtin.append_ #[105, 105] 105 #[v, .slice (some ⟨w.heap.size, 0, none⟩) 1 1]).run Tryz.prog (w.alloc (.cells t.cells 109)) = .ok v' w' ∧
   w'.ownsRow base 109 7 v' (l.length + 1) (flatT (l ++ [t])) ∧ Below base w w' := by
 obtain ⟨i, z, h1, h2, h3, h4, h5⟩ := termA_info
 obtain ⟨v', w', hr, ho, hg⟩ := run_app (P := Tryz.prog) (w := w.alloc (.cells t.cells 109)) 105 (c := 1) (A := some ⟨w.heap.size, 0, none⟩) (news := t.cells.toList) (size := 7) termsl_u h1 h2 h3 h4 h5 (by omega) (hown.alloc _) (m := 1) rfl
  (fun _ => ⟨w.heap.size, 0, rfl, fun j u hj => by rw [Nat.zero_add, cell_new]; simpa using hj⟩) (fun u hu => Array.all_eq_true_iff_forall_mem.1 (term_one t) u (by simpa using hu)) (by simp [maxLen]; omega) (by omega) (by simp; omega)
 refine ⟨v', w', hr, ?_, ((Below.refl _ _).alloc hbase _).grown hg (by simp; omega) (fun g e => (hown.lt g e).1)⟩
 rw [flatT_snoc]
 exact ho
theorem own_one_term (w : World) (t : Term) : (w.alloc (.cells t.cells 109)).ownsRow w.heap.size 109 7 (.slice (some ⟨w.heap.size, 0, none⟩) 1 1) 1 (flatT [t]) :=
 ⟨by rw [flatT_length]; rfl, .inr ⟨w.heap.size, 1, _, rfl, Nat.le_refl _, heap_alloc_new w _, Nat.le_refl _, by simp [maxLen], rfl, by simp [flatT, Term.cells]⟩⟩
theorem terms_snoc (L : List Arc) (p : Int) (up : Bool) (side : List Int) (way : Int) (k : Nat) (h : k < L.length) : (L.take (k + 1)).filterMap (termOf p up side way) = (L.take k).filterMap (termOf p up side way) ++ (match termOf p up side way L[k] with | none => [] | some t => [t]) := by
 rw [List.take_succ_eq_append_getElem h, List.filterMap_append]
 rcases hq : termOf p up side way L[k] with _ | t <;> simp [hq]
theorem terms1_any {w : World} {b : Nat} {p : Int} (h : Boxed w b 3 (.int .i64 p)) (x : Arc) : Calls Tryz.prog 111 #[x.val, .pointer (some ⟨b, 0, none⟩)] w fun e w' => e = .returned (.bool (x.parcel == p)) ∧ Below w.heap.size w w' := by
 have c1 := h.cell
 have hlt := h.lt
 rcases x with ⟨x0, x1, x2, x3, x4⟩
 have hb : Below w.heap.size w (w.alloc (.cells #[.int .i64 x0, .int .i64 x1, .int .i64 x2, .int .i64 x3, .int .i64 x4] 102)) := (Below.refl _ _).alloc (Nat.le_refl _) _
 have c2 := Kept.of_below hb _ _ c1
 have c3 : (w.alloc (.cells #[.int .i64 x0, .int .i64 x1, .int .i64 x2, .int .i64 x3, .int .i64 x4] 102)).cell? ⟨w.heap.size, 0, none⟩ = some (.int .i64 x0) := by rw [cell_new]; rfl
 clear h
 simp only [Arc.val, Arc.cells]
 go_enter Tryz.func111, Tryz.ntmps111
 go_wp2_with fail
 go_ret
 exact ⟨rfl, hb⟩
theorem enters_terms1 : Enters 111 := fun args w => by kernel_rfl
theorem enters_index : Enters 105 := fun args w => by kernel_rfl
set_option maxHeartbeats 16000000 in
theorem terms_any {w : World} {bb s r1 r2 r3 r4 : Nat} {As : Option Addr} {cap : Nat} {C : List Ent} {ids : List Int} (hB : LooksAt w bb s r1 r2 r3 r4 As cap C ids) (hil : ids.length ≤ 2000) (p : Int) (hp : p ∈ ids) (up : Bool) {S : Option Addr} {sc : Nat} {side : List Int} (hS : IntsAt w S side) (hl : side.length ≤ 1000000) :
  Calls Tryz.prog 67 #[.pointer (some ⟨bb, 0, none⟩), .int .i64 p, .bool up, .slice S side.length sc] w fun e w' => Below w.heap.size w w' ∧
   match termsF (arcsF C ids) p up side (arcF C p) with
   | none => e = .returned (.tuple #[.slice none 0 0, .bool false])
   | some l => ∃ v, e = .returned (.tuple #[v, .bool true]) ∧ w'.ownsRow w.heap.size 109 7 v l.length (flatT l) := by
 have hLl : (arcsF C ids).length = ids.length := by simp [arcsF]
 have hpk : ∀ a ∈ arcsF C ids, a.parcel = p → a = arcF C p := fun a ha hap => by
  obtain ⟨q, _, rfl⟩ := List.mem_map.1 ha
  have : q = p := hap
  rw [this]
 have hmem : arcF C p ∈ arcsF C ids := List.mem_map_of_mem (f := arcF C) hp
 have hgr := fun w1 (hb : Below w.heap.size w w1) => graph2_any (hB.below hb) (by omega)
 obtain ⟨L, hL⟩ : ∃ L, arcsF C ids = L := ⟨_, rfl⟩
 rw [hL] at hLl hpk hmem ⊢
 simp only [hL] at hgr
 obtain ⟨own, hown⟩ : ∃ own, arcF C p = own := ⟨_, rfl⟩
 have hop : own.parcel = p := by rw [← hown]; rfl
 rw [hown] at hpk hmem ⊢
 have hfl : (L.findIdx fun a => a.parcel == p) < L.length := List.findIdx_lt_length_of_exists ⟨own, hmem, by rw [hop]; exact beq_self_eq_true p⟩
 have hfa : L[L.findIdx fun a => a.parcel == p] = own := hpk _ (List.getElem_mem hfl) (by
  have := List.findIdx_getElem (w := hfl)
  simpa using this)
 have HFI := hid hfa
 obtain ⟨i, hi⟩ : ∃ i, (L.findIdx fun a => a.parcel == p) = i := ⟨_, rfl⟩
 have HII := hid hi
 have hfl2 : i < L.length := by rw [← hi]; exact hfl
 have HFA : Hid (L[i] = own) := hid (by
  subst hi
  exact HFI.out)
 obtain ⟨TF, hTF⟩ : ∃ TF, termsF L p up side own = TF := ⟨_, rfl⟩
 rw [hTF]
 have HTF := hid hTF
 clear hTF
 have HGRF := hid hgr
 have HS := hid hS
 have hLf : L.length ≤ 2000 := by omega
 clear hL hown hpk hmem hgr hi hfa HFI hfl hS hB hop hLl
 go_enter Tryz.func67, Tryz.ntmps67
 go_upto_region 1 with fail
 refine bbox_gen rfl ?_
 intro W1 hc1 hb1 hlt1
 have HC1 := hid hc1
 have HB1 := hid hb1
 have HG1 := hid (HGRF.out W1 hb1)
 clear hc1 hb1 HGRF
 go_wp2_with fail
 refine HG1.out.mono ?_
 rintro e w2 ⟨g, Aa, c, rfl, hga, hgl, hAa, hb2⟩
 have HGA := hid hga
 have HB2 := hid (HB1.out.trans (hb2.mono HB1.out.size))
 have HC2 := hid (HC1.out.kept (grown_of_below hb2) (by simp))
 obtain ⟨b2, off2, hAe, hrg⟩ := hga.arcs (by omega)
 subst hAe
 have hri := hrg i hfl2
 rw [HFA.out] at hri
 have HRI := hid hri
 have hcapA := hga.cap
 clear hga hAa hb2 HG1 hrg hri
 have HSF : Hid (∀ w', Below w2.heap.size w2 w' → (w'.cell? ⟨g, 0, none⟩ = some (.slice (some ⟨b2, off2, none⟩) L.length c) ∧ w'.cell? ⟨b2, off2 + i * 5, none⟩ = some (.int .i64 own.parcel) ∧ w'.cell? ⟨b2, off2 + i * 5 + 1, none⟩ = some (.int .i64 own.from_) ∧ w'.cell? ⟨b2, off2 + i * 5 + 2, none⟩ = some (.int .i64 own.to_) ∧ w'.cell? ⟨b2, off2 + i * 5 + 3, none⟩ = some (.int .i64 own.lo) ∧ w'.cell? ⟨b2, off2 + i * 5 + 4, none⟩ = some (.int .i64 own.hi))) := hid (fun w' hb => ⟨(HGA.out.below hb).at_.1, by
  have h1 := rangeAt_kept HRI.out (Kept.of_below hb)
  exact ⟨h1 0 _ rfl, h1 1 _ rfl, h1 2 _ rfl, h1 3 _ rfl, h1 4 _ rfl⟩⟩)
 have HIX : Hid (∀ w', Below w2.heap.size w2 w' → Calls Tryz.prog 105 #[.slice (some ⟨b2, off2, none⟩) L.length c, .func (.func 111) #[] #[.pointer (some ⟨w.heap.size, 0, none⟩)]] w' fun e w'' => e = .returned (.int .i64 i) ∧ Below w'.heap.size w' w'') := hid (fun w' hb => (indexArcs_any 111 enters_terms1 (.pointer (some ⟨w.heap.size, 0, none⟩)) (fun a => a.parcel == p) (some ⟨b2, off2, none⟩) c L w' (by omega) (HGA.out.below hb).arcs (fun z wr _ hb' => terms1_any ((HC2.out.kept (grown_of_below hb) (by simp)).kept (grown_of_below hb') (by simp)) z)).mono (by
  rintro e w'' ⟨⟨ii, rfl, hf⟩, hb'⟩
  have := first_idx hf (by rw [HII.out]; exact hfl2)
  rw [HII.out] at this
  rw [this]
  exact ⟨rfl, hb'⟩))
 have j0 : (0 : Int) ≤ i := by omega
 have j1 : (i : Int) < L.length := by omega
 go_upto_region 2 with fail
 go_cut [11] from 19 to 31 (fun v wx => ∃ gb, v = .pointer (some ⟨gb, 0, none⟩) ∧ ArcIs wx gb own ∧ Below w2.heap.size w2 wx)
 case first =>
  refine wp_region_noPanic ?_
  refine wp_region_held_drew (S := fun w' => w'.cell? ⟨g, 0, none⟩ = some (.slice (some ⟨b2, off2, none⟩) L.length c) ∧ w'.cell? ⟨b2, off2 + i * 5, none⟩ = some (.int .i64 own.parcel) ∧ w'.cell? ⟨b2, off2 + i * 5 + 1, none⟩ = some (.int .i64 own.from_) ∧ w'.cell? ⟨b2, off2 + i * 5 + 2, none⟩ = some (.int .i64 own.to_) ∧ w'.cell? ⟨b2, off2 + i * 5 + 3, none⟩ = some (.int .i64 own.lo) ∧ w'.cell? ⟨b2, off2 + i * 5 + 4, none⟩ = some (.int .i64 own.hi)) (by kernel_rfl) (HSF.out _ (Below.refl _ w2).drew) (fun hHeld => ?_)
  refine tk 0 (fun _ _ _ _ _ h => h) (by kernel_rfl) ‹_› ⟨_, ?_, by simp only [zz1, zz2]; rfl, .inl ⟨by rfl, ?_⟩, ?_⟩; rotate_left; · (intro w hSw; (try dsimp only at hSw); go_simp; all_goals with_reducible rfl)
  simp only [Act.put, zz4, zz5, zz6]
  refine tk 1 (fun _ _ _ _ _ h => h) (by kernel_rfl) ‹_› ⟨_, ?_, by simp only [zz1, zz2, zz3]; rfl, .inl ⟨by rfl, ?_⟩, ?_⟩; rotate_left; · (intro w hSw; (try dsimp only at hSw); go_simp; all_goals with_reducible rfl)
  simp only [Act.put, zz4, zz5, zz6]
  refine tk 2 (fun _ _ _ _ _ h => h) (by kernel_rfl) ‹_› ⟨_, ?_, by simp only [zz1, zz2, zz3]; rfl, .inl ⟨by rfl, ?_⟩, ?_⟩; rotate_left; · (intro w hSw; (try dsimp only at hSw); go_simp; all_goals with_reducible rfl)
  simp only [Act.put, zz4, zz5, zz6]
  refine tk 3 (fun _ _ _ _ _ h => h) (by kernel_rfl) ‹_› ⟨_, ?_, by simp only [zz1, zz2, zz3]; rfl, .inl ⟨by rfl, ?_⟩, ?_⟩; rotate_left; · (intro w hSw; (try dsimp only at hSw); go_simp; all_goals with_reducible rfl)
  simp only [Act.put, zz4, zz5, zz6]
  refine tk 4 (fun _ _ _ _ _ h => h) (by kernel_rfl) ‹_› ⟨_, ?_, by simp only [zz1, zz2, zz3]; rfl, .inl ⟨by rfl, ?_⟩, ?_⟩; rotate_left; · (intro w hSw; (try dsimp only at hSw); go_simp; all_goals with_reducible rfl)
  simp only [Act.put, zz4, zz5, zz6]
  refine tk 5 (fun _ _ _ _ _ h => h) (by kernel_rfl) ‹_› ⟨_, ?_, by simp only [zz1, zz2, zz3]; rfl, .inl ⟨by rfl, ?_⟩, ?_⟩; rotate_left; · (intro w hSw; (try dsimp only at hSw); go_simp; all_goals with_reducible rfl)
  simp only [Act.put, zz4, zz5, zz6]
  refine tk 6 (fun _ _ _ _ _ h => h) (by kernel_rfl) ‹_› ⟨_, ?_, by simp only [zz1, zz2, zz3]; rfl, .inl ⟨by rfl, ?_⟩, ?_⟩; rotate_left; · (intro w hSw; (try dsimp only at hSw); go_simp; all_goals with_reducible rfl)
  simp only [Act.put, zz4, zz5, zz6]
  refine tk 7 (fun _ _ _ _ _ h => h) (by kernel_rfl) ‹_› ⟨_, ?_, by simp only [zz1, zz2, zz3]; rfl, .inl ⟨by rfl, ?_⟩, ?_⟩; rotate_left; · (intro w hSw; (try dsimp only at hSw); go_simp; all_goals with_reducible rfl)
  simp only [Act.put, zz4, zz5, zz6]
  refine tk 8 (fun _ _ _ _ _ h => h) (by kernel_rfl) ‹_› ⟨_, ?_, by simp only [zz1, zz2, zz3]; rfl, .inl ⟨by rfl, ?_⟩, ?_⟩; rotate_left; · (intro w hSw; (try dsimp only at hSw); go_simp; all_goals with_reducible rfl)
  simp only [Act.put, zz4, zz5, zz6]
  refine wpAnyH_ready (rs := [9, 12]) (by kernel_rfl) (by simp) ?_
  refine cons_one (i := 9) ⟨_, by simp only [zz1, zz2, zz3]; rfl, fun K hK => ?_⟩ ?_
  ·refine step_call rfl #[.tmp 26, .tmp 27] 105 _ rfl enters_index #[.slice (some ⟨b2, off2, none⟩) L.length c, .func (.func 111) #[] #[.pointer (some ⟨w.heap.size, 0, none⟩)]] ?hs (fun u w' => u = .int .i64 i ∧ Below (w2.drew).heap.size (w2.drew) w') (((HIX.out _ (Below.refl _ w2).drew)).mono (fun e w' h => ⟨_, h.1, rfl, h.2⟩)) ?_
   case hs => simp [Act.eval]
   rintro _ w4 ⟨rfl, hb4⟩
   have HB4 := hid ((Below.refl _ w2).drew.trans (hb4.mono (Nat.le_refl _)))
   clear hb4
   clear hHeld
   refine hK.out _ _ (HSF.out _ HB4.out) (fun hHeld => ?_)
   clear hK K
   try simp only [Act.put, zz4, zz5, zz6]
   refine tk 10 (fun _ _ _ _ _ h => h) (by kernel_rfl) ‹_› ⟨_, ?_, by simp only [zz1, zz2, zz3]; rfl, .inl ⟨by rfl, ?_⟩, ?_⟩; rotate_left; · (intro w hSw; (try dsimp only at hSw); go_simp; all_goals with_reducible rfl)
   simp only [Act.put, zz4, zz5, zz6]
   refine tk 11 (fun _ _ _ _ _ h => h) (by kernel_rfl) ‹_› ⟨_, ?_, by simp only [zz1, zz2, zz3]; rfl, .inl ⟨by rfl, ?_⟩, ?_⟩; rotate_left; · (intro w hSw; (try dsimp only at hSw); go_simp; all_goals with_reducible rfl)
   simp only [Act.put, zz4, zz5, zz6]
   refine wpAnyH_ready (rs := [12]) (by kernel_rfl) (by simp) ?_
   refine cons_one (i := 12) ⟨_, by simp only [zz1, zz2, zz3]; rfl, fun K hK => ?_⟩ ?_
   rotate_left
   ·exact AllReadyH.nil
   go_simp
   have HB5 := hid (HB4.out.alloc HB4.out.size (.cells #[.int .i64 0, .int .i64 0, .int .i64 0, .int .i64 0, .int .i64 0] 102))
   clear hHeld
   refine hK.out _ _ (HSF.out _ HB5.out) (fun hHeld => ?_)
   clear hK K
   try simp only [Act.put, zz4, zz5, zz6]
   refine wpAnyH_ready (rs := [13]) (by kernel_rfl) (by simp) ?_
   refine cons_one (i := 13) ⟨_, by simp only [zz1, zz2, zz3]; rfl, fun K hK => ?_⟩ ?_
   rotate_left
   ·exact AllReadyH.nil
   refine step_store rfl 102 (.tmp 11) (.tmp 30) rfl (w4.heap.size) own.cells rfl rfl 102 _ (heap_alloc_new _ _) arc_info rfl (arc_one own) ?_
   have hbz := below_setRow HB5.out HB4.out.size own.cells
   clear hHeld
   refine hK.out _ _ (HSF.out _ hbz) (fun hHeld => ?_)
   clear hK K
   try simp only [Act.put]
   refine wpAnyH_done (by kernel_rfl) ?_ _
   refine NoPanic.normal ?_
   go_wp2_with fail
   go_meet
   case rel => exact ⟨_, rfl, setRow_heap _ _ _ _ _ _ (heap_alloc_new _ _), hbz⟩
  ·refine cons_one (i := 12) ⟨_, by simp only [zz1, zz2, zz3]; rfl, fun K hK => ?_⟩ ?_
   ·go_simp
    have HB3 := hid ((Below.refl _ w2).drew.alloc (Nat.le_refl _) (.cells #[.int .i64 0, .int .i64 0, .int .i64 0, .int .i64 0, .int .i64 0] 102))
    clear hHeld
    refine hK.out _ _ (HSF.out _ HB3.out) (fun hHeld => ?_)
    clear hK K
    try simp only [Act.put, zz4, zz5, zz6]
    refine wpAnyH_ready (rs := [9]) (by kernel_rfl) (by simp) ?_
    refine cons_one (i := 9) ⟨_, by simp only [zz1, zz2, zz3]; rfl, fun K hK => ?_⟩ ?_
    rotate_left
    ·exact AllReadyH.nil
    refine step_call rfl #[.tmp 26, .tmp 27] 105 _ rfl enters_index #[.slice (some ⟨b2, off2, none⟩) L.length c, .func (.func 111) #[] #[.pointer (some ⟨w.heap.size, 0, none⟩)]] ?hs (fun u w' => u = .int .i64 i ∧ Below ((w2.drew.alloc (.cells #[.int .i64 0, .int .i64 0, .int .i64 0, .int .i64 0, .int .i64 0] 102))).heap.size ((w2.drew.alloc (.cells #[.int .i64 0, .int .i64 0, .int .i64 0, .int .i64 0, .int .i64 0] 102))) w') (((HIX.out _ HB3.out)).mono (fun e w' h => ⟨_, h.1, rfl, h.2⟩)) ?_
    case hs => simp [Act.eval]
    rintro _ w4 ⟨rfl, hb4⟩
    have hz4 := (hb4.block w2.heap.size (by simp)).trans (heap_alloc_new w2.drew (.cells #[.int .i64 0, .int .i64 0, .int .i64 0, .int .i64 0, .int .i64 0] 102))
    have HB4 := hid (HB3.out.trans (hb4.mono HB3.out.size))
    clear hb4
    clear hHeld
    refine hK.out _ _ (HSF.out _ HB4.out) (fun hHeld => ?_)
    clear hK K
    try simp only [Act.put, zz4, zz5, zz6]
    refine tk 10 (fun _ _ _ _ _ h => h) (by kernel_rfl) ‹_› ⟨_, ?_, by simp only [zz1, zz2, zz3]; rfl, .inl ⟨by rfl, ?_⟩, ?_⟩; rotate_left; · (intro w hSw; (try dsimp only at hSw); go_simp; all_goals with_reducible rfl)
    simp only [Act.put, zz4, zz5, zz6]
    refine tk 11 (fun _ _ _ _ _ h => h) (by kernel_rfl) ‹_› ⟨_, ?_, by simp only [zz1, zz2, zz3]; rfl, .inl ⟨by rfl, ?_⟩, ?_⟩; rotate_left; · (intro w hSw; (try dsimp only at hSw); go_simp; all_goals with_reducible rfl)
    simp only [Act.put, zz4, zz5, zz6]
    refine wpAnyH_ready (rs := [13]) (by kernel_rfl) (by simp) ?_
    refine cons_one (i := 13) ⟨_, by simp only [zz1, zz2, zz3]; rfl, fun K hK => ?_⟩ ?_
    rotate_left
    ·exact AllReadyH.nil
    refine step_store rfl 102 (.tmp 11) (.tmp 30) rfl (w2.heap.size) own.cells rfl rfl 102 _ hz4 arc_info rfl (arc_one own) ?_
    have hbz := below_setRow HB4.out (Nat.le_refl _) own.cells
    clear hHeld
    refine hK.out _ _ (HSF.out _ hbz) (fun hHeld => ?_)
    clear hK K
    try simp only [Act.put]
    refine wpAnyH_done (by kernel_rfl) ?_ _
    refine NoPanic.normal ?_
    go_wp2_with fail
    go_meet
    case rel => exact ⟨_, rfl, setRow_heap _ _ _ _ _ _ hz4, hbz⟩
   ·exact AllReadyH.nil
 case rest =>
  obtain ⟨gb, rfl, hax, hbx⟩ := hcut
  have HAX := hid hax
  have HBX := hid (HB2.out.trans (hbx.mono HB2.out.size))
  have HBX2 := hid hbx
  have HC3 := hid (HC2.out.kept (grown_of_below hbx) (by simp))
  have HA3 := hid (HGA.out.below hbx).at_.1
  have HG3 := hid (HGA.out.below hbx).arcs
  have HS3 := hid (HS.out.kept (Kept.of_below (HB2.out.trans (hbx.mono HB2.out.size))))
  have hs2 := HB2.out.size
  clear hax hbx HIX HSF
  have htf := HTF.out
  unfold termsF at htf
  by_cases hse : side = []
  ·have hl0 : side.length = 0 := by rw [hse]; rfl
   rw [if_pos hse] at htf
   subst htf
   have HSE := hid hse
   clear hse
   rw [hl0]
   go_wp2_with (first | refine load_arc rfl _ rfl _ rfl HAX.out ?_ | refine build_term rfl _ _ _ rfl (r := own) (up := up) (sg := 1) rfl rfl rfl ?_ | refine buildl_term rfl _ rfl (r := ⟨own, up, 1⟩) rfl ?_)
   go_ret2
   have h3 := HBX.out.size
   exact ⟨HBX.out.alloc h3 _, _, rfl, own_lo (own_one_term _ _) h3⟩
  ·rw [if_neg hse] at htf
   have hl0 : ((side.length : Int) == 0) = false := beq_eq_false_iff_ne.2 (fun h => hse (List.eq_nil_of_length_eq_zero (by omega)))
   have HAC := hid (across_any own (sc := sc) wc HS3.out hl)
   obtain ⟨way, hway⟩ : ∃ way, acrossF own side = way := ⟨_, rfl⟩
   rw [hway] at HAC htf
   have HTF2 := hid htf
   clear htf HTF
   clear hse
   go_wp2_with (first | refine load_arc rfl _ rfl _ rfl HAX.out ?_)
   refine HAC.out.mono ?_
   rintro e w4 ⟨rfl, hb4⟩
   have HB4 := hid (HBX.out.trans (hb4.mono HBX.out.size))
   have HC4 := hid (HC3.out.kept (grown_of_below hb4) (by simp))
   have HA4 := hid (Kept.of_below hb4 _ _ HA3.out)
   have HG4 := hid (HG3.out.kept (Kept.of_below hb4))
   have HS4 := hid (HS3.out.kept (Kept.of_below hb4))
   clear hb4 HAC hl0
   by_cases hw0 : way = 0
   ·have dw : (way == 0) = true := beq_iff_eq.2 hw0
    have htf := HTF2.out
    rw [if_pos hw0] at htf
    subst htf
    clear hw0 HTF2
    go_wp2_with fail
    go_ret2
    exact ⟨HB4.out, rfl⟩
   ·have dw : (way == 0) = false := beq_eq_false_iff_ne.2 hw0
    have htf := HTF2.out
    rw [if_neg hw0] at htf
    subst htf
    clear HTF2
    have a40 := HA4.out
    clear hw0
    go_upto_region 10 with fail
    clear a40
    obtain ⟨V, hV⟩ : ∃ V, V = w4 := ⟨_, rfl⟩
    subst hV
    go_loopg [13, 48] (L.length) (fun gm ov iv wq => ∃ k : Nat, k ≤ L.length ∧ gm = L.length - k ∧ iv = .int .i64 k ∧ Hid (wq.ownsRow V.heap.size 109 7 ov ((L.take k).filterMap (termOf p up side way)).length (flatT ((L.take k).filterMap (termOf p up side way)))) ∧ Hid (Below V.heap.size V wq))
    case atStart => exact ⟨0, by omega, by omega, rfl, hid ⟨rfl, .inl ⟨rfl, rfl⟩⟩, hid (Below.refl _ _)⟩
    case round =>
     obtain ⟨k, hk, hgk, rfl, how, hbw⟩ := hrel
     by_cases hkl : k < L.length
     ·obtain ⟨b4, off4, hAe, hrg⟩ := (HG4.out.kept (Kept.of_below hbw.out)) (by omega)
      cases hAe
      have hra := hrg k hkl
      have hsn := terms_snoc L p up side way k hkl
      obtain ⟨a, ha⟩ : ∃ a, L[k] = a := ⟨_, rfl⟩
      rw [ha] at hra hsn
      obtain ⟨D, hD⟩ : ∃ D, (L.take k).filterMap (termOf p up side way) = D := ⟨_, rfl⟩
      have hdl : D.length ≤ 2000 := by
       rw [← hD]
       exact Nat.le_trans (List.length_filterMap_le _ _) (by simp; omega)
      rw [hD] at hsn how
      have HRA := hid hra
      have HSN := hid hsn
      have i0 : (0 : Int) ≤ k := by omega
      have i1 : (k : Int) < L.length := by omega
      clear hrg hra hsn ha hD
      go_upto_region 12 with (first | refine load_arc_mid rfl _ rfl _ _ rfl HRA.out ?_ | (refine store_arc_new rfl _ _ rfl rfl rfl (q := a) rfl rfl rfl ?_; intro W6 hax6 hb6 hlt6; have HAX6 := hid hax6; have HB6 := hid (hbw.out.trans (hb6.mono hbw.out.size)); have HO6 := hid (own_below how.out hb6); clear hax6 hb6))
      have HAC := hid (across_any a (sc := sc) W6 (HS4.out.kept (Kept.of_below HB6.out)) hl)
      obtain ⟨wa, hwa⟩ : ∃ wa, acrossF a side = wa := ⟨_, rfl⟩
      rw [hwa] at HAC
      have HWA := hid hwa
      clear hwa
      go_wp2_with (first | refine load_arc rfl _ rfl _ rfl HAX6.out ?_)
      refine HAC.out.mono ?_
      rintro e w7 ⟨rfl, hb7⟩
      have HAX7 := hid (HAX6.out.below hb7)
      have HB7 := hid (HB6.out.trans (hb7.mono HB6.out.size))
      have HO7 := hid (own_below HO6.out hb7)
      have c5 := (HC4.out.kept (grown_of_below HB7.out) (by simp)).cell
      obtain ⟨a0, _⟩ := HAX7.out.at_
      have hto : termOf p up side way a = if a.parcel = p ∨ wa = 0 then none else if wa = way then some ⟨a, !up, -1⟩ else some ⟨a, up, 1⟩ := by
       unfold termOf
       rw [HWA.out]
      have HTO := hid hto
      clear hb7 HAC hto
      by_cases hap : a.parcel = p
      ·have d1 : (a.parcel == p) = true := beq_iff_eq.2 hap
       have HSN2 : Hid ((L.take (k + 1)).filterMap (termOf p up side way) = D) := hid (by rw [HSN.out, HTO.out]; simp [hap])
       clear hap
       go_wp2_with fail
       go_roundg (L.length - (k + 1))
       case measure => omega
       case rel => exact ⟨k + 1, by omega, rfl, by go_num, by rw [HSN2.out]; exact HO7, HB7⟩
      ·have d1 : (a.parcel == p) = false := beq_eq_false_iff_ne.2 hap
       by_cases hwz : wa = 0
       ·have d2 : (wa == 0) = true := beq_iff_eq.2 hwz
        have HSN2 : Hid ((L.take (k + 1)).filterMap (termOf p up side way) = D) := hid (by rw [HSN.out, HTO.out]; simp [hwz])
        clear hap hwz
        go_wp2_with fail
        go_roundg (L.length - (k + 1))
        case measure => omega
        case rel => exact ⟨k + 1, by omega, rfl, by go_num, by rw [HSN2.out]; exact HO7, HB7⟩
       ·have d2 : (wa == 0) = false := beq_eq_false_iff_ne.2 hwz
        have hor : ¬ (a.parcel = p ∨ wa = 0) := fun h => h.elim hap hwz
        by_cases hwy : wa = way
        ·have d3 : (wa == way) = true := beq_iff_eq.2 hwy
         have HSN2 : Hid ((L.take (k + 1)).filterMap (termOf p up side way) = D ++ [⟨a, !up, -1⟩]) := hid (by rw [HSN.out, HTO.out, if_neg hor, if_pos hwy])
         obtain ⟨v8, w8, hr8, ho8, hb8⟩ := app_term ⟨a, !up, -1⟩ HO7.out (by omega) HB7.out.size
         obtain ⟨A8, k8, hv8, hx8⟩ := ownsRow.form ho8
         subst hv8
         have HR8 := hid hr8
         have HO8 := hid ho8
         have HB8 := hid (HB7.out.trans hb8)
         clear hap hwz hor hwy
         clear hr8 ho8 hb8 hx8
         go_wp2_with (first | refine load_arc rfl _ rfl _ rfl HAX7.out ?_ | refine build_term rfl _ _ _ rfl (r := a) (up := !up) (sg := (-1)) rfl rfl rfl ?_ | refine buildl_term rfl _ rfl (r := ⟨a, !up, -1⟩) rfl ?_ | (at_builtin; refine wpList_app rfl rfl rfl rfl rfl HR8.out ?_))
         go_roundg (L.length - (k + 1))
         case measure => omega
         case rel => exact ⟨k + 1, by omega, rfl, by go_num, by rw [HSN2.out]; exact hid (by have := HO8.out; simpa using this), HB8⟩
        ·have d3 : (wa == way) = false := beq_eq_false_iff_ne.2 hwy
         have HSN2 : Hid ((L.take (k + 1)).filterMap (termOf p up side way) = D ++ [⟨a, up, 1⟩]) := hid (by rw [HSN.out, HTO.out, if_neg hor, if_neg hwy])
         obtain ⟨v8, w8, hr8, ho8, hb8⟩ := app_term ⟨a, up, 1⟩ HO7.out (by omega) HB7.out.size
         obtain ⟨A8, k8, hv8, hx8⟩ := ownsRow.form ho8
         subst hv8
         have HR8 := hid hr8
         have HO8 := hid ho8
         have HB8 := hid (HB7.out.trans hb8)
         clear hap hwz hor hwy
         clear hr8 ho8 hb8 hx8
         go_wp2_with (first | refine load_arc rfl _ rfl _ rfl HAX7.out ?_ | refine build_term rfl _ _ _ rfl (r := a) (up := up) (sg := 1) rfl rfl rfl ?_ | refine buildl_term rfl _ rfl (r := ⟨a, up, 1⟩) rfl ?_ | (at_builtin; refine wpList_app rfl rfl rfl rfl rfl HR8.out ?_))
         go_roundg (L.length - (k + 1))
         case measure => omega
         case rel => exact ⟨k + 1, by omega, rfl, by go_num, by rw [HSN2.out]; exact hid (by have := HO8.out; simpa using this), HB8⟩
     ·obtain rfl : k = L.length := by omega
      have ho := how.out
      rw [List.take_length] at ho
      obtain ⟨A7, k7, hv7, hx1⟩ := ownsRow.form ho
      subst hv7
      have HO := hid ho
      clear ho hx1 how
      go_wp2_with fail
      go_ret2
      have h4 := HB4.out.size
      exact ⟨HB4.out.trans (hbw.out.mono h4), _, rfl, own_lo HO.out h4⟩
def sumT (l : List Term) : Int := l.foldl (fun s t => s + t.sign * endF t.arc t.up) 0
theorem sumT_take (l : List Term) (k : Nat) (h : k < l.length) : sumT (l.take (k + 1)) = sumT (l.take k) + l[k].sign * endF l[k].arc l[k].up := by
 unfold sumT
 rw [List.take_succ_eq_append_getElem h, List.foldl_append]
 rfl
/-- A term's sign is one, or less one; its arc is one of L. -/
theorem terms_mem {L : List Arc} {p : Int} {up : Bool} {side : List Int} {own : Arc} (ho : own ∈ L) {l : List Term} (h : termsF L p up side own = some l) : ∀ t ∈ l, t.arc ∈ L ∧ (t.sign = 1 ∨ t.sign = -1) := by
 unfold termsF at h
 split at h
 ·cases h
  intro t ht
  rw [List.mem_singleton] at ht
  subst ht
  exact ⟨ho, .inl rfl⟩
 ·split at h
  ·cases h
  ·cases h
   intro t ht
   obtain ⟨a, ha, hq⟩ := List.mem_filterMap.1 ht
   unfold termOf at hq
   split at hq
   ·cases hq
   ·split at hq
    ·cases hq; exact ⟨ha, .inr rfl⟩
    ·cases hq; exact ⟨ha, .inl rfl⟩
theorem terms_len {L : List Arc} {p : Int} {up : Bool} {side : List Int} {own : Arc} (ho : own ∈ L) {l : List Term} (h : termsF L p up side own = some l) : l.length ≤ L.length := by
 unfold termsF at h
 split at h
 ·cases h
  exact List.length_pos_of_mem ho
 ·split at h
  ·cases h
  ·cases h
   exact List.length_filterMap_le _ _
/-- A side shows an end. -/
def ShowsB (L : List Arc) (p : Int) (up : Bool) (en : Int) (side : List Int) (own : Arc) : Bool := match termsF L p up side own with
 | none => false
 | some l => if up then decide (sumT l ≤ en) else decide (en ≤ sumT l)
theorem load_term_mid {ops : Array Oper} {rest : List Oper} {o : Oper} {a : Act} {w : World} {Q : Exit → Act → World → Prop} (hgd : o.guard = none) (x : Operand) (ho : o.op = .load 109 x)
  (b f : Nat) (hx : a.eval x = .pointer (some ⟨b, f, none⟩)) {r : Term} (hg : w.rangeAt b f (r.cells).toList)
  (h : wpList Tryz.prog ops Q rest (a.put o.dst r.val) w) : wpList Tryz.prog ops Q (o :: rest) a w := by
 refine wpList_load_mid hgd _ x ho b f hx (r.cells).toList _ hg Tryz.underlying109 rfl term_info ?_
 simpa using h
def TermIs (w : World) (b : Nat) (t : Term) : Prop := w.heap[b]? = some (.cells t.cells 109 (0, 0))
theorem TermIs.at_ {w : World} {g : Nat} {t : Term} (h : TermIs w g t) : w.cell? ⟨g, 0, none⟩ = some (.int .i64 t.arc.parcel) ∧ w.cell? ⟨g, 1, none⟩ = some (.int .i64 t.arc.from_) ∧ w.cell? ⟨g, 2, none⟩ = some (.int .i64 t.arc.to_) ∧ w.cell? ⟨g, 3, none⟩ = some (.int .i64 t.arc.lo) ∧ w.cell? ⟨g, 4, none⟩ = some (.int .i64 t.arc.hi) ∧ w.cell? ⟨g, 5, none⟩ = some (.bool t.up) ∧ w.cell? ⟨g, 6, none⟩ = some (.int .i64 t.sign) := by
 unfold TermIs at h
 simp [World.cell?, h, Term.cells]
theorem TermIs.below {w w' : World} {g : Nat} {t : Term} (h : TermIs w g t) (hb : Below w.heap.size w w') : TermIs w' g t := (hb.block g (Array.getElem?_eq_some_iff.1 h).1).trans h
theorem store_term_new {ops : Array Oper} {rest : List Oper} {o : Oper} {a : Act} {w : World} {Q : Exit → Act → World → Prop} (hgd : o.guard = none) (x y : Operand) (ho : o.op = .store 109 x y)
  {g : Nat} (hx : a.eval x = .pointer (some ⟨g, 0, none⟩)) (hgw : g = w.heap.size) {q : Term} (hy : a.eval y = q.val) {zs : Array Value} (hs : zs.size = 7)
  (h : ∀ W, TermIs W g q → Below w.heap.size w W → w.heap.size < W.heap.size → wpList Tryz.prog ops Q rest (a.put o.dst undef) W) : wpList Tryz.prog ops Q (o :: rest) a (w.alloc (.cells zs 109)) := by
 subst hgw
 refine wpList_store_row hgd _ x y ho w.heap.size q.cells hx hy _ zs (heap_alloc_new w _) term_info (hs.trans rfl) (term_one q) (h _ (setRow_heap _ _ _ _ _ _ (heap_alloc_new w _)) (below_setRow ((Below.refl _ _).alloc (Nat.le_refl _) _) (Nat.le_refl _) _) ?_)
 simp
def CheckSidePost (L : List Ent) (K p : Int) (up : Bool) (en : Int) (side : List Int) (w : World) (e : Ending) (w' : World) : Prop :=
 Below w.heap.size w w' ∧
   ((∃ er, FailsBy L K [p] er ∧ e = .returned (.tuple #[.bool false, .int .i64 er])) ∨ (Valid (reps L) ∧ ∃ ids, IdsOf (countE L K) ids ∧ p ∈ ids ∧ ∃ t, e = .returned (.tuple #[.bool t, .int .i64 0]) ∧ (t = true ↔ (IsSideP (reps (countE L K)) side ∧ ShowsB (arcsF (countE L K) ids) p up en side (arcF (countE L K) p) = true))))
theorem enters_end : Enters 68 := fun args w => by kernel_rfl
set_option maxHeartbeats 16000000 in
theorem checkSide_any (A : Option Addr) (cap : Nat) (L : List Ent) (K p : Int) (up : Bool) (en : Int) {S : Option Addr} {sc : Nat} {side : List Int} (w : World) (hA : EntsAt w A L) (hl : L.length ≤ 210) (hcap : L.length ≤ cap) (hS : IntsAt w S side) (hsl : side.length ≤ 1000000) :
  Calls Tryz.prog 30 #[.slice A L.length cap, .int .i64 K, .int .i64 p, .bool up, .int .i64 en, .slice S side.length sc] w (CheckSidePost L K p up en side w) := by
 have HLK := hid (looks_later hA hl hcap K [p] (by simp) 1)
 have HCL : Hid ((countE L K).length ≤ 210) := hid (Nat.le_trans (countE_len L K) hl)
 have HS := hid hS
 clear hA hS
 go_enter Tryz.func30, Tryz.ntmps30
 go_wp2_with fail
 refine (HLK.out _ _ ((Below.refl _ _).alloc (Nat.le_refl _) _) (ints_new w p)).mono ?_
 rintro e w2 hpost
 obtain ⟨hb2, hcase⟩ := looks_two hpost
 have HB2 := hid (((Below.refl _ w).alloc (Nat.le_refl _) (.cells #[.int .i64 p] 3)).trans (hb2.mono (by simp)))
 clear hpost hb2
 rcases hcase with ⟨er, hf, rfl⟩ | ⟨hv, ids, hids, hin, bb, s, r1, r2, r3, r4, A2, cap2, rfl, hla⟩
 ·have hne : (er != 0) = true := bne_iff_ne.2 hf.ne
  have HF := hid hf
  clear hf
  go_wp2_with fail
  go_ret2
  unfold CheckSidePost
  exact ⟨HB2.out, .inl ⟨er, HF.out, rfl⟩⟩
 ·have HI := hid hids
  have HIN := hid (hin p (by simp))
  have HV := hid hv
  have hso := hla.sound
  have hil := ids_few hso HCL.out hids
  have HSO := hid hso
  have HLA := hid hla
  obtain ⟨C, hC⟩ : ∃ C, countE L K = C := ⟨_, rfl⟩
  rw [hC] at HI HCL HSO HLA
  have HCE := hid hC
  have HIS := hid (isSide_any HLA.out HCL.out (sc := sc) (HS.out.kept (Kept.of_below HB2.out)) hsl)
  clear hids hin hv hla hso hC HLK
  go_wp2_with fail
  refine HIS.out.mono ?_
  rintro e w3 ⟨⟨t, rfl, ht⟩, hb3⟩
  have HB3 := hid (HB2.out.trans (hb3.mono HB2.out.size))
  have HLA3 := hid (HLA.out.below hb3)
  have HT := hid ht
  clear hb3 HIS ht
  rcases t with _ | _
  ·go_wp2_with fail
   go_ret2
   unfold CheckSidePost
   rw [HCE.out]
   refine ⟨HB3.out, .inr ⟨HV.out, ids, HI.out, HIN.out, false, rfl, ?_⟩⟩
   simp only [Bool.false_eq_true, false_iff]
   rintro ⟨h, _⟩
   have := HT.out.2 h
   cases this
  ·have HTE := hid (terms_any HLA3.out (by omega) p HIN.out up (sc := sc) (HS.out.kept (Kept.of_below HB3.out)) hsl)
   have hmem : arcF C p ∈ arcsF C ids := List.mem_map_of_mem (f := arcF C) HIN.out
   have hgl := arcs_good HSO.out ids
   have hLl : (arcsF C ids).length = ids.length := by simp [arcsF]
   obtain ⟨AL, hAL⟩ : ∃ AL, arcsF C ids = AL := ⟨_, rfl⟩
   rw [hAL] at HTE hmem hgl hLl
   have HALE := hid hAL
   have hsh : ShowsB AL p up en side (arcF C p) = match termsF AL p up side (arcF C p) with | none => false | some l => if up then decide (sumT l ≤ en) else decide (en ≤ sumT l) := rfl
   have htm := fun l (h : termsF AL p up side (arcF C p) = some l) => terms_mem hmem h
   have htl := fun l (h : termsF AL p up side (arcF C p) = some l) => terms_len hmem h
   obtain ⟨TF, hTF⟩ : ∃ TF, termsF AL p up side (arcF C p) = TF := ⟨_, rfl⟩
   rw [hTF] at HTE hsh
   simp only [hTF] at htm htl
   obtain ⟨SB, hSB⟩ : ∃ SB, ShowsB AL p up en side (arcF C p) = SB := ⟨_, rfl⟩
   rw [hSB] at hsh
   have HSH := hid hsh
   have HSBE := hid hSB
   have HTM := hid htm
   have HTL := hid htl
   have HGL := hid hgl
   clear hTF hSB hsh hmem hAL htm htl hgl
   go_wp2_with fail
   refine HTE.out.mono ?_
   rintro e w4 ⟨hb4, hcase⟩
   have HB4 := hid (HB3.out.trans (hb4.mono HB3.out.size))
   clear hb4 HTE
   rcases TF with _ | l
   ·dsimp only at hcase
    subst hcase
    have h1 := HSH.out
    dsimp only at h1
    go_wp2_with fail
    go_ret2
    unfold CheckSidePost
    rw [HCE.out]
    refine ⟨HB4.out, .inr ⟨HV.out, ids, HI.out, HIN.out, false, rfl, ?_⟩⟩
    simp only [Bool.false_eq_true, false_iff]
    rintro ⟨_, h⟩
    rw [HALE.out, HSBE.out, h1] at h
    cases h
   ·obtain ⟨v, rfl, ho⟩ := hcase
    obtain ⟨A7, k7, rfl, hx1, hx2, hx3⟩ := ownsRow.form ho
    have HTA := hid (terms_of_cells hx1)
    have HTM2 := hid (HTM.out l rfl)
    have hll : l.length ≤ 2000 := by have := HTL.out l rfl; omega
    clear hx1 hx3 ho HTM HTL
    go_upto_region 11 with fail
    obtain ⟨V, hV⟩ : ∃ V, V = w4 := ⟨_, rfl⟩
    subst hV
    go_loopg [18, 48] (l.length) (fun gm sv iv wq => ∃ k : Nat, k ≤ l.length ∧ gm = l.length - k ∧ iv = .int .i64 k ∧ sv = .int .i64 (sumT (l.take k)) ∧ Hid (-1000000000000000 * (k : Int) ≤ sumT (l.take k) ∧ sumT (l.take k) ≤ 1000000000000000 * (k : Int)) ∧ Hid (Below V.heap.size V wq))
    case atStart => exact ⟨0, by omega, by omega, rfl, rfl, hid (by simp [sumT]), hid (Below.refl _ _)⟩
    case round =>
     obtain ⟨k, hk, hgk, rfl, rfl, hsb, hbw⟩ := hrel
     by_cases hkl : k < l.length
     ·obtain ⟨b4, off4, hAe, hrg⟩ := (HTA.out.kept (Kept.of_below hbw.out)) (by omega)
      cases hAe
      have hra := hrg k hkl
      have hst := sumT_take l k hkl
      have htm := HTM2.out l[k] (List.getElem_mem hkl)
      obtain ⟨t, htk⟩ : ∃ t, l[k] = t := ⟨_, rfl⟩
      rw [htk] at hra hst htm
      obtain ⟨sm, hsm⟩ : ∃ sm, sumT (l.take k) = sm := ⟨_, rfl⟩
      rw [hsm] at hst hsb ⊢
      have hea : okN (endF t.arc t.up) = true := by
       have h1 := HGL.out t.arc htm.1
       unfold endF
       rcases t.up with _ | _
       ·exact h1.1
       ·exact h1.2
      have heb := okN_le hea
      have HRA := hid hra
      have HST := hid hst
      have i0 : (0 : Int) ≤ k := by omega
      have i1 : (k : Int) < l.length := by omega
      obtain ⟨ev, hev⟩ : ∃ ev, endF t.arc t.up = ev := ⟨_, rfl⟩
      obtain ⟨pr, hpr⟩ : ∃ pr, t.sign * ev = pr := ⟨_, rfl⟩
      rw [hev] at heb HST
      have hpb : -1000000000000000 ≤ pr ∧ pr ≤ 1000000000000000 := by
       rcases htm.2 with h | h <;> rw [h] at hpr <;> omega
      have hsb2 := hsb.out
      have hww : IntKind.i64.wrap (sm + IntKind.i64.wrap (t.sign * ev)) = sm + t.sign * ev := by
       rw [hpr]
       simp only [IntKind.wrap, IntKind.bits, IntKind.signed]
       simp
       omega
      have hbn : -1000000000000000 * ((k + 1 : Nat) : Int) ≤ sm + t.sign * ev ∧ sm + t.sign * ev ≤ 1000000000000000 * ((k + 1 : Nat) : Int) := by
       rw [hpr]
       omega
      have HWW := hid hww
      have HBN := hid hbn
      have HEV := hid hev
      clear hrg hra hst htk hsm hea hev hpr hww hbn hsb2 hpb heb htm
      go_upto_region 13 with (first | refine load_term_mid rfl _ rfl _ _ rfl HRA.out ?_ | (refine store_term_new rfl _ _ rfl rfl rfl (q := t) rfl rfl ?_; intro W6 hax6 hb6 hlt6; have HAX := hid (hax6.below (Below.refl _ _).drew); have HB6 := hid (hbw.out.trans ((hb6.trans ((Below.refl _ _).drew.mono hb6.size)).mono hbw.out.size)); clear hax6 hb6))
      have HEN := hid (end_any t.arc t.up W6.drew)
      rw [HEV.out] at HEN
      refine wp_region_noPanic ?_
      refine wp_region_held_drew (S := fun w' => w'.cell? ⟨wr.heap.size, 0, none⟩ = some (.int .i64 t.arc.parcel) ∧ w'.cell? ⟨wr.heap.size, 1, none⟩ = some (.int .i64 t.arc.from_) ∧ w'.cell? ⟨wr.heap.size, 2, none⟩ = some (.int .i64 t.arc.to_) ∧ w'.cell? ⟨wr.heap.size, 3, none⟩ = some (.int .i64 t.arc.lo) ∧ w'.cell? ⟨wr.heap.size, 4, none⟩ = some (.int .i64 t.arc.hi) ∧ w'.cell? ⟨wr.heap.size, 5, none⟩ = some (.bool t.up) ∧ w'.cell? ⟨wr.heap.size, 6, none⟩ = some (.int .i64 t.sign)) (by kernel_rfl) (HAX.out.at_) (fun hHeld => ?_)
      refine tk 0 (fun _ _ _ _ _ h => h) (by kernel_rfl) ‹_› ⟨_, ?_, by simp only [zz1, zz2]; rfl, .inl ⟨by rfl, ?_⟩, ?_⟩; rotate_left; · (intro w hSw; (try dsimp only at hSw); go_simp; all_goals with_reducible rfl)
      simp only [Act.put, zz4, zz5, zz6]
      refine tk 1 (fun _ _ _ _ _ h => h) (by kernel_rfl) ‹_› ⟨_, ?_, by simp only [zz1, zz2, zz3]; rfl, .inl ⟨by rfl, ?_⟩, ?_⟩; rotate_left; · (intro w hSw; (try dsimp only at hSw); go_simp; all_goals with_reducible rfl)
      simp only [Act.put, zz4, zz5, zz6]
      refine tk 2 (fun _ _ _ _ _ h => h) (by kernel_rfl) ‹_› ⟨_, ?_, by simp only [zz1, zz2, zz3]; rfl, .inl ⟨by rfl, ?_⟩, ?_⟩; rotate_left; · (intro w hSw; (try dsimp only at hSw); go_simp; all_goals with_reducible rfl)
      simp only [Act.put, zz4, zz5, zz6]
      refine tk 3 (fun _ _ _ _ _ h => h) (by kernel_rfl) ‹_› ⟨_, ?_, by simp only [zz1, zz2, zz3]; rfl, .inl ⟨by rfl, ?_⟩, ?_⟩; rotate_left; · (intro w hSw; (try dsimp only at hSw); go_simp; all_goals with_reducible rfl)
      simp only [Act.put, zz4, zz5, zz6]
      refine tk 4 (fun _ _ _ _ _ h => h) (by kernel_rfl) ‹_› ⟨_, ?_, by simp only [zz1, zz2, zz3]; rfl, .inl ⟨by rfl, ?_⟩, ?_⟩; rotate_left; · (intro w hSw; (try dsimp only at hSw); go_simp; all_goals with_reducible rfl)
      simp only [Act.put, zz4, zz5, zz6]
      refine tk 5 (fun _ _ _ _ _ h => h) (by kernel_rfl) ‹_› ⟨_, ?_, by simp only [zz1, zz2, zz3]; rfl, .inl ⟨by rfl, ?_⟩, ?_⟩; rotate_left; · (intro w hSw; (try dsimp only at hSw); go_simp; all_goals with_reducible rfl)
      simp only [Act.put, zz4, zz5, zz6]
      refine tk 6 (fun _ _ _ _ _ h => h) (by kernel_rfl) ‹_› ⟨_, ?_, by simp only [zz1, zz2, zz3]; rfl, .inl ⟨by rfl, ?_⟩, ?_⟩; rotate_left; · (intro w hSw; (try dsimp only at hSw); go_simp; all_goals with_reducible rfl)
      simp only [Act.put, zz4, zz5, zz6]
      refine wpAnyH_ready (rs := [7]) (by kernel_rfl) (by simp) ?_
      refine cons_one (i := 7) ⟨_, by simp only [zz1, zz2, zz3]; rfl, fun K hK => ?_⟩ ?_
      rotate_left
      ·exact AllReadyH.nil
      refine step_call rfl #[.tmp 56, .tmp 58] 68 _ rfl enters_end #[t.arc.val, .bool t.up] ?hs (fun u w' => u = .int .i64 ev ∧ Below W6.drew.heap.size W6.drew w') (HEN.out.mono (fun e w' h => ⟨_, h.1, rfl, h.2⟩)) ?_
      case hs => simp [Act.eval, Arc.val, Arc.cells]
      rintro _ w7 ⟨rfl, hb7⟩
      have HAX7 := hid (HAX.out.below hb7)
      have HB7 := hid (HB6.out.trans (hb7.mono HB6.out.size))
      clear hb7
      clear hHeld
      refine hK.out _ _ (HAX7.out.at_) (fun hHeld => ?_)
      clear hK K
      try simp only [Act.put, zz4, zz5, zz6]
      refine tk 8 (fun _ _ _ _ _ h => h) (by kernel_rfl) ‹_› ⟨_, ?_, by simp only [zz1, zz2, zz3]; rfl, .inl ⟨by rfl, ?_⟩, ?_⟩; rotate_left; · (intro w hSw; (try dsimp only at hSw); go_simp; all_goals with_reducible rfl)
      simp only [Act.put, zz4, zz5, zz6]
      refine tk 9 (fun _ _ _ _ _ h => h) (by kernel_rfl) ‹_› ⟨_, ?_, by simp only [zz1, zz2, zz3]; rfl, .inl ⟨by rfl, ?_⟩, ?_⟩; rotate_left; · (intro w hSw; (try dsimp only at hSw); go_simp; all_goals with_reducible rfl)
      simp only [Act.put, zz4, zz5, zz6]
      refine tk 10 (fun _ _ _ _ _ h => h) (by kernel_rfl) ‹_› ⟨_, ?_, by simp only [zz1, zz2, zz3]; rfl, .inl ⟨by rfl, ?_⟩, ?_⟩; rotate_left; · (intro w hSw; (try dsimp only at hSw); go_simp; all_goals with_reducible rfl)
      simp only [Act.put, zz4, zz5, zz6]
      refine wpAnyH_done (by kernel_rfl) ?_ _
      refine NoPanic.normal ?_
      rw [HWW.out]
      go_wp2_with fail
      go_roundg (l.length - (k + 1))
      case measure => omega
      case rel => exact ⟨k + 1, by omega, rfl, by go_num, by rw [HST.out], hid (by rw [HST.out]; exact HBN.out), HB7⟩
     ·obtain rfl : k = l.length := by omega
      rw [List.take_length]
      have h1 := HSH.out
      try dsimp only at h1
      obtain ⟨sm, hsm⟩ : ∃ sm, sumT l = sm := ⟨_, rfl⟩
      rw [hsm] at h1 ⊢
      clear hsm hsb
      rcases up with _ | _
      ·rw [if_neg (by simp)] at h1
       have HSB := hid h1
       clear h1
       go_wp2_with fail
       go_ret2
       unfold CheckSidePost
       rw [HCE.out]
       refine ⟨HB4.out.trans (hbw.out.mono HB4.out.size), .inr ⟨HV.out, ids, HI.out, HIN.out, _, rfl, ?_⟩⟩
       rw [HALE.out, HSBE.out, HSB.out]
       exact ⟨fun h => ⟨HT.out.1 trivial, h⟩, fun h => h.2⟩
      ·rw [if_pos rfl] at h1
       have HSB := hid h1
       clear h1
       by_cases hd : sm ≤ en
       ·have dd : decide (sm ≤ en) = true := decide_eq_true hd
        clear hd
        go_wp2_with fail
        go_ret2
        unfold CheckSidePost
        rw [HCE.out]
        refine ⟨HB4.out.trans (hbw.out.mono HB4.out.size), .inr ⟨HV.out, ids, HI.out, HIN.out, _, rfl, ?_⟩⟩
        rw [HALE.out, HSBE.out, HSB.out]
        first | exact ⟨fun _ => ⟨HT.out.1 trivial, dd⟩, fun _ => rfl⟩ | exact ⟨fun h => ⟨HT.out.1 trivial, h⟩, fun h => h.2⟩
       ·have dd : decide (sm ≤ en) = false := decide_eq_false hd
        clear hd
        go_wp2_with fail
        go_ret2
        unfold CheckSidePost
        rw [HCE.out]
        refine ⟨HB4.out.trans (hbw.out.mono HB4.out.size), .inr ⟨HV.out, ids, HI.out, HIN.out, _, rfl, ?_⟩⟩
        rw [HALE.out, HSBE.out, HSB.out]
        first | exact ⟨fun h => ⟨HT.out.1 trivial, h⟩, fun h => h.2⟩ | exact ⟨fun h => (by cases h), fun h => (by rw [dd] at h; cases h.2)⟩
end Go.Proofs.YtfaoillnakhejaaGreat
