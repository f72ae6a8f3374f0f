/- DERIVED: THE SHELF's CONTRACTS AT THIS DUMP, IN PLAIN WORDS (tools/lay-plain.mjs out of 'TryzShelf.lean', which tools/lay-shelf.mjs wrote): THE SAME DECLARATIONS UNDER THE SAME NAMES: 'import', 'namespace', 'open', 'def', 'theorem' AND NOTHING ELSE: no command of the shelf's: FOR A HAND-IN. Each laying: the table of numbers ('.._ren') and one theorem, a field a fact of the dump's own or the kernel's comparison; each contract: ONE APPLICATION. -/
import Derived.Shelf.Sort.Plain
import Derived.Shelf.Slices.In.SortNone
import Derived.Test.YtfaoillnakhejaaGreatProg
namespace Go.Proofs
open Go.Shelf
def Tryz.lays189_ren : Go.Shelf.Ren := ⟨fun | 189 => 89 | 125 => 132 | 257 => 131 | 128 => 171 | 129 => 172 | 294 => 162 | 295 => 163 | 296 => 164 | 297 => 165 | 298 => 166 | 299 => 167 | 216 => 168 | 300 => 169 | 301 => 170 | 328 => 180 | 329 => 181 | 330 => 182 | 331 => 183 | 332 => 184 | 215 => 185 | 343 => 191 | n => n, fun | 28 => 25 | 3 => 3 | 46 => 161 | 0 => 0 | 51 => 184 | 53 => 186 | 4 => 4 | 183 => 177 | 182 => 176 | 131 => 81 | 5 => 5 | 9 => 9 | 218 => 190 | 222 => 194 | 228 => 200 | 229 => 201 | n => n, fun | n => n⟩
theorem Tryz.lays189 : Go.Proofs.Lays.n189 Tryz.prog Tryz.lays189_ren := {
  mixed := by kernel_rfl
  f125 := Tryz.func132.trans (congrArg some (by kernel_rfl))
  f128 := Tryz.func171.trans (congrArg some (by kernel_rfl))
  f129 := Tryz.func172.trans (congrArg some (by kernel_rfl))
  f189 := Tryz.func89.trans (congrArg some (by kernel_rfl))
  f215 := Tryz.func185.trans (congrArg some (by kernel_rfl))
  f216 := Tryz.func168.trans (congrArg some (by kernel_rfl))
  f257 := Tryz.func131.trans (congrArg some (by kernel_rfl))
  f294 := Tryz.func162.trans (congrArg some (by kernel_rfl))
  f295 := Tryz.func163.trans (congrArg some (by kernel_rfl))
  f296 := Tryz.func164.trans (congrArg some (by kernel_rfl))
  f297 := Tryz.func165.trans (congrArg some (by kernel_rfl))
  f298 := Tryz.func166.trans (congrArg some (by kernel_rfl))
  f299 := Tryz.func167.trans (congrArg some (by kernel_rfl))
  f300 := Tryz.func169.trans (congrArg some (by kernel_rfl))
  f301 := Tryz.func170.trans (congrArg some (by kernel_rfl))
  f328 := Tryz.func180.trans (congrArg some (by kernel_rfl))
  f329 := Tryz.func181.trans (congrArg some (by kernel_rfl))
  f330 := Tryz.func182.trans (congrArg some (by kernel_rfl))
  f331 := Tryz.func183.trans (congrArg some (by kernel_rfl))
  f332 := Tryz.func184.trans (congrArg some (by kernel_rfl))
  f343 := Tryz.func191.trans (congrArg some (by kernel_rfl))
  t0 := Tryz.underlying0
  a0 := Tryz.isAgg0
  z0 := Tryz.sizeOf0
  v0 := Tryz.zeroValue0
  t3 := Tryz.underlying3
  a3 := Tryz.isAgg3
  z3 := Tryz.sizeOf3
  v3 := Tryz.zeroValue3
  t4 := Tryz.underlying4
  a4 := Tryz.isAgg4
  z4 := Tryz.sizeOf4
  v4 := Tryz.zeroValue4
  t5 := Tryz.underlying5
  a5 := Tryz.isAgg5
  z5 := Tryz.sizeOf5
  v5 := Tryz.zeroValue5
  t9 := Tryz.underlying9
  a9 := Tryz.isAgg9
  z9 := Tryz.sizeOf9
  v9 := Tryz.zeroValue9
  t28 := Tryz.underlying25
  a28 := Tryz.isAgg25
  z28 := Tryz.sizeOf25
  v28 := Tryz.zeroValue25
  t46 := Tryz.underlying161
  a46 := Tryz.isAgg161
  z46 := Tryz.sizeOf161
  v46 := Tryz.zeroValue161
  t51 := Tryz.underlying184
  a51 := Tryz.isAgg184
  z51 := Tryz.sizeOf184
  v51 := Tryz.zeroValue184
  t53 := Tryz.underlying186
  a53 := Tryz.isAgg186
  z53 := Tryz.sizeOf186
  v53 := Tryz.zeroValue186
  t131 := Tryz.underlying81
  a131 := Tryz.isAgg81
  z131 := Tryz.sizeOf81
  v131 := Tryz.zeroValue81
  t182 := Tryz.underlying176
  a182 := Tryz.isAgg176
  z182 := Tryz.sizeOf176
  v182 := Tryz.zeroValue176
  t183 := Tryz.underlying177
  a183 := Tryz.isAgg177
  z183 := Tryz.sizeOf177
  v183 := Tryz.zeroValue177
  t218 := Tryz.underlying190
  a218 := Tryz.isAgg190
  z218 := Tryz.sizeOf190
  v218 := Tryz.zeroValue190
  t222 := Tryz.underlying194
  a222 := Tryz.isAgg194
  z222 := Tryz.sizeOf194
  v222 := Tryz.zeroValue194
  t228 := Tryz.underlying200
  a228 := Tryz.isAgg200
  z228 := Tryz.sizeOf200
  v228 := Tryz.zeroValue200
  t229 := Tryz.underlying201
  a229 := Tryz.isAgg201
  z229 := Tryz.sizeOf201
  v229 := Tryz.zeroValue201 }
open Go.Sort Go.RowKit in
theorem Tryz.slices_Sort_int (blk off cap : Nat) (zs : List Int) (w : World) (hH : Holds (Value.int .i64) w blk off zs.toArray) (hblk : blk < w.heap.size) (hsz : zs.length < 4611686018427387904) :
    Calls Tryz.prog 89 #[.slice (some ⟨blk, off, none⟩) zs.length cap] w fun e w' =>
      e = .returned (.tuple #[]) ∧ ∃ n os, w' = grow (putRow (Value.int .i64) (Sort.ahead w n) blk off (zs.mergeSort fun x y => decide (x ≤ y)).toArray) os := Any.slices_Sort_int Tryz.lays189 blk off cap zs w hH hblk hsz
open Go.RowKit Go.Sort in
/-- .. and plain. (LAID: no walk: one application.) -/
theorem Tryz.slices_Sort_int_none (p : Option Addr) (cap : Nat) (w : World) :
    Calls Tryz.prog 89 #[.slice p 0 cap] w fun e w' => e = .returned (.tuple #[]) ∧ w' = w := Any.slices_Sort_int_none Tryz.lays189 p cap w
end Go.Proofs
