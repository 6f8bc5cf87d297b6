/-
  DERIVED: THE SHELF's CONTRACTS AT THIS DUMP, IN PLAIN WORDS (tools/lay-plain.mjs out of 'TryShelf.lean', which tools/lay-shelf.mjs wrote): THE SAME DECLARATIONS UNDER THE SAME NAMES: 'import', 'namespace', 'open', 'def', 'theorem' AND NOTHING ELSE: no command of the shelf's: FOR A HAND-IN. Each laying: the table of numbers ('.._ren') and one theorem, a field a fact of the dump's own or the kernel's comparison; each contract: ONE APPLICATION.
-/
import Derived.Shelf.Sort.Plain
import Derived.Test.YtkldomkooleecaaProg
namespace Go.Proofs
open Go.Shelf
def Try.lays189_ren : Go.Shelf.Ren := ⟨fun | 189 => 54 | 125 => 63 | 257 => 62 | 128 => 83 | 129 => 84 | 294 => 74 | 295 => 75 | 296 => 76 | 297 => 77 | 298 => 78 | 299 => 79 | 216 => 80 | 300 => 81 | 301 => 82 | 328 => 98 | 329 => 99 | 330 => 100 | 331 => 101 | 332 => 102 | 215 => 96 | 343 => 108 | n => n, fun | 28 => 22 | 3 => 3 | 46 => 113 | 0 => 0 | 51 => 139 | 53 => 141 | 4 => 4 | 183 => 132 | 182 => 131 | 131 => 136 | 5 => 5 | 9 => 9 | 218 => 155 | 222 => 159 | 228 => 170 | 229 => 171 | n => n, fun | n => n⟩
theorem Try.lays189 : Go.Proofs.Lays.n189 Try.prog Try.lays189_ren := {
  mixed := by kernel_rfl
  f125 := Try.func63.trans (congrArg some (by kernel_rfl))
  f128 := Try.func83.trans (congrArg some (by kernel_rfl))
  f129 := Try.func84.trans (congrArg some (by kernel_rfl))
  f189 := Try.func54.trans (congrArg some (by kernel_rfl))
  f215 := Try.func96.trans (congrArg some (by kernel_rfl))
  f216 := Try.func80.trans (congrArg some (by kernel_rfl))
  f257 := Try.func62.trans (congrArg some (by kernel_rfl))
  f294 := Try.func74.trans (congrArg some (by kernel_rfl))
  f295 := Try.func75.trans (congrArg some (by kernel_rfl))
  f296 := Try.func76.trans (congrArg some (by kernel_rfl))
  f297 := Try.func77.trans (congrArg some (by kernel_rfl))
  f298 := Try.func78.trans (congrArg some (by kernel_rfl))
  f299 := Try.func79.trans (congrArg some (by kernel_rfl))
  f300 := Try.func81.trans (congrArg some (by kernel_rfl))
  f301 := Try.func82.trans (congrArg some (by kernel_rfl))
  f328 := Try.func98.trans (congrArg some (by kernel_rfl))
  f329 := Try.func99.trans (congrArg some (by kernel_rfl))
  f330 := Try.func100.trans (congrArg some (by kernel_rfl))
  f331 := Try.func101.trans (congrArg some (by kernel_rfl))
  f332 := Try.func102.trans (congrArg some (by kernel_rfl))
  f343 := Try.func108.trans (congrArg some (by kernel_rfl))
  t0 := Try.underlying0
  a0 := Try.isAgg0
  z0 := Try.sizeOf0
  v0 := Try.zeroValue0
  t3 := Try.underlying3
  a3 := Try.isAgg3
  z3 := Try.sizeOf3
  v3 := Try.zeroValue3
  t4 := Try.underlying4
  a4 := Try.isAgg4
  z4 := Try.sizeOf4
  v4 := Try.zeroValue4
  t5 := Try.underlying5
  a5 := Try.isAgg5
  z5 := Try.sizeOf5
  v5 := Try.zeroValue5
  t9 := Try.underlying9
  a9 := Try.isAgg9
  z9 := Try.sizeOf9
  v9 := Try.zeroValue9
  t28 := Try.underlying22
  a28 := Try.isAgg22
  z28 := Try.sizeOf22
  v28 := Try.zeroValue22
  t46 := Try.underlying113
  a46 := Try.isAgg113
  z46 := Try.sizeOf113
  v46 := Try.zeroValue113
  t51 := Try.underlying139
  a51 := Try.isAgg139
  z51 := Try.sizeOf139
  v51 := Try.zeroValue139
  t53 := Try.underlying141
  a53 := Try.isAgg141
  z53 := Try.sizeOf141
  v53 := Try.zeroValue141
  t131 := Try.underlying136
  a131 := Try.isAgg136
  z131 := Try.sizeOf136
  v131 := Try.zeroValue136
  t182 := Try.underlying131
  a182 := Try.isAgg131
  z182 := Try.sizeOf131
  v182 := Try.zeroValue131
  t183 := Try.underlying132
  a183 := Try.isAgg132
  z183 := Try.sizeOf132
  v183 := Try.zeroValue132
  t218 := Try.underlying155
  a218 := Try.isAgg155
  z218 := Try.sizeOf155
  v218 := Try.zeroValue155
  t222 := Try.underlying159
  a222 := Try.isAgg159
  z222 := Try.sizeOf159
  v222 := Try.zeroValue159
  t228 := Try.underlying170
  a228 := Try.isAgg170
  z228 := Try.sizeOf170
  v228 := Try.zeroValue170
  t229 := Try.underlying171
  a229 := Try.isAgg171
  z229 := Try.sizeOf171
  v229 := Try.zeroValue171 }
open Go.Sort Go.RowKit in
theorem Try.slices_Sort_int (blk off cap : Nat) (zs : List Int) (w : World) (hH : Holds (Value.int .i64) w blk off zs.toArray) (hblk : blk < w.heap.size) (hsz : zs.length < 4611686018427387904) :
    Calls Try.prog 54 #[.slice (some ⟨blk, off, none⟩) zs.length cap] w fun e w' =>
      e = .returned (.tuple #[]) ∧ ∃ n os, w' = grow (putRow (Value.int .i64) (Sort.ahead w n) blk off (zs.mergeSort fun x y => decide (x ≤ y)).toArray) os := Any.slices_Sort_int Try.lays189 blk off cap zs w hH hblk hsz
end Go.Proofs
