/-
  DERIVED: THE SHELF's CONTRACTS AT THIS DUMP, IN PLAIN WORDS (tools/lay-plain.mjs out of 'YtkldomkooleecaaShelfG.lean', which tools/lay-shelf.mjs wrote): THE SAME DECLARATIONS UNDER THE SAME NAMES: 'import', 'namespace', 'open', 'def', 'theorem' AND NOTHING ELSE: no command of the shelf's: FOR A HAND-IN. Each laying: the table of numbers ('.._ren') and one theorem, a field a fact of the dump's own or the kernel's comparison; each contract: ONE APPLICATION.
-/
import Derived.Shelf.SortG.Plain
import Derived.Shelf.SortG.SortNone
import Derived.Test.YtkldomkooleecaaProg
namespace Go.Proofs
open Go.Shelf
def Try.lays56_ren : Go.Shelf.Ren := ⟨fun | 53 => 56 | 64 => 63 | 63 => 65 | 78 => 83 | 79 => 84 | 70 => 85 | 71 => 86 | 72 => 87 | 73 => 88 | 74 => 89 | 75 => 90 | 59 => 91 | 76 => 92 | 77 => 93 | 88 => 103 | 89 => 99 | 90 => 100 | 91 => 104 | 92 => 105 | 68 => 106 | 96 => 109 | n => n, fun | 22 => 95 | 23 => 2 | 3 => 3 | 51 => 113 | 0 => 0 | 67 => 139 | 69 => 141 | 4 => 4 | 61 => 132 | 60 => 131 | 44 => 136 | 5 => 5 | 9 => 9 | 75 => 155 | 79 => 159 | 83 => 170 | 84 => 171 | n => n, fun | n => n⟩
theorem Try.lays56 : Go.Proofs.SlLaysN.n53 Try.prog Try.lays56_ren := {
  mixed := by kernel_rfl
  f53 := ⟨Try.f56.name, by decide, Try.func56.trans (congrArg some (by kernel_rfl))⟩
  f59 := ⟨Try.f91.name, by decide, Try.func91.trans (congrArg some (by kernel_rfl))⟩
  f63 := ⟨Try.f65.name, by decide, Try.func65.trans (congrArg some (by kernel_rfl))⟩
  f64 := Try.func63.trans (congrArg some (by kernel_rfl))
  f68 := ⟨Try.f106.name, by decide, Try.func106.trans (congrArg some (by kernel_rfl))⟩
  f70 := ⟨Try.f85.name, by decide, Try.func85.trans (congrArg some (by kernel_rfl))⟩
  f71 := ⟨Try.f86.name, by decide, Try.func86.trans (congrArg some (by kernel_rfl))⟩
  f72 := ⟨Try.f87.name, by decide, Try.func87.trans (congrArg some (by kernel_rfl))⟩
  f73 := ⟨Try.f88.name, by decide, Try.func88.trans (congrArg some (by kernel_rfl))⟩
  f74 := ⟨Try.f89.name, by decide, Try.func89.trans (congrArg some (by kernel_rfl))⟩
  f75 := ⟨Try.f90.name, by decide, Try.func90.trans (congrArg some (by kernel_rfl))⟩
  f76 := ⟨Try.f92.name, by decide, Try.func92.trans (congrArg some (by kernel_rfl))⟩
  f77 := ⟨Try.f93.name, by decide, Try.func93.trans (congrArg some (by kernel_rfl))⟩
  f78 := Try.func83.trans (congrArg some (by kernel_rfl))
  f79 := Try.func84.trans (congrArg some (by kernel_rfl))
  f88 := ⟨Try.f103.name, by decide, Try.func103.trans (congrArg some (by kernel_rfl))⟩
  f89 := Try.func99.trans (congrArg some (by kernel_rfl))
  f90 := Try.func100.trans (congrArg some (by kernel_rfl))
  f91 := ⟨Try.f104.name, by decide, Try.func104.trans (congrArg some (by kernel_rfl))⟩
  f92 := ⟨Try.f105.name, by decide, Try.func105.trans (congrArg some (by kernel_rfl))⟩
  f96 := ⟨Try.f109.name, by decide, Try.func109.trans (congrArg some (by kernel_rfl))⟩
  t0 := Try.underlying0
  a0 := Try.isAgg0
  z0 := Try.sizeOf0
  v0 := Try.zeroValue0
  t3 := Try.underlying3
  a3 := Try.isAgg3
  z3 := Try.sizeOf3
  v3 := Try.zeroValue3
  t4 := Try.underlying4
  a4 := Try.isAgg4
  z4 := Try.sizeOf4
  v4 := Try.zeroValue4
  t5 := Try.underlying5
  a5 := Try.isAgg5
  z5 := Try.sizeOf5
  v5 := Try.zeroValue5
  t9 := Try.underlying9
  a9 := Try.isAgg9
  z9 := Try.sizeOf9
  v9 := Try.zeroValue9
  t22 := Try.underlying95
  a22 := Try.isAgg95
  z22 := Try.sizeOf95
  v22 := Try.zeroValue95
  t23 := Try.underlying2
  a23 := Try.isAgg2
  z23 := Try.sizeOf2
  v23 := Try.zeroValue2
  t44 := Try.underlying136
  a44 := Try.isAgg136
  z44 := Try.sizeOf136
  v44 := Try.zeroValue136
  t51 := Try.underlying113
  a51 := Try.isAgg113
  z51 := Try.sizeOf113
  v51 := Try.zeroValue113
  t60 := Try.underlying131
  a60 := Try.isAgg131
  z60 := Try.sizeOf131
  v60 := Try.zeroValue131
  t61 := Try.underlying132
  a61 := Try.isAgg132
  z61 := Try.sizeOf132
  v61 := Try.zeroValue132
  t67 := Try.underlying139
  a67 := Try.isAgg139
  z67 := Try.sizeOf139
  v67 := Try.zeroValue139
  t69 := Try.underlying141
  a69 := Try.isAgg141
  z69 := Try.sizeOf141
  v69 := Try.zeroValue141
  t75 := Try.underlying155
  a75 := Try.isAgg155
  z75 := Try.sizeOf155
  v75 := Try.zeroValue155
  t79 := Try.underlying159
  a79 := Try.isAgg159
  z79 := Try.sizeOf159
  v79 := Try.zeroValue159
  t83 := Try.underlying170
  a83 := Try.isAgg170
  z83 := Try.sizeOf170
  v83 := Try.zeroValue170
  t84 := Try.underlying171
  a84 := Try.isAgg171
  z84 := Try.sizeOf171
  v84 := Try.zeroValue171 }
open Go.Sort Go.RowKit in
theorem Try.slices_Sort_int64 (blk off cap : Nat) (zs : List Int) (w : World) (hH : Holds (Value.int .i64) w blk off zs.toArray) (hblk : blk < w.heap.size) (hsz : zs.length < 4611686018427387904) :
    Calls Try.prog 56 #[.slice (some ⟨blk, off, none⟩) zs.length cap] w fun e w' =>
      e = .returned (.tuple #[]) ∧ ∃ n os, w' = grow (putRow (Value.int .i64) (Sort.ahead w n) blk off (zs.mergeSort fun x y => decide (x ≤ y)).toArray) os := AnyG.slices_Sort_int Try.lays56 blk off cap zs w hH hblk hsz
theorem Try.slices_Sort_int64_none (p : Option Addr) (cap : Nat) (w : World) :
    Calls Try.prog 56 #[.slice p 0 cap] w fun e w' => e = .returned (.tuple #[]) ∧ w' = w := AnyG.slices_Sort_int_none Try.lays56 p cap w
end Go.Proofs
