/-
  The library's contracts of slices.Sort, Reverse and Compact at numbers, at this program (printed by the kit's lay-plain.mjs), and as calls that change a row of one's own.
  Conditions: none.
-/
import Derived.Ground.NamesProg
import Derived.Ground.Names2Prog
import Derived.Shelf.Slices.Reverse
import Derived.Shelf.Slices.CompactI
import Derived.Shelf.Sort.AssemblyIn
import Derived.Sort.EveryDepth
import Derived.Test.YtpfknijmipklaaaProg
import Derived.Test.YtpfknijmipklaaaFq
namespace Go.Proofs.Ytpfknijmipklaaa
open Go.Shelf
def Try.lays112_ren : Go.Shelf.Ren := ⟨fun | 112 => 32 | n => n, fun | 28 => 59 | 3 => 3 | 4 => 4 | 0 => 0 | n => n, fun | n => n⟩
theorem Try.lays112 : Go.Proofs.Lays.n112 Try.prog Try.lays112_ren := {
  mixed := by kernel_rfl
  f112 := Try.func32.trans (congrArg some (by kernel_rfl))
  t0 := Try.underlying0
  a0 := Try.isAgg0
  z0 := Try.sizeOf0
  v0 := Try.zeroValue0
  t3 := Try.underlying3
  a3 := Try.isAgg3
  z3 := Try.sizeOf3
  v3 := Try.zeroValue3
  t4 := Try.underlying4
  a4 := Try.isAgg4
  z4 := Try.sizeOf4
  v4 := Try.zeroValue4
  t28 := Try.underlying59
  a28 := Try.isAgg59
  z28 := Try.sizeOf59
  v28 := Try.zeroValue59 }
open Go.RowKit Go.Lib Go.Sort in
theorem Try.slices_Reverse_int (blk off cap : Nat) (zs : List Int) (w : World) (hH : Holds (Value.int .i64) w blk off zs.toArray) (hsz : zs.length ≤ 9223372036854775807) :
    Calls Try.prog 32 #[.slice (some ⟨blk, off, none⟩) zs.length cap] w fun e w' => e = .returned (.tuple #[]) ∧ ∃ n, w' = putRow (Value.int .i64) (Sort.ahead w n) blk off zs.reverse.toArray := Any.slices_Reverse_int Try.lays112 blk off cap zs w hH hsz
def Try.laysNm220_ren : Go.Shelf.Ren := ⟨fun | 20 => 34 | n => n, fun | 22 => 59 | 3 => 3 | 4 => 4 | 0 => 0 | n => n, fun | n => n⟩
theorem Try.laysNm220 : Go.Proofs.Lays2.n20 Try.prog Try.laysNm220_ren := {
  mixed := by kernel_rfl
  f20 := Try.func34.trans (congrArg some (by kernel_rfl))
  t0 := Try.underlying0
  a0 := Try.isAgg0
  z0 := Try.sizeOf0
  v0 := Try.zeroValue0
  t3 := Try.underlying3
  a3 := Try.isAgg3
  z3 := Try.sizeOf3
  v3 := Try.zeroValue3
  t4 := Try.underlying4
  a4 := Try.isAgg4
  z4 := Try.sizeOf4
  v4 := Try.zeroValue4
  t22 := Try.underlying59
  a22 := Try.isAgg59
  z22 := Try.sizeOf59
  v22 := Try.zeroValue59
  i3 := by kernel_rfl }
open Go.RowKit Go.Lib Go.Sort in
theorem Try.slices_Compact_int (blk off cap : Nat) (zs : List Int) (w : World) (hH : Holds (Value.int .i64) w blk off zs.toArray) (hsz : zs.length ≤ 9223372036854775807) (hcap : zs.length ≤ cap) :
    Calls Try.prog 34 #[.slice (some ⟨blk, off, none⟩) zs.length cap] w fun e w' => e = .returned (.slice (some ⟨blk, off, none⟩) (Lib.compact zs).length cap) ∧ ∃ q, w' = putRow (Value.int .i64) (Sort.ahead w q) blk off (Lib.compact zs ++ List.replicate (zs.length - (Lib.compact zs).length) 0).toArray := Any.slices_Compact_int Try.laysNm220 blk off cap zs w hH hsz hcap
def Try.lays189_ren : Go.Shelf.Ren := ⟨fun | 189 => 31 | 125 => 62 | 257 => 61 | 128 => 86 | 129 => 87 | 294 => 77 | 295 => 78 | 296 => 79 | 297 => 80 | 298 => 81 | 299 => 82 | 216 => 83 | 300 => 84 | 301 => 85 | 328 => 93 | 329 => 94 | 330 => 95 | 331 => 96 | 332 => 97 | 215 => 98 | 343 => 103 | n => n, fun | 28 => 59 | 3 => 3 | 46 => 104 | 0 => 0 | 51 => 126 | 53 => 128 | 4 => 4 | 183 => 119 | 182 => 118 | 131 => 123 | 5 => 5 | 9 => 9 | 218 => 134 | 222 => 138 | 228 => 145 | 229 => 74 | n => n, fun | n => n⟩
theorem Try.lays189 : Go.Proofs.Lays.n189 Try.prog Try.lays189_ren := {
  mixed := by kernel_rfl
  f125 := Try.func62.trans (congrArg some (by kernel_rfl))
  f128 := Try.func86.trans (congrArg some (by kernel_rfl))
  f129 := Try.func87.trans (congrArg some (by kernel_rfl))
  f189 := Try.func31.trans (congrArg some (by kernel_rfl))
  f215 := Try.func98.trans (congrArg some (by kernel_rfl))
  f216 := Try.func83.trans (congrArg some (by kernel_rfl))
  f257 := Try.func61.trans (congrArg some (by kernel_rfl))
  f294 := Try.func77.trans (congrArg some (by kernel_rfl))
  f295 := Try.func78.trans (congrArg some (by kernel_rfl))
  f296 := Try.func79.trans (congrArg some (by kernel_rfl))
  f297 := Try.func80.trans (congrArg some (by kernel_rfl))
  f298 := Try.func81.trans (congrArg some (by kernel_rfl))
  f299 := Try.func82.trans (congrArg some (by kernel_rfl))
  f300 := Try.func84.trans (congrArg some (by kernel_rfl))
  f301 := Try.func85.trans (congrArg some (by kernel_rfl))
  f328 := Try.func93.trans (congrArg some (by kernel_rfl))
  f329 := Try.func94.trans (congrArg some (by kernel_rfl))
  f330 := Try.func95.trans (congrArg some (by kernel_rfl))
  f331 := Try.func96.trans (congrArg some (by kernel_rfl))
  f332 := Try.func97.trans (congrArg some (by kernel_rfl))
  f343 := Try.func103.trans (congrArg some (by kernel_rfl))
  t0 := Try.underlying0
  a0 := Try.isAgg0
  z0 := Try.sizeOf0
  v0 := Try.zeroValue0
  t3 := Try.underlying3
  a3 := Try.isAgg3
  z3 := Try.sizeOf3
  v3 := Try.zeroValue3
  t4 := Try.underlying4
  a4 := Try.isAgg4
  z4 := Try.sizeOf4
  v4 := Try.zeroValue4
  t5 := Try.underlying5
  a5 := Try.isAgg5
  z5 := Try.sizeOf5
  v5 := Try.zeroValue5
  t9 := Try.underlying9
  a9 := Try.isAgg9
  z9 := Try.sizeOf9
  v9 := Try.zeroValue9
  t28 := Try.underlying59
  a28 := Try.isAgg59
  z28 := Try.sizeOf59
  v28 := Try.zeroValue59
  t46 := Try.underlying104
  a46 := Try.isAgg104
  z46 := Try.sizeOf104
  v46 := Try.zeroValue104
  t51 := Try.underlying126
  a51 := Try.isAgg126
  z51 := Try.sizeOf126
  v51 := Try.zeroValue126
  t53 := Try.underlying128
  a53 := Try.isAgg128
  z53 := Try.sizeOf128
  v53 := Try.zeroValue128
  t131 := Try.underlying123
  a131 := Try.isAgg123
  z131 := Try.sizeOf123
  v131 := Try.zeroValue123
  t182 := Try.underlying118
  a182 := Try.isAgg118
  z182 := Try.sizeOf118
  v182 := Try.zeroValue118
  t183 := Try.underlying119
  a183 := Try.isAgg119
  z183 := Try.sizeOf119
  v183 := Try.zeroValue119
  t218 := Try.underlying134
  a218 := Try.isAgg134
  z218 := Try.sizeOf134
  v218 := Try.zeroValue134
  t222 := Try.underlying138
  a222 := Try.isAgg138
  z222 := Try.sizeOf138
  v222 := Try.zeroValue138
  t228 := Try.underlying145
  a228 := Try.isAgg145
  z228 := Try.sizeOf145
  v228 := Try.zeroValue145
  t229 := Try.underlying74
  a229 := Try.isAgg74
  z229 := Try.sizeOf74
  v229 := Try.zeroValue74 }
open Go.RowKit Go.Lib Go.Sort in
theorem Try.slices_Sort_int (blk off cap : Nat) (zs : List Int) (w : World) (hH : Holds (Value.int .i64) w blk off zs.toArray) (hblk : blk < w.heap.size) (hsz : zs.length < 4611686018427387904) :
    Calls Try.prog 31 #[.slice (some ⟨blk, off, none⟩) zs.length cap] w fun e w' => e = .returned (.tuple #[]) ∧ ∃ n os, w' = grow (putRow (Value.int .i64) (Sort.ahead w n) blk off (zs.mergeSort fun x y => decide (x ≤ y)).toArray) os := calls_of_every_depth fun D => AnyS.slices_Sort_int_in Try.lays189 D blk off cap zs w hH hblk hsz

open Go.RowKit Fx Go.Sort
theorem sort_row {zs : List Int} (hz : zs.length < 4611686018427387904) : RowFn Try.prog 31 zs (zs.mergeSort fun x y => decide (x ≤ y)) none :=
  ⟨enters_of Try.func31 (by kernel_rfl) rfl, fun W g off cap hH hg hc => callsIn_wide.2 (Try.slices_Sort_int g off cap zs W hH hg hz)⟩
theorem grow_none (w : World) : grow w #[] = w := by unfold grow; rw [Array.append_empty]
theorem reverse_row {zs : List Int} (hz : zs.length ≤ 9223372036854775807) : RowFn Try.prog 32 zs zs.reverse none :=
  ⟨enters_of Try.func32 (by kernel_rfl) rfl, fun W g off cap hH hg hc => callsIn_wide.2 ((Try.slices_Reverse_int g off cap zs W hH hz).mono (by
    rintro e W' ⟨rfl, n, rfl⟩
    exact ⟨rfl, n, #[], (grow_none _).symm⟩))⟩
theorem compact_row {zs : List Int} (hz : zs.length ≤ 9223372036854775807) : RowFn Try.prog 34 zs (Lib.compact zs ++ List.replicate (zs.length - (Lib.compact zs).length) 0) (some (Lib.compact zs).length) :=
  ⟨enters_of Try.func34 (by kernel_rfl) rfl, fun W g off cap hH hg hc => callsIn_wide.2 ((Try.slices_Compact_int g off cap zs W hH hz hc).mono (by
    rintro e W' ⟨rfl, n, rfl⟩
    exact ⟨rfl, n, #[], (grow_none _).symm⟩))⟩
end Go.Proofs.Ytpfknijmipklaaa
