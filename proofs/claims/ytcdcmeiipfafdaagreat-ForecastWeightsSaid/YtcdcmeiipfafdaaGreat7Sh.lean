/-
  The library's contracts of slices.Sort, Reverse and Compact at numbers, at this program (printed by the kit's lay-plain.mjs), and as calls that change a row of one's own.
  Conditions: none.
-/
import Derived.Ground.NamesProg
import Derived.Ground.Names2Prog
import Derived.Shelf.Slices.Reverse
import Derived.Shelf.Slices.CompactI
import Derived.Shelf.Sort.AssemblyIn
import Derived.Sort.EveryDepth
import Derived.Test.YtcdcmeiipfafdaaGreatProg
import Derived.Test.YtcdcmeiipfafdaaGreatFq
namespace Go.Proofs.YtcdcmeiipfafdaaGreat
open Go.Shelf
def Tryz.lays112_ren : Go.Shelf.Ren := ⟨fun | 112 => 58 | n => n, fun | 28 => 22 | 3 => 3 | 4 => 4 | 0 => 0 | n => n, fun | n => n⟩
theorem Tryz.lays112 : Go.Proofs.Lays.n112 Tryz.prog Tryz.lays112_ren := {
  mixed := by kernel_rfl
  f112 := Tryz.func58.trans (congrArg some (by kernel_rfl))
  t0 := Tryz.underlying0
  a0 := Tryz.isAgg0
  z0 := Tryz.sizeOf0
  v0 := Tryz.zeroValue0
  t3 := Tryz.underlying3
  a3 := Tryz.isAgg3
  z3 := Tryz.sizeOf3
  v3 := Tryz.zeroValue3
  t4 := Tryz.underlying4
  a4 := Tryz.isAgg4
  z4 := Tryz.sizeOf4
  v4 := Tryz.zeroValue4
  t28 := Tryz.underlying22
  a28 := Tryz.isAgg22
  z28 := Tryz.sizeOf22
  v28 := Tryz.zeroValue22 }
open Go.RowKit Go.Lib Go.Sort in
theorem Tryz.slices_Reverse_int (blk off cap : Nat) (zs : List Int) (w : World) (hH : Holds (Value.int .i64) w blk off zs.toArray) (hsz : zs.length ≤ 9223372036854775807) :
    Calls Tryz.prog 58 #[.slice (some ⟨blk, off, none⟩) zs.length cap] w fun e w' => e = .returned (.tuple #[]) ∧ ∃ n, w' = putRow (Value.int .i64) (Sort.ahead w n) blk off zs.reverse.toArray := Any.slices_Reverse_int Tryz.lays112 blk off cap zs w hH hsz
def Tryz.laysNm220_ren : Go.Shelf.Ren := ⟨fun | 20 => 60 | n => n, fun | 22 => 22 | 3 => 3 | 4 => 4 | 0 => 0 | n => n, fun | n => n⟩
theorem Tryz.laysNm220 : Go.Proofs.Lays2.n20 Tryz.prog Tryz.laysNm220_ren := {
  mixed := by kernel_rfl
  f20 := Tryz.func60.trans (congrArg some (by kernel_rfl))
  t0 := Tryz.underlying0
  a0 := Tryz.isAgg0
  z0 := Tryz.sizeOf0
  v0 := Tryz.zeroValue0
  t3 := Tryz.underlying3
  a3 := Tryz.isAgg3
  z3 := Tryz.sizeOf3
  v3 := Tryz.zeroValue3
  t4 := Tryz.underlying4
  a4 := Tryz.isAgg4
  z4 := Tryz.sizeOf4
  v4 := Tryz.zeroValue4
  t22 := Tryz.underlying22
  a22 := Tryz.isAgg22
  z22 := Tryz.sizeOf22
  v22 := Tryz.zeroValue22
  i3 := by kernel_rfl }
open Go.RowKit Go.Lib Go.Sort in
theorem Tryz.slices_Compact_int (blk off cap : Nat) (zs : List Int) (w : World) (hH : Holds (Value.int .i64) w blk off zs.toArray) (hsz : zs.length ≤ 9223372036854775807) (hcap : zs.length ≤ cap) :
    Calls Tryz.prog 60 #[.slice (some ⟨blk, off, none⟩) zs.length cap] w fun e w' => e = .returned (.slice (some ⟨blk, off, none⟩) (Lib.compact zs).length cap) ∧ ∃ q, w' = putRow (Value.int .i64) (Sort.ahead w q) blk off (Lib.compact zs ++ List.replicate (zs.length - (Lib.compact zs).length) 0).toArray := Any.slices_Compact_int Tryz.laysNm220 blk off cap zs w hH hsz hcap
def Tryz.lays189_ren : Go.Shelf.Ren := ⟨fun | 189 => 57 | 125 => 82 | 257 => 81 | 128 => 104 | 129 => 105 | 294 => 95 | 295 => 96 | 296 => 97 | 297 => 98 | 298 => 99 | 299 => 100 | 216 => 101 | 300 => 102 | 301 => 103 | 328 => 111 | 329 => 112 | 330 => 113 | 331 => 114 | 332 => 115 | 215 => 116 | 343 => 119 | n => n, fun | 28 => 22 | 3 => 3 | 46 => 132 | 0 => 0 | 51 => 151 | 53 => 153 | 4 => 4 | 183 => 144 | 182 => 143 | 131 => 148 | 5 => 5 | 9 => 9 | 218 => 158 | 222 => 162 | 228 => 168 | 229 => 99 | n => n, fun | n => n⟩
theorem Tryz.lays189 : Go.Proofs.Lays.n189 Tryz.prog Tryz.lays189_ren := {
  mixed := by kernel_rfl
  f125 := Tryz.func82.trans (congrArg some (by kernel_rfl))
  f128 := Tryz.func104.trans (congrArg some (by kernel_rfl))
  f129 := Tryz.func105.trans (congrArg some (by kernel_rfl))
  f189 := Tryz.func57.trans (congrArg some (by kernel_rfl))
  f215 := Tryz.func116.trans (congrArg some (by kernel_rfl))
  f216 := Tryz.func101.trans (congrArg some (by kernel_rfl))
  f257 := Tryz.func81.trans (congrArg some (by kernel_rfl))
  f294 := Tryz.func95.trans (congrArg some (by kernel_rfl))
  f295 := Tryz.func96.trans (congrArg some (by kernel_rfl))
  f296 := Tryz.func97.trans (congrArg some (by kernel_rfl))
  f297 := Tryz.func98.trans (congrArg some (by kernel_rfl))
  f298 := Tryz.func99.trans (congrArg some (by kernel_rfl))
  f299 := Tryz.func100.trans (congrArg some (by kernel_rfl))
  f300 := Tryz.func102.trans (congrArg some (by kernel_rfl))
  f301 := Tryz.func103.trans (congrArg some (by kernel_rfl))
  f328 := Tryz.func111.trans (congrArg some (by kernel_rfl))
  f329 := Tryz.func112.trans (congrArg some (by kernel_rfl))
  f330 := Tryz.func113.trans (congrArg some (by kernel_rfl))
  f331 := Tryz.func114.trans (congrArg some (by kernel_rfl))
  f332 := Tryz.func115.trans (congrArg some (by kernel_rfl))
  f343 := Tryz.func119.trans (congrArg some (by kernel_rfl))
  t0 := Tryz.underlying0
  a0 := Tryz.isAgg0
  z0 := Tryz.sizeOf0
  v0 := Tryz.zeroValue0
  t3 := Tryz.underlying3
  a3 := Tryz.isAgg3
  z3 := Tryz.sizeOf3
  v3 := Tryz.zeroValue3
  t4 := Tryz.underlying4
  a4 := Tryz.isAgg4
  z4 := Tryz.sizeOf4
  v4 := Tryz.zeroValue4
  t5 := Tryz.underlying5
  a5 := Tryz.isAgg5
  z5 := Tryz.sizeOf5
  v5 := Tryz.zeroValue5
  t9 := Tryz.underlying9
  a9 := Tryz.isAgg9
  z9 := Tryz.sizeOf9
  v9 := Tryz.zeroValue9
  t28 := Tryz.underlying22
  a28 := Tryz.isAgg22
  z28 := Tryz.sizeOf22
  v28 := Tryz.zeroValue22
  t46 := Tryz.underlying132
  a46 := Tryz.isAgg132
  z46 := Tryz.sizeOf132
  v46 := Tryz.zeroValue132
  t51 := Tryz.underlying151
  a51 := Tryz.isAgg151
  z51 := Tryz.sizeOf151
  v51 := Tryz.zeroValue151
  t53 := Tryz.underlying153
  a53 := Tryz.isAgg153
  z53 := Tryz.sizeOf153
  v53 := Tryz.zeroValue153
  t131 := Tryz.underlying148
  a131 := Tryz.isAgg148
  z131 := Tryz.sizeOf148
  v131 := Tryz.zeroValue148
  t182 := Tryz.underlying143
  a182 := Tryz.isAgg143
  z182 := Tryz.sizeOf143
  v182 := Tryz.zeroValue143
  t183 := Tryz.underlying144
  a183 := Tryz.isAgg144
  z183 := Tryz.sizeOf144
  v183 := Tryz.zeroValue144
  t218 := Tryz.underlying158
  a218 := Tryz.isAgg158
  z218 := Tryz.sizeOf158
  v218 := Tryz.zeroValue158
  t222 := Tryz.underlying162
  a222 := Tryz.isAgg162
  z222 := Tryz.sizeOf162
  v222 := Tryz.zeroValue162
  t228 := Tryz.underlying168
  a228 := Tryz.isAgg168
  z228 := Tryz.sizeOf168
  v228 := Tryz.zeroValue168
  t229 := Tryz.underlying99
  a229 := Tryz.isAgg99
  z229 := Tryz.sizeOf99
  v229 := Tryz.zeroValue99 }
open Go.RowKit Go.Lib Go.Sort in
theorem Tryz.slices_Sort_int (blk off cap : Nat) (zs : List Int) (w : World) (hH : Holds (Value.int .i64) w blk off zs.toArray) (hblk : blk < w.heap.size) (hsz : zs.length < 4611686018427387904) :
    Calls Tryz.prog 57 #[.slice (some ⟨blk, off, none⟩) zs.length cap] w fun e w' => e = .returned (.tuple #[]) ∧ ∃ n os, w' = grow (putRow (Value.int .i64) (Sort.ahead w n) blk off (zs.mergeSort fun x y => decide (x ≤ y)).toArray) os := calls_of_every_depth fun D => AnyS.slices_Sort_int_in Tryz.lays189 D blk off cap zs w hH hblk hsz

open Go.RowKit Fx Go.Sort
theorem sort_row {zs : List Int} (hz : zs.length < 4611686018427387904) : RowFn Tryz.prog 57 zs (zs.mergeSort fun x y => decide (x ≤ y)) none :=
  ⟨enters_of Tryz.func57 (by kernel_rfl) rfl, fun W g off cap hH hg hc => callsIn_wide.2 (Tryz.slices_Sort_int g off cap zs W hH hg hz)⟩
theorem grow_none (w : World) : grow w #[] = w := by unfold grow; rw [Array.append_empty]
theorem reverse_row {zs : List Int} (hz : zs.length ≤ 9223372036854775807) : RowFn Tryz.prog 58 zs zs.reverse none :=
  ⟨enters_of Tryz.func58 (by kernel_rfl) rfl, fun W g off cap hH hg hc => callsIn_wide.2 ((Tryz.slices_Reverse_int g off cap zs W hH hz).mono (by
    rintro e W' ⟨rfl, n, rfl⟩
    exact ⟨rfl, n, #[], (grow_none _).symm⟩))⟩
theorem compact_row {zs : List Int} (hz : zs.length ≤ 9223372036854775807) : RowFn Tryz.prog 60 zs (Lib.compact zs ++ List.replicate (zs.length - (Lib.compact zs).length) 0) (some (Lib.compact zs).length) :=
  ⟨enters_of Tryz.func60 (by kernel_rfl) rfl, fun W g off cap hH hg hc => callsIn_wide.2 ((Tryz.slices_Compact_int g off cap zs W hH hz hc).mono (by
    rintro e W' ⟨rfl, n, rfl⟩
    exact ⟨rfl, n, #[], (grow_none _).symm⟩))⟩
end Go.Proofs.YtcdcmeiipfafdaaGreat
