/- slices.Sort of ints: the shelf's contract laid at this program (written by the shelf's two tools). -/
import Derived.Shelf.Sort.Plain
import Derived.Shelf.Slices.In.SortNone
import Derived.Test.YtgnjaapjaglleaaProg
namespace Go.Proofs.Ytgnjaapjaglleaa
open Go.Shelf
def lays189_ren : Go.Shelf.Ren := ⟨fun | 189 => 106 | 125 => 114 | 257 => 113 | 128 => 124 | 129 => 125 | 294 => 115 | 295 => 116 | 296 => 117 | 297 => 118 | 298 => 119 | 299 => 120 | 216 => 121 | 300 => 122 | 301 => 123 | 328 => 126 | 329 => 127 | 330 => 128 | 331 => 129 | 332 => 130 | 215 => 131 | 343 => 132 | n => n, fun | 28 => 30 | 3 => 3 | 46 => 111 | 0 => 0 | 51 => 122 | 53 => 124 | 4 => 4 | 183 => 114 | 182 => 113 | 131 => 119 | 5 => 5 | 9 => 9 | 218 => 125 | 222 => 129 | 228 => 131 | 229 => 132 | n => n, fun | n => n⟩
theorem lays189 : Go.Proofs.Lays.n189 Try.prog lays189_ren := {
  mixed := by kernel_rfl
  f125 := Try.func114.trans (congrArg some (by kernel_rfl))
  f128 := Try.func124.trans (congrArg some (by kernel_rfl))
  f129 := Try.func125.trans (congrArg some (by kernel_rfl))
  f189 := Try.func106.trans (congrArg some (by kernel_rfl))
  f215 := Try.func131.trans (congrArg some (by kernel_rfl))
  f216 := Try.func121.trans (congrArg some (by kernel_rfl))
  f257 := Try.func113.trans (congrArg some (by kernel_rfl))
  f294 := Try.func115.trans (congrArg some (by kernel_rfl))
  f295 := Try.func116.trans (congrArg some (by kernel_rfl))
  f296 := Try.func117.trans (congrArg some (by kernel_rfl))
  f297 := Try.func118.trans (congrArg some (by kernel_rfl))
  f298 := Try.func119.trans (congrArg some (by kernel_rfl))
  f299 := Try.func120.trans (congrArg some (by kernel_rfl))
  f300 := Try.func122.trans (congrArg some (by kernel_rfl))
  f301 := Try.func123.trans (congrArg some (by kernel_rfl))
  f328 := Try.func126.trans (congrArg some (by kernel_rfl))
  f329 := Try.func127.trans (congrArg some (by kernel_rfl))
  f330 := Try.func128.trans (congrArg some (by kernel_rfl))
  f331 := Try.func129.trans (congrArg some (by kernel_rfl))
  f332 := Try.func130.trans (congrArg some (by kernel_rfl))
  f343 := Try.func132.trans (congrArg some (by kernel_rfl))
  t0 := Try.underlying0
  a0 := Try.isAgg0
  z0 := Try.sizeOf0
  v0 := Try.zeroValue0
  t3 := Try.underlying3
  a3 := Try.isAgg3
  z3 := Try.sizeOf3
  v3 := Try.zeroValue3
  t4 := Try.underlying4
  a4 := Try.isAgg4
  z4 := Try.sizeOf4
  v4 := Try.zeroValue4
  t5 := Try.underlying5
  a5 := Try.isAgg5
  z5 := Try.sizeOf5
  v5 := Try.zeroValue5
  t9 := Try.underlying9
  a9 := Try.isAgg9
  z9 := Try.sizeOf9
  v9 := Try.zeroValue9
  t28 := Try.underlying30
  a28 := Try.isAgg30
  z28 := Try.sizeOf30
  v28 := Try.zeroValue30
  t46 := Try.underlying111
  a46 := Try.isAgg111
  z46 := Try.sizeOf111
  v46 := Try.zeroValue111
  t51 := Try.underlying122
  a51 := Try.isAgg122
  z51 := Try.sizeOf122
  v51 := Try.zeroValue122
  t53 := Try.underlying124
  a53 := Try.isAgg124
  z53 := Try.sizeOf124
  v53 := Try.zeroValue124
  t131 := Try.underlying119
  a131 := Try.isAgg119
  z131 := Try.sizeOf119
  v131 := Try.zeroValue119
  t182 := Try.underlying113
  a182 := Try.isAgg113
  z182 := Try.sizeOf113
  v182 := Try.zeroValue113
  t183 := Try.underlying114
  a183 := Try.isAgg114
  z183 := Try.sizeOf114
  v183 := Try.zeroValue114
  t218 := Try.underlying125
  a218 := Try.isAgg125
  z218 := Try.sizeOf125
  v218 := Try.zeroValue125
  t222 := Try.underlying129
  a222 := Try.isAgg129
  z222 := Try.sizeOf129
  v222 := Try.zeroValue129
  t228 := Try.underlying131
  a228 := Try.isAgg131
  z228 := Try.sizeOf131
  v228 := Try.zeroValue131
  t229 := Try.underlying132
  a229 := Try.isAgg132
  z229 := Try.sizeOf132
  v229 := Try.zeroValue132 }
open Go.Sort Go.RowKit in
theorem slices_Sort_int (blk off cap : Nat) (zs : List Int) (w : World) (hH : Holds (Value.int .i64) w blk off zs.toArray) (hblk : blk < w.heap.size) (hsz : zs.length < 4611686018427387904) :
    Calls Try.prog 106 #[.slice (some ⟨blk, off, none⟩) zs.length cap] w fun e w' =>
      e = .returned (.tuple #[]) ∧ ∃ n os, w' = grow (putRow (Value.int .i64) (Sort.ahead w n) blk off (zs.mergeSort fun x y => decide (x ≤ y)).toArray) os := Any.slices_Sort_int lays189 blk off cap zs w hH hblk hsz
open Go.RowKit Go.Sort in
/-- .. and plain. (LAID: no walk: one application.) -/
theorem slices_Sort_int_none (p : Option Addr) (cap : Nat) (w : World) :
    Calls Try.prog 106 #[.slice p 0 cap] w fun e w' => e = .returned (.tuple #[]) ∧ w' = w := Any.slices_Sort_int_none lays189 p cap w
end Go.Proofs.Ytgnjaapjaglleaa
