/-
  slices.Sort of strings: the library's contract at this program (laid by the kit's lay-shelf.mjs and lay-plain.mjs; names turned).
-/
import Derived.Shelf.Sort.Plain
import Derived.Shelf.Slices.In.SortNone
import Derived.Test.YthhcgdmpbihdnaaRound
namespace Go.Proofs.Ythhcgdmpbihdnaa
open Go.Shelf
def lays190_ren : Go.Shelf.Ren := ⟨fun | 190 => 38 | 125 => 47 | 258 => 46 | 128 => 59 | 129 => 60 | 302 => 50 | 303 => 51 | 304 => 52 | 305 => 53 | 306 => 54 | 307 => 55 | 308 => 56 | 309 => 57 | 310 => 58 | 333 => 61 | 329 => 62 | 330 => 63 | 334 => 64 | 335 => 65 | 336 => 66 | 344 => 67 | n => n, fun | 31 => 52 | 9 => 9 | 3 => 3 | 46 => 69 | 0 => 0 | 51 => 71 | 53 => 83 | 4 => 4 | 183 => 74 | 182 => 73 | 131 => 79 | 5 => 5 | 218 => 84 | 222 => 88 | 228 => 90 | 229 => 91 | n => n, fun | n => n⟩
theorem lays190 : Go.Proofs.Lays.n190 Try.prog lays190_ren := {
  mixed := by kernel_rfl
  f125 := Try.func47.trans (congrArg some (by kernel_rfl))
  f128 := Try.func59.trans (congrArg some (by kernel_rfl))
  f129 := Try.func60.trans (congrArg some (by kernel_rfl))
  f190 := Try.func38.trans (congrArg some (by kernel_rfl))
  f258 := Try.func46.trans (congrArg some (by kernel_rfl))
  f302 := Try.func50.trans (congrArg some (by kernel_rfl))
  f303 := Try.func51.trans (congrArg some (by kernel_rfl))
  f304 := Try.func52.trans (congrArg some (by kernel_rfl))
  f305 := Try.func53.trans (congrArg some (by kernel_rfl))
  f306 := Try.func54.trans (congrArg some (by kernel_rfl))
  f307 := Try.func55.trans (congrArg some (by kernel_rfl))
  f308 := Try.func56.trans (congrArg some (by kernel_rfl))
  f309 := Try.func57.trans (congrArg some (by kernel_rfl))
  f310 := Try.func58.trans (congrArg some (by kernel_rfl))
  f329 := Try.func62.trans (congrArg some (by kernel_rfl))
  f330 := Try.func63.trans (congrArg some (by kernel_rfl))
  f333 := Try.func61.trans (congrArg some (by kernel_rfl))
  f334 := Try.func64.trans (congrArg some (by kernel_rfl))
  f335 := Try.func65.trans (congrArg some (by kernel_rfl))
  f336 := Try.func66.trans (congrArg some (by kernel_rfl))
  f344 := Try.func67.trans (congrArg some (by kernel_rfl))
  t0 := Try.underlying0
  a0 := Try.isAgg0
  z0 := Try.sizeOf0
  v0 := Try.zeroValue0
  t3 := Try.underlying3
  a3 := Try.isAgg3
  z3 := Try.sizeOf3
  v3 := Try.zeroValue3
  t4 := Try.underlying4
  a4 := Try.isAgg4
  z4 := Try.sizeOf4
  v4 := Try.zeroValue4
  t5 := Try.underlying5
  a5 := Try.isAgg5
  z5 := Try.sizeOf5
  v5 := Try.zeroValue5
  t9 := Try.underlying9
  a9 := Try.isAgg9
  z9 := Try.sizeOf9
  v9 := Try.zeroValue9
  t31 := Try.underlying52
  a31 := Try.isAgg52
  z31 := Try.sizeOf52
  v31 := Try.zeroValue52
  t46 := Try.underlying69
  a46 := Try.isAgg69
  z46 := Try.sizeOf69
  v46 := Try.zeroValue69
  t51 := Try.underlying71
  a51 := Try.isAgg71
  z51 := Try.sizeOf71
  v51 := Try.zeroValue71
  t53 := Try.underlying83
  a53 := Try.isAgg83
  z53 := Try.sizeOf83
  v53 := Try.zeroValue83
  t131 := Try.underlying79
  a131 := Try.isAgg79
  z131 := Try.sizeOf79
  v131 := Try.zeroValue79
  t182 := Try.underlying73
  a182 := Try.isAgg73
  z182 := Try.sizeOf73
  v182 := Try.zeroValue73
  t183 := Try.underlying74
  a183 := Try.isAgg74
  z183 := Try.sizeOf74
  v183 := Try.zeroValue74
  t218 := Try.underlying84
  a218 := Try.isAgg84
  z218 := Try.sizeOf84
  v218 := Try.zeroValue84
  t222 := Try.underlying88
  a222 := Try.isAgg88
  z222 := Try.sizeOf88
  v222 := Try.zeroValue88
  t228 := Try.underlying90
  a228 := Try.isAgg90
  z228 := Try.sizeOf90
  v228 := Try.zeroValue90
  t229 := Try.underlying91
  a229 := Try.isAgg91
  z229 := Try.sizeOf91
  v229 := Try.zeroValue91 }
open Go.Sort Go.RowKit in
theorem sort_some (blk off cap : Nat) (ss : List (List UInt8)) (w : World) (hH : Holds encStr w blk off ss.toArray) (hblk : blk < w.heap.size) (hsz : ss.length < 4611686018427387904) :
    Calls Try.prog 38 #[.slice (some ⟨blk, off, none⟩) ss.length cap] w fun e w' =>
      e = .returned (.tuple #[]) ∧ ∃ n os, w' = grow (putRow encStr (Sort.ahead w n) blk off (ss.mergeSort fun x y => decide (x ≤ y)).toArray) os := Any.slices_Sort_string lays190 blk off cap ss w hH hblk hsz
open Go.RowKit Go.Sort in
/-- .. and plain. (LAID: no walk: one application.) -/
theorem sort_none (p : Option Addr) (cap : Nat) (w : World) :
    Calls Try.prog 38 #[.slice p 0 cap] w fun e w' => e = .returned (.tuple #[]) ∧ w' = w := Any.slices_Sort_string_none lays190 p cap w
end Go.Proofs.Ythhcgdmpbihdnaa
