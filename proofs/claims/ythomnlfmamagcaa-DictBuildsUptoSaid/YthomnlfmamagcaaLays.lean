/- The closures of the functions of the library over strings in this program, as the library knows them. -/
import Derived.Test.YthomnlfmamagcaaAbsSs
import Derived.Test.YthomnlfmamagcaaRows
namespace Go.Proofs
open Go.Shelf
def Try.lays190_ren : Go.Shelf.Ren := ⟨fun | 190 => 22 | 125 => 41 | 258 => 40 | 128 => 60 | 129 => 61 | 302 => 52 | 303 => 53 | 304 => 54 | 305 => 55 | 306 => 56 | 307 => 57 | 308 => 42 | 309 => 58 | 310 => 59 | 333 => 63 | 329 => 64 | 330 => 65 | 334 => 66 | 335 => 67 | 336 => 62 | 344 => 68 | n => n, fun | 31 => 22 | 9 => 9 | 3 => 3 | 46 => 57 | 0 => 0 | 51 => 82 | 53 => 48 | 4 => 4 | 183 => 76 | 182 => 75 | 131 => 45 | 5 => 5 | 218 => 83 | 222 => 87 | 228 => 89 | 229 => 90 | n => n, fun | n => n⟩
theorem Try.lays190 : Go.Proofs.Lays.n190 Try.prog Try.lays190_ren := {
  mixed := by kernel_rfl
  f125 := Try.func41.trans (congrArg some (by kernel_rfl))
  f128 := Try.func60.trans (congrArg some (by kernel_rfl))
  f129 := Try.func61.trans (congrArg some (by kernel_rfl))
  f190 := Try.func22.trans (congrArg some (by kernel_rfl))
  f258 := Try.func40.trans (congrArg some (by kernel_rfl))
  f302 := Try.func52.trans (congrArg some (by kernel_rfl))
  f303 := Try.func53.trans (congrArg some (by kernel_rfl))
  f304 := Try.func54.trans (congrArg some (by kernel_rfl))
  f305 := Try.func55.trans (congrArg some (by kernel_rfl))
  f306 := Try.func56.trans (congrArg some (by kernel_rfl))
  f307 := Try.func57.trans (congrArg some (by kernel_rfl))
  f308 := Try.func42.trans (congrArg some (by kernel_rfl))
  f309 := Try.func58.trans (congrArg some (by kernel_rfl))
  f310 := Try.func59.trans (congrArg some (by kernel_rfl))
  f329 := Try.func64.trans (congrArg some (by kernel_rfl))
  f330 := Try.func65.trans (congrArg some (by kernel_rfl))
  f333 := Try.func63.trans (congrArg some (by kernel_rfl))
  f334 := Try.func66.trans (congrArg some (by kernel_rfl))
  f335 := Try.func67.trans (congrArg some (by kernel_rfl))
  f336 := Try.func62.trans (congrArg some (by kernel_rfl))
  f344 := Try.func68.trans (congrArg some (by kernel_rfl))
  t0 := Try.underlying0
  a0 := Try.isAgg0
  z0 := Try.sizeOf0
  v0 := Try.zeroValue0
  t3 := Try.underlying3
  a3 := Try.isAgg3
  z3 := Try.sizeOf3
  v3 := Try.zeroValue3
  t4 := Try.underlying4
  a4 := Try.isAgg4
  z4 := Try.sizeOf4
  v4 := Try.zeroValue4
  t5 := Try.underlying5
  a5 := Try.isAgg5
  z5 := Try.sizeOf5
  v5 := Try.zeroValue5
  t9 := Try.underlying9
  a9 := Try.isAgg9
  z9 := Try.sizeOf9
  v9 := Try.zeroValue9
  t31 := Try.underlying22
  a31 := Try.isAgg22
  z31 := Try.sizeOf22
  v31 := Try.zeroValue22
  t46 := Try.underlying57
  a46 := Try.isAgg57
  z46 := Try.sizeOf57
  v46 := Try.zeroValue57
  t51 := Try.underlying82
  a51 := Try.isAgg82
  z51 := Try.sizeOf82
  v51 := Try.zeroValue82
  t53 := Try.underlying48
  a53 := Try.isAgg48
  z53 := Try.sizeOf48
  v53 := Try.zeroValue48
  t131 := Try.underlying45
  a131 := Try.isAgg45
  z131 := Try.sizeOf45
  v131 := Try.zeroValue45
  t182 := Try.underlying75
  a182 := Try.isAgg75
  z182 := Try.sizeOf75
  v182 := Try.zeroValue75
  t183 := Try.underlying76
  a183 := Try.isAgg76
  z183 := Try.sizeOf76
  v183 := Try.zeroValue76
  t218 := Try.underlying83
  a218 := Try.isAgg83
  z218 := Try.sizeOf83
  v218 := Try.zeroValue83
  t222 := Try.underlying87
  a222 := Try.isAgg87
  z222 := Try.sizeOf87
  v222 := Try.zeroValue87
  t228 := Try.underlying89
  a228 := Try.isAgg89
  z228 := Try.sizeOf89
  v228 := Try.zeroValue89
  t229 := Try.underlying90
  a229 := Try.isAgg90
  z229 := Try.sizeOf90
  v229 := Try.zeroValue90 }
def Try.lays194_ren : Go.Shelf.Ren := ⟨fun | 194 => 23 | n => n, fun | 31 => 22 | 9 => 9 | 3 => 3 | 4 => 4 | 0 => 0 | n => n, fun | n => n⟩
theorem Try.lays194 : Go.Proofs.Lays.n194 Try.prog Try.lays194_ren := {
  mixed := by kernel_rfl
  f194 := Try.func23.trans (congrArg some (by kernel_rfl))
  t0 := Try.underlying0
  a0 := Try.isAgg0
  z0 := Try.sizeOf0
  v0 := Try.zeroValue0
  t3 := Try.underlying3
  a3 := Try.isAgg3
  z3 := Try.sizeOf3
  v3 := Try.zeroValue3
  t4 := Try.underlying4
  a4 := Try.isAgg4
  z4 := Try.sizeOf4
  v4 := Try.zeroValue4
  t9 := Try.underlying9
  a9 := Try.isAgg9
  z9 := Try.sizeOf9
  v9 := Try.zeroValue9
  t31 := Try.underlying22
  a31 := Try.isAgg22
  z31 := Try.sizeOf22
  v31 := Try.zeroValue22 }
def Try.lays226_ren : Go.Shelf.Ren := ⟨fun | 26 => 24 | 33 => 42 | 34 => 43 | 38 => 62 | n => n, fun | 24 => 22 | 9 => 9 | 3 => 3 | 4 => 4 | 40 => 57 | 0 => 0 | n => n, fun | n => n⟩
theorem Try.lays226 : Go.Proofs.Lays2.n26 Try.prog Try.lays226_ren := {
  mixed := by kernel_rfl
  f26 := Try.func24.trans (congrArg some (by kernel_rfl))
  f33 := Try.func42.trans (congrArg some (by kernel_rfl))
  f34 := Try.func43.trans (congrArg some (by kernel_rfl))
  f38 := Try.func62.trans (congrArg some (by kernel_rfl))
  t0 := Try.underlying0
  a0 := Try.isAgg0
  z0 := Try.sizeOf0
  v0 := Try.zeroValue0
  t3 := Try.underlying3
  a3 := Try.isAgg3
  z3 := Try.sizeOf3
  v3 := Try.zeroValue3
  t4 := Try.underlying4
  a4 := Try.isAgg4
  z4 := Try.sizeOf4
  v4 := Try.zeroValue4
  t9 := Try.underlying9
  a9 := Try.isAgg9
  z9 := Try.sizeOf9
  v9 := Try.zeroValue9
  t24 := Try.underlying22
  a24 := Try.isAgg22
  z24 := Try.sizeOf22
  v24 := Try.zeroValue22
  t40 := Try.underlying57
  a40 := Try.isAgg57
  z40 := Try.sizeOf57
  v40 := Try.zeroValue57 }
def Try.lays129_ren : Go.Shelf.Ren := ⟨fun | 129 => 61 | n => n, fun | 53 => 48 | 3 => 3 | 4 => 4 | 46 => 57 | 5 => 5 | 9 => 9 | n => n, fun | n => n⟩
theorem Try.lays129 : Go.Proofs.Lays.n129 Try.prog Try.lays129_ren := {
  mixed := by kernel_rfl
  f129 := Try.func61.trans (congrArg some (by kernel_rfl))
  t3 := Try.underlying3
  a3 := Try.isAgg3
  z3 := Try.sizeOf3
  v3 := Try.zeroValue3
  t4 := Try.underlying4
  a4 := Try.isAgg4
  z4 := Try.sizeOf4
  v4 := Try.zeroValue4
  t5 := Try.underlying5
  a5 := Try.isAgg5
  z5 := Try.sizeOf5
  v5 := Try.zeroValue5
  t9 := Try.underlying9
  a9 := Try.isAgg9
  z9 := Try.sizeOf9
  v9 := Try.zeroValue9
  t46 := Try.underlying57
  a46 := Try.isAgg57
  z46 := Try.sizeOf57
  v46 := Try.zeroValue57
  t53 := Try.underlying48
  a53 := Try.isAgg48
  z53 := Try.sizeOf48
  v53 := Try.zeroValue48 }
end Go.Proofs
namespace Go.Proofs.Ythomnlfmamagcaa
open Go.Abs
set_option linter.unusedVariables false
abbrev c_sortS_ok : Ct := .srt .str (some fun (l : List ByteArray) => l.length < 4611686018427387904) sortS false
theorem sortS_ok : CtOk Try.prog 22 c_sortS_ok := sortS_of (fun w => Any.slices_Sort_string_none Try.lays190 none 0 w) (fun blk off cap zs w hH hb hs => Any.slices_Sort_string Try.lays190 blk off cap zs w hH hb hs)
abbrev c_compS_ok : Ct := .srt .str (some fun (l : List ByteArray) => l.length ≤ 9223372036854775807) compS true
theorem compS_ok : CtOk Try.prog 23 c_compS_ok := compS_of (fun a cap w => Any.slices_Compact_string_empty Try.lays194 a cap w) (fun blk off cap zs w hH hs hc => Any.slices_Compact_string Try.lays194 blk off cap zs w hH hs hc)
abbrev c_bs_ok : Ct := .fn [.list .str, .str] (some fun (l : List ByteArray) (_ : ByteArray) => l.length < 4611686018427387904) (fun (l : List ByteArray) (x : ByteArray) => RV.tup [.int .i64, .bool] (bsI l x, bsB l x, ()))
theorem bs_ok : CtOk Try.prog 24 c_bs_ok := bs_of (fun a c x w => Any2.slices_BinarySearch_string_empty Try.lays226 a c x w) (fun b off n c Sx x w hn hc => Any2.slices_BinarySearch_string Try.lays226 b off n c Sx x w hn hc)
abbrev c_len_ok : Ct := .fn [.int .u64] (some fun (x : Int) => 0 ≤ x ∧ x ≤ 18446744073709551615) (fun (x : Int) => RV.d (.int .i64) ((Lib.bitLen x.toNat : Nat) : Int))
theorem len_ok : CtOk Try.prog 61 c_len_ok := len_of (fun x w h0 h1 => Any.bits_Len64 Try.lays129 x w h0 h1)
end Go.Proofs.Ythomnlfmamagcaa
