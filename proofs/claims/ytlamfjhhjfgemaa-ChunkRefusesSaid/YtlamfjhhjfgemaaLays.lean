/- The closures of the functions of the library over strings in this program, as the library knows them. -/
import Derived.Test.YtlamfjhhjfgemaaAbsSs
import Derived.Test.YtlamfjhhjfgemaaRows
namespace Go.Proofs
open Go.Shelf
def Try.lays190_ren : Go.Shelf.Ren := ⟨fun | 190 => 111 | 125 => 123 | 258 => 122 | 128 => 134 | 129 => 121 | 302 => 126 | 303 => 127 | 304 => 128 | 305 => 129 | 306 => 130 | 307 => 131 | 308 => 124 | 309 => 132 | 310 => 133 | 333 => 136 | 329 => 137 | 330 => 138 | 334 => 139 | 335 => 140 | 336 => 135 | 344 => 141 | n => n, fun | 31 => 76 | 9 => 9 | 3 => 3 | 46 => 53 | 0 => 0 | 51 => 60 | 53 => 56 | 4 => 4 | 183 => 150 | 182 => 149 | 131 => 89 | 5 => 5 | 218 => 156 | 222 => 160 | 228 => 162 | 229 => 163 | n => n, fun | n => n⟩
theorem Try.lays190 : Go.Proofs.Lays.n190 Try.prog Try.lays190_ren := {
  mixed := by kernel_rfl
  f125 := Try.func123.trans (congrArg some (by kernel_rfl))
  f128 := Try.func134.trans (congrArg some (by kernel_rfl))
  f129 := Try.func121.trans (congrArg some (by kernel_rfl))
  f190 := Try.func111.trans (congrArg some (by kernel_rfl))
  f258 := Try.func122.trans (congrArg some (by kernel_rfl))
  f302 := Try.func126.trans (congrArg some (by kernel_rfl))
  f303 := Try.func127.trans (congrArg some (by kernel_rfl))
  f304 := Try.func128.trans (congrArg some (by kernel_rfl))
  f305 := Try.func129.trans (congrArg some (by kernel_rfl))
  f306 := Try.func130.trans (congrArg some (by kernel_rfl))
  f307 := Try.func131.trans (congrArg some (by kernel_rfl))
  f308 := Try.func124.trans (congrArg some (by kernel_rfl))
  f309 := Try.func132.trans (congrArg some (by kernel_rfl))
  f310 := Try.func133.trans (congrArg some (by kernel_rfl))
  f329 := Try.func137.trans (congrArg some (by kernel_rfl))
  f330 := Try.func138.trans (congrArg some (by kernel_rfl))
  f333 := Try.func136.trans (congrArg some (by kernel_rfl))
  f334 := Try.func139.trans (congrArg some (by kernel_rfl))
  f335 := Try.func140.trans (congrArg some (by kernel_rfl))
  f336 := Try.func135.trans (congrArg some (by kernel_rfl))
  f344 := Try.func141.trans (congrArg some (by kernel_rfl))
  t0 := Try.underlying0
  a0 := Try.isAgg0
  z0 := Try.sizeOf0
  v0 := Try.zeroValue0
  t3 := Try.underlying3
  a3 := Try.isAgg3
  z3 := Try.sizeOf3
  v3 := Try.zeroValue3
  t4 := Try.underlying4
  a4 := Try.isAgg4
  z4 := Try.sizeOf4
  v4 := Try.zeroValue4
  t5 := Try.underlying5
  a5 := Try.isAgg5
  z5 := Try.sizeOf5
  v5 := Try.zeroValue5
  t9 := Try.underlying9
  a9 := Try.isAgg9
  z9 := Try.sizeOf9
  v9 := Try.zeroValue9
  t31 := Try.underlying76
  a31 := Try.isAgg76
  z31 := Try.sizeOf76
  v31 := Try.zeroValue76
  t46 := Try.underlying53
  a46 := Try.isAgg53
  z46 := Try.sizeOf53
  v46 := Try.zeroValue53
  t51 := Try.underlying60
  a51 := Try.isAgg60
  z51 := Try.sizeOf60
  v51 := Try.zeroValue60
  t53 := Try.underlying56
  a53 := Try.isAgg56
  z53 := Try.sizeOf56
  v53 := Try.zeroValue56
  t131 := Try.underlying89
  a131 := Try.isAgg89
  z131 := Try.sizeOf89
  v131 := Try.zeroValue89
  t182 := Try.underlying149
  a182 := Try.isAgg149
  z182 := Try.sizeOf149
  v182 := Try.zeroValue149
  t183 := Try.underlying150
  a183 := Try.isAgg150
  z183 := Try.sizeOf150
  v183 := Try.zeroValue150
  t218 := Try.underlying156
  a218 := Try.isAgg156
  z218 := Try.sizeOf156
  v218 := Try.zeroValue156
  t222 := Try.underlying160
  a222 := Try.isAgg160
  z222 := Try.sizeOf160
  v222 := Try.zeroValue160
  t228 := Try.underlying162
  a228 := Try.isAgg162
  z228 := Try.sizeOf162
  v228 := Try.zeroValue162
  t229 := Try.underlying163
  a229 := Try.isAgg163
  z229 := Try.sizeOf163
  v229 := Try.zeroValue163 }
def Try.lays194_ren : Go.Shelf.Ren := ⟨fun | 194 => 112 | n => n, fun | 31 => 76 | 9 => 9 | 3 => 3 | 4 => 4 | 0 => 0 | n => n, fun | n => n⟩
theorem Try.lays194 : Go.Proofs.Lays.n194 Try.prog Try.lays194_ren := {
  mixed := by kernel_rfl
  f194 := Try.func112.trans (congrArg some (by kernel_rfl))
  t0 := Try.underlying0
  a0 := Try.isAgg0
  z0 := Try.sizeOf0
  v0 := Try.zeroValue0
  t3 := Try.underlying3
  a3 := Try.isAgg3
  z3 := Try.sizeOf3
  v3 := Try.zeroValue3
  t4 := Try.underlying4
  a4 := Try.isAgg4
  z4 := Try.sizeOf4
  v4 := Try.zeroValue4
  t9 := Try.underlying9
  a9 := Try.isAgg9
  z9 := Try.sizeOf9
  v9 := Try.zeroValue9
  t31 := Try.underlying76
  a31 := Try.isAgg76
  z31 := Try.sizeOf76
  v31 := Try.zeroValue76 }
def Try.lays226_ren : Go.Shelf.Ren := ⟨fun | 26 => 113 | 33 => 124 | 34 => 125 | 38 => 135 | n => n, fun | 24 => 76 | 9 => 9 | 3 => 3 | 4 => 4 | 40 => 53 | 0 => 0 | n => n, fun | n => n⟩
theorem Try.lays226 : Go.Proofs.Lays2.n26 Try.prog Try.lays226_ren := {
  mixed := by kernel_rfl
  f26 := Try.func113.trans (congrArg some (by kernel_rfl))
  f33 := Try.func124.trans (congrArg some (by kernel_rfl))
  f34 := Try.func125.trans (congrArg some (by kernel_rfl))
  f38 := Try.func135.trans (congrArg some (by kernel_rfl))
  t0 := Try.underlying0
  a0 := Try.isAgg0
  z0 := Try.sizeOf0
  v0 := Try.zeroValue0
  t3 := Try.underlying3
  a3 := Try.isAgg3
  z3 := Try.sizeOf3
  v3 := Try.zeroValue3
  t4 := Try.underlying4
  a4 := Try.isAgg4
  z4 := Try.sizeOf4
  v4 := Try.zeroValue4
  t9 := Try.underlying9
  a9 := Try.isAgg9
  z9 := Try.sizeOf9
  v9 := Try.zeroValue9
  t24 := Try.underlying76
  a24 := Try.isAgg76
  z24 := Try.sizeOf76
  v24 := Try.zeroValue76
  t40 := Try.underlying53
  a40 := Try.isAgg53
  z40 := Try.sizeOf53
  v40 := Try.zeroValue53 }
def Try.lays129_ren : Go.Shelf.Ren := ⟨fun | 129 => 121 | n => n, fun | 53 => 56 | 3 => 3 | 4 => 4 | 46 => 53 | 5 => 5 | 9 => 9 | n => n, fun | n => n⟩
theorem Try.lays129 : Go.Proofs.Lays.n129 Try.prog Try.lays129_ren := {
  mixed := by kernel_rfl
  f129 := Try.func121.trans (congrArg some (by kernel_rfl))
  t3 := Try.underlying3
  a3 := Try.isAgg3
  z3 := Try.sizeOf3
  v3 := Try.zeroValue3
  t4 := Try.underlying4
  a4 := Try.isAgg4
  z4 := Try.sizeOf4
  v4 := Try.zeroValue4
  t5 := Try.underlying5
  a5 := Try.isAgg5
  z5 := Try.sizeOf5
  v5 := Try.zeroValue5
  t9 := Try.underlying9
  a9 := Try.isAgg9
  z9 := Try.sizeOf9
  v9 := Try.zeroValue9
  t46 := Try.underlying53
  a46 := Try.isAgg53
  z46 := Try.sizeOf53
  v46 := Try.zeroValue53
  t53 := Try.underlying56
  a53 := Try.isAgg56
  z53 := Try.sizeOf56
  v53 := Try.zeroValue56 }
end Go.Proofs
namespace Go.Proofs.Ytlamfjhhjfgemaa
open Go.Abs
set_option linter.unusedVariables false
abbrev c_sortS_ok : Ct := .srt .str (some fun (l : List ByteArray) => l.length < 4611686018427387904) sortS false
theorem sortS_ok : CtOk Try.prog 111 c_sortS_ok := sortS_of (fun w => Any.slices_Sort_string_none Try.lays190 none 0 w) (fun blk off cap zs w hH hb hs => Any.slices_Sort_string Try.lays190 blk off cap zs w hH hb hs)
abbrev c_compS_ok : Ct := .srt .str (some fun (l : List ByteArray) => l.length ≤ 9223372036854775807) compS true
theorem compS_ok : CtOk Try.prog 112 c_compS_ok := compS_of (fun a cap w => Any.slices_Compact_string_empty Try.lays194 a cap w) (fun blk off cap zs w hH hs hc => Any.slices_Compact_string Try.lays194 blk off cap zs w hH hs hc)
abbrev c_bs_ok : Ct := .fn [.list .str, .str] (some fun (l : List ByteArray) (_ : ByteArray) => l.length < 4611686018427387904) (fun (l : List ByteArray) (x : ByteArray) => RV.tup [.int .i64, .bool] (bsI l x, bsB l x, ()))
theorem bs_ok : CtOk Try.prog 113 c_bs_ok := bs_of (fun a c x w => Any2.slices_BinarySearch_string_empty Try.lays226 a c x w) (fun b off n c Sx x w hn hc => Any2.slices_BinarySearch_string Try.lays226 b off n c Sx x w hn hc)
abbrev c_len_ok : Ct := .fn [.int .u64] (some fun (x : Int) => 0 ≤ x ∧ x ≤ 18446744073709551615) (fun (x : Int) => RV.d (.int .i64) ((Lib.bitLen x.toNat : Nat) : Int))
theorem len_ok : CtOk Try.prog 121 c_len_ok := len_of (fun x w h0 h1 => Any.bits_Len64 Try.lays129 x w h0 h1)
end Go.Proofs.Ytlamfjhhjfgemaa
