/- The closures of the functions of the library over strings in this program, as the library knows them. -/
import Derived.Test.YtlamfjhhjfgemaaGreatAbsSs
import Derived.Test.YtlamfjhhjfgemaaGreatRows
namespace Go.Proofs
open Go.Shelf
def Tryz.lays190_ren : Go.Shelf.Ren := ⟨fun | 190 => 74 | 125 => 88 | 258 => 87 | 128 => 105 | 129 => 86 | 302 => 97 | 303 => 98 | 304 => 99 | 305 => 100 | 306 => 101 | 307 => 102 | 308 => 89 | 309 => 103 | 310 => 104 | 333 => 107 | 329 => 108 | 330 => 109 | 334 => 110 | 335 => 111 | 336 => 106 | 344 => 112 | n => n, fun | 31 => 75 | 9 => 9 | 3 => 3 | 46 => 59 | 0 => 0 | 51 => 78 | 53 => 49 | 4 => 4 | 183 => 141 | 182 => 140 | 131 => 85 | 5 => 5 | 218 => 147 | 222 => 151 | 228 => 153 | 229 => 154 | n => n, fun | n => n⟩
theorem Tryz.lays190 : Go.Proofs.Lays.n190 Tryz.prog Tryz.lays190_ren := {
  mixed := by kernel_rfl
  f125 := Tryz.func88.trans (congrArg some (by kernel_rfl))
  f128 := Tryz.func105.trans (congrArg some (by kernel_rfl))
  f129 := Tryz.func86.trans (congrArg some (by kernel_rfl))
  f190 := Tryz.func74.trans (congrArg some (by kernel_rfl))
  f258 := Tryz.func87.trans (congrArg some (by kernel_rfl))
  f302 := Tryz.func97.trans (congrArg some (by kernel_rfl))
  f303 := Tryz.func98.trans (congrArg some (by kernel_rfl))
  f304 := Tryz.func99.trans (congrArg some (by kernel_rfl))
  f305 := Tryz.func100.trans (congrArg some (by kernel_rfl))
  f306 := Tryz.func101.trans (congrArg some (by kernel_rfl))
  f307 := Tryz.func102.trans (congrArg some (by kernel_rfl))
  f308 := Tryz.func89.trans (congrArg some (by kernel_rfl))
  f309 := Tryz.func103.trans (congrArg some (by kernel_rfl))
  f310 := Tryz.func104.trans (congrArg some (by kernel_rfl))
  f329 := Tryz.func108.trans (congrArg some (by kernel_rfl))
  f330 := Tryz.func109.trans (congrArg some (by kernel_rfl))
  f333 := Tryz.func107.trans (congrArg some (by kernel_rfl))
  f334 := Tryz.func110.trans (congrArg some (by kernel_rfl))
  f335 := Tryz.func111.trans (congrArg some (by kernel_rfl))
  f336 := Tryz.func106.trans (congrArg some (by kernel_rfl))
  f344 := Tryz.func112.trans (congrArg some (by kernel_rfl))
  t0 := Tryz.underlying0
  a0 := Tryz.isAgg0
  z0 := Tryz.sizeOf0
  v0 := Tryz.zeroValue0
  t3 := Tryz.underlying3
  a3 := Tryz.isAgg3
  z3 := Tryz.sizeOf3
  v3 := Tryz.zeroValue3
  t4 := Tryz.underlying4
  a4 := Tryz.isAgg4
  z4 := Tryz.sizeOf4
  v4 := Tryz.zeroValue4
  t5 := Tryz.underlying5
  a5 := Tryz.isAgg5
  z5 := Tryz.sizeOf5
  v5 := Tryz.zeroValue5
  t9 := Tryz.underlying9
  a9 := Tryz.isAgg9
  z9 := Tryz.sizeOf9
  v9 := Tryz.zeroValue9
  t31 := Tryz.underlying75
  a31 := Tryz.isAgg75
  z31 := Tryz.sizeOf75
  v31 := Tryz.zeroValue75
  t46 := Tryz.underlying59
  a46 := Tryz.isAgg59
  z46 := Tryz.sizeOf59
  v46 := Tryz.zeroValue59
  t51 := Tryz.underlying78
  a51 := Tryz.isAgg78
  z51 := Tryz.sizeOf78
  v51 := Tryz.zeroValue78
  t53 := Tryz.underlying49
  a53 := Tryz.isAgg49
  z53 := Tryz.sizeOf49
  v53 := Tryz.zeroValue49
  t131 := Tryz.underlying85
  a131 := Tryz.isAgg85
  z131 := Tryz.sizeOf85
  v131 := Tryz.zeroValue85
  t182 := Tryz.underlying140
  a182 := Tryz.isAgg140
  z182 := Tryz.sizeOf140
  v182 := Tryz.zeroValue140
  t183 := Tryz.underlying141
  a183 := Tryz.isAgg141
  z183 := Tryz.sizeOf141
  v183 := Tryz.zeroValue141
  t218 := Tryz.underlying147
  a218 := Tryz.isAgg147
  z218 := Tryz.sizeOf147
  v218 := Tryz.zeroValue147
  t222 := Tryz.underlying151
  a222 := Tryz.isAgg151
  z222 := Tryz.sizeOf151
  v222 := Tryz.zeroValue151
  t228 := Tryz.underlying153
  a228 := Tryz.isAgg153
  z228 := Tryz.sizeOf153
  v228 := Tryz.zeroValue153
  t229 := Tryz.underlying154
  a229 := Tryz.isAgg154
  z229 := Tryz.sizeOf154
  v229 := Tryz.zeroValue154 }
def Tryz.lays194_ren : Go.Shelf.Ren := ⟨fun | 194 => 75 | n => n, fun | 31 => 75 | 9 => 9 | 3 => 3 | 4 => 4 | 0 => 0 | n => n, fun | n => n⟩
theorem Tryz.lays194 : Go.Proofs.Lays.n194 Tryz.prog Tryz.lays194_ren := {
  mixed := by kernel_rfl
  f194 := Tryz.func75.trans (congrArg some (by kernel_rfl))
  t0 := Tryz.underlying0
  a0 := Tryz.isAgg0
  z0 := Tryz.sizeOf0
  v0 := Tryz.zeroValue0
  t3 := Tryz.underlying3
  a3 := Tryz.isAgg3
  z3 := Tryz.sizeOf3
  v3 := Tryz.zeroValue3
  t4 := Tryz.underlying4
  a4 := Tryz.isAgg4
  z4 := Tryz.sizeOf4
  v4 := Tryz.zeroValue4
  t9 := Tryz.underlying9
  a9 := Tryz.isAgg9
  z9 := Tryz.sizeOf9
  v9 := Tryz.zeroValue9
  t31 := Tryz.underlying75
  a31 := Tryz.isAgg75
  z31 := Tryz.sizeOf75
  v31 := Tryz.zeroValue75 }
def Tryz.lays226_ren : Go.Shelf.Ren := ⟨fun | 26 => 76 | 33 => 89 | 34 => 90 | 38 => 106 | n => n, fun | 24 => 75 | 9 => 9 | 3 => 3 | 4 => 4 | 40 => 59 | 0 => 0 | n => n, fun | n => n⟩
theorem Tryz.lays226 : Go.Proofs.Lays2.n26 Tryz.prog Tryz.lays226_ren := {
  mixed := by kernel_rfl
  f26 := Tryz.func76.trans (congrArg some (by kernel_rfl))
  f33 := Tryz.func89.trans (congrArg some (by kernel_rfl))
  f34 := Tryz.func90.trans (congrArg some (by kernel_rfl))
  f38 := Tryz.func106.trans (congrArg some (by kernel_rfl))
  t0 := Tryz.underlying0
  a0 := Tryz.isAgg0
  z0 := Tryz.sizeOf0
  v0 := Tryz.zeroValue0
  t3 := Tryz.underlying3
  a3 := Tryz.isAgg3
  z3 := Tryz.sizeOf3
  v3 := Tryz.zeroValue3
  t4 := Tryz.underlying4
  a4 := Tryz.isAgg4
  z4 := Tryz.sizeOf4
  v4 := Tryz.zeroValue4
  t9 := Tryz.underlying9
  a9 := Tryz.isAgg9
  z9 := Tryz.sizeOf9
  v9 := Tryz.zeroValue9
  t24 := Tryz.underlying75
  a24 := Tryz.isAgg75
  z24 := Tryz.sizeOf75
  v24 := Tryz.zeroValue75
  t40 := Tryz.underlying59
  a40 := Tryz.isAgg59
  z40 := Tryz.sizeOf59
  v40 := Tryz.zeroValue59 }
def Tryz.lays129_ren : Go.Shelf.Ren := ⟨fun | 129 => 86 | n => n, fun | 53 => 49 | 3 => 3 | 4 => 4 | 46 => 59 | 5 => 5 | 9 => 9 | n => n, fun | n => n⟩
theorem Tryz.lays129 : Go.Proofs.Lays.n129 Tryz.prog Tryz.lays129_ren := {
  mixed := by kernel_rfl
  f129 := Tryz.func86.trans (congrArg some (by kernel_rfl))
  t3 := Tryz.underlying3
  a3 := Tryz.isAgg3
  z3 := Tryz.sizeOf3
  v3 := Tryz.zeroValue3
  t4 := Tryz.underlying4
  a4 := Tryz.isAgg4
  z4 := Tryz.sizeOf4
  v4 := Tryz.zeroValue4
  t5 := Tryz.underlying5
  a5 := Tryz.isAgg5
  z5 := Tryz.sizeOf5
  v5 := Tryz.zeroValue5
  t9 := Tryz.underlying9
  a9 := Tryz.isAgg9
  z9 := Tryz.sizeOf9
  v9 := Tryz.zeroValue9
  t46 := Tryz.underlying59
  a46 := Tryz.isAgg59
  z46 := Tryz.sizeOf59
  v46 := Tryz.zeroValue59
  t53 := Tryz.underlying49
  a53 := Tryz.isAgg49
  z53 := Tryz.sizeOf49
  v53 := Tryz.zeroValue49 }
end Go.Proofs
namespace Go.Proofs.YtlamfjhhjfgemaaGreat
open Go.Abs
set_option linter.unusedVariables false
abbrev c_sortS_ok : Ct := .srt .str (some fun (l : List ByteArray) => l.length < 4611686018427387904) sortS false
theorem sortS_ok : CtOk Tryz.prog 74 c_sortS_ok := sortS_of (fun w => Any.slices_Sort_string_none Tryz.lays190 none 0 w) (fun blk off cap zs w hH hb hs => Any.slices_Sort_string Tryz.lays190 blk off cap zs w hH hb hs)
abbrev c_compS_ok : Ct := .srt .str (some fun (l : List ByteArray) => l.length ≤ 9223372036854775807) compS true
theorem compS_ok : CtOk Tryz.prog 75 c_compS_ok := compS_of (fun a cap w => Any.slices_Compact_string_empty Tryz.lays194 a cap w) (fun blk off cap zs w hH hs hc => Any.slices_Compact_string Tryz.lays194 blk off cap zs w hH hs hc)
abbrev c_bs_ok : Ct := .fn [.list .str, .str] (some fun (l : List ByteArray) (_ : ByteArray) => l.length < 4611686018427387904) (fun (l : List ByteArray) (x : ByteArray) => RV.tup [.int .i64, .bool] (bsI l x, bsB l x, ()))
theorem bs_ok : CtOk Tryz.prog 76 c_bs_ok := bs_of (fun a c x w => Any2.slices_BinarySearch_string_empty Tryz.lays226 a c x w) (fun b off n c Sx x w hn hc => Any2.slices_BinarySearch_string Tryz.lays226 b off n c Sx x w hn hc)
abbrev c_len_ok : Ct := .fn [.int .u64] (some fun (x : Int) => 0 ≤ x ∧ x ≤ 18446744073709551615) (fun (x : Int) => RV.d (.int .i64) ((Lib.bitLen x.toNat : Nat) : Int))
theorem len_ok : CtOk Tryz.prog 86 c_len_ok := len_of (fun x w h0 h1 => Any.bits_Len64 Tryz.lays129 x w h0 h1)
end Go.Proofs.YtlamfjhhjfgemaaGreat
