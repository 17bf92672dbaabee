/- The closures of slices.Sort and slices.Compact at []int in this program, as the library knows them. -/
import Derived.Test.YtojdmkkjamakiaaAbsSo
import Derived.Test.YtojdmkkjamakiaaRows
namespace Go.Proofs
open Go.Shelf
def Try.lays189_ren : Go.Shelf.Ren := ⟨fun | 189 => 36 | 125 => 51 | 257 => 50 | 128 => 67 | 129 => 68 | 294 => 58 | 295 => 59 | 296 => 60 | 297 => 61 | 298 => 62 | 299 => 63 | 216 => 64 | 300 => 65 | 301 => 66 | 328 => 71 | 329 => 72 | 330 => 73 | 331 => 74 | 332 => 75 | 215 => 76 | 343 => 77 | n => n, fun | 28 => 27 | 3 => 3 | 46 => 69 | 0 => 0 | 51 => 50 | 53 => 71 | 4 => 4 | 183 => 92 | 182 => 91 | 131 => 96 | 5 => 5 | 9 => 9 | 218 => 102 | 222 => 106 | 228 => 109 | 229 => 110 | n => n, fun | n => n⟩
theorem Try.lays189 : Go.Proofs.Lays.n189 Try.prog Try.lays189_ren := {
  mixed := by kernel_rfl
  f125 := Try.func51.trans (congrArg some (by kernel_rfl))
  f128 := Try.func67.trans (congrArg some (by kernel_rfl))
  f129 := Try.func68.trans (congrArg some (by kernel_rfl))
  f189 := Try.func36.trans (congrArg some (by kernel_rfl))
  f215 := Try.func76.trans (congrArg some (by kernel_rfl))
  f216 := Try.func64.trans (congrArg some (by kernel_rfl))
  f257 := Try.func50.trans (congrArg some (by kernel_rfl))
  f294 := Try.func58.trans (congrArg some (by kernel_rfl))
  f295 := Try.func59.trans (congrArg some (by kernel_rfl))
  f296 := Try.func60.trans (congrArg some (by kernel_rfl))
  f297 := Try.func61.trans (congrArg some (by kernel_rfl))
  f298 := Try.func62.trans (congrArg some (by kernel_rfl))
  f299 := Try.func63.trans (congrArg some (by kernel_rfl))
  f300 := Try.func65.trans (congrArg some (by kernel_rfl))
  f301 := Try.func66.trans (congrArg some (by kernel_rfl))
  f328 := Try.func71.trans (congrArg some (by kernel_rfl))
  f329 := Try.func72.trans (congrArg some (by kernel_rfl))
  f330 := Try.func73.trans (congrArg some (by kernel_rfl))
  f331 := Try.func74.trans (congrArg some (by kernel_rfl))
  f332 := Try.func75.trans (congrArg some (by kernel_rfl))
  f343 := Try.func77.trans (congrArg some (by kernel_rfl))
  t0 := Try.underlying0
  a0 := Try.isAgg0
  z0 := Try.sizeOf0
  v0 := Try.zeroValue0
  t3 := Try.underlying3
  a3 := Try.isAgg3
  z3 := Try.sizeOf3
  v3 := Try.zeroValue3
  t4 := Try.underlying4
  a4 := Try.isAgg4
  z4 := Try.sizeOf4
  v4 := Try.zeroValue4
  t5 := Try.underlying5
  a5 := Try.isAgg5
  z5 := Try.sizeOf5
  v5 := Try.zeroValue5
  t9 := Try.underlying9
  a9 := Try.isAgg9
  z9 := Try.sizeOf9
  v9 := Try.zeroValue9
  t28 := Try.underlying27
  a28 := Try.isAgg27
  z28 := Try.sizeOf27
  v28 := Try.zeroValue27
  t46 := Try.underlying69
  a46 := Try.isAgg69
  z46 := Try.sizeOf69
  v46 := Try.zeroValue69
  t51 := Try.underlying50
  a51 := Try.isAgg50
  z51 := Try.sizeOf50
  v51 := Try.zeroValue50
  t53 := Try.underlying71
  a53 := Try.isAgg71
  z53 := Try.sizeOf71
  v53 := Try.zeroValue71
  t131 := Try.underlying96
  a131 := Try.isAgg96
  z131 := Try.sizeOf96
  v131 := Try.zeroValue96
  t182 := Try.underlying91
  a182 := Try.isAgg91
  z182 := Try.sizeOf91
  v182 := Try.zeroValue91
  t183 := Try.underlying92
  a183 := Try.isAgg92
  z183 := Try.sizeOf92
  v183 := Try.zeroValue92
  t218 := Try.underlying102
  a218 := Try.isAgg102
  z218 := Try.sizeOf102
  v218 := Try.zeroValue102
  t222 := Try.underlying106
  a222 := Try.isAgg106
  z222 := Try.sizeOf106
  v222 := Try.zeroValue106
  t228 := Try.underlying109
  a228 := Try.isAgg109
  z228 := Try.sizeOf109
  v228 := Try.zeroValue109
  t229 := Try.underlying110
  a229 := Try.isAgg110
  z229 := Try.sizeOf110
  v229 := Try.zeroValue110 }
def Try.lays220_ren : Go.Shelf.Ren := ⟨fun | 20 => 37 | n => n, fun | 22 => 27 | 3 => 3 | 4 => 4 | 0 => 0 | n => n, fun | n => n⟩
theorem Try.lays220 : Go.Proofs.Lays2.n20 Try.prog Try.lays220_ren := {
  mixed := by kernel_rfl
  f20 := Try.func37.trans (congrArg some (by kernel_rfl))
  t0 := Try.underlying0
  a0 := Try.isAgg0
  z0 := Try.sizeOf0
  v0 := Try.zeroValue0
  t3 := Try.underlying3
  a3 := Try.isAgg3
  z3 := Try.sizeOf3
  v3 := Try.zeroValue3
  t4 := Try.underlying4
  a4 := Try.isAgg4
  z4 := Try.sizeOf4
  v4 := Try.zeroValue4
  t22 := Try.underlying27
  a22 := Try.isAgg27
  z22 := Try.sizeOf27
  v22 := Try.zeroValue27
  i3 := by kernel_rfl }
def Try.growI_ren : Go.Shelf.Ren := ⟨fun | 4 => 49 | n => n, fun | 22 => 27 | 25 => 3 | 3 => 3 | 4 => 4 | 9 => 9 | 20 => 20 | 0 => 0 | n => n, fun | n => n⟩
theorem Try.growI : Go.Proofs.Lays8.n4 Try.prog Try.growI_ren := {
  mixed := by kernel_rfl
  f4 := ⟨Try.f49.name, by decide, Try.func49.trans (congrArg some (by kernel_rfl))⟩
  t0 := Try.underlying0
  a0 := Try.isAgg0
  z0 := Try.sizeOf0
  v0 := Try.zeroValue0
  t3 := Try.underlying3
  a3 := Try.isAgg3
  z3 := Try.sizeOf3
  v3 := Try.zeroValue3
  t4 := Try.underlying4
  a4 := Try.isAgg4
  z4 := Try.sizeOf4
  v4 := Try.zeroValue4
  t9 := Try.underlying9
  a9 := Try.isAgg9
  z9 := Try.sizeOf9
  v9 := Try.zeroValue9
  t20 := Try.underlying20
  a20 := Try.isAgg20
  z20 := Try.sizeOf20
  v20 := Try.zeroValue20
  t22 := Try.underlying27
  a22 := Try.isAgg27
  z22 := Try.sizeOf27
  v22 := Try.zeroValue27 }
end Go.Proofs
namespace Go.Proofs.Ytojdmkkjamakiaa
open Go.Abs
set_option linter.unusedVariables false
abbrev c_sort_ok : Ct := .srt (.int .i64) (some fun (l : List Int) => l.length < 4611686018427387904) sortL false
theorem sort_ok : CtOk Try.prog 36 c_sort_ok := sort_of (fun w => Any.slices_Sort_int_none Try.lays189 none 0 w) (fun blk off cap zs w hH hb hs => Any.slices_Sort_int Try.lays189 blk off cap zs w hH hb hs)
abbrev c_comp_ok : Ct := .srt (.int .i64) (some fun (l : List Int) => l.length ≤ 9223372036854775807) compL true
theorem comp_ok : CtOk Try.prog 37 c_comp_ok := comp_of (fun a cap w => Any.slices_Compact_int_empty Try.lays220 a cap w) (fun blk off cap zs w hH hs hc => Any.slices_Compact_int Try.lays220 blk off cap zs w hH hs hc)
abbrev c_grw_ok : Ct := .grw (.int .i64) 3
set_option maxRecDepth 100000 in
theorem grw_ok : CtOk Try.prog 49 c_grw_ok := by
  refine grw_of (fun w => Any8.slices_Grow_room Try.growI none 0 0 0 w (by omega) (by omega) (by omega) (by omega)) (fun n w h0 h1 => ?_)
  obtain ⟨i0, hi0, hz, hs, hb⟩ : ∃ i0, Try.prog.info? (Try.growI_ren.t 25) = some i0 ∧ i0.zero = some (.int .i64 0) ∧ i0.size = 1 ∧ i0.bytes = 8 := ⟨_, rfl, rfl, rfl, rfl⟩
  refine (Any8.slices_Grow_grow Try.growI i0 (.int .i64 0) hi0 hz (by omega) none 0 0 n [] w (by omega) (by omega) (by rw [hb]; omega) (by omega) (by simp) (fun _ => rfl) (fun a h => by cases h)).mono ?_
  rintro x w' ⟨rfl, rfl⟩
  refine ⟨_, _, rfl, ?_, rfl⟩
  have h1 := zeroCells_size (.int .i64 0) rfl
  simp only [Array.size_append, h1]
  omega
end Go.Proofs.Ytojdmkkjamakiaa
