/- The library functions of this seat: the kit's contracts, laid at this program. -/
import Derived.Test.YtngeclldoplihaaViEnv
import Derived.Test.YtngeclldoplihaaViPrimSort
set_option maxRecDepth 100000
namespace Go.Vi
open Go.Proofs Go.Shelf
def sortL_ren : Go.Shelf.Ren := ⟨fun | 189 => 68 | 125 => 105 | 257 => 104 | 128 => 134 | 129 => 135 | 294 => 125 | 295 => 126 | 296 => 127 | 297 => 128 | 298 => 129 | 299 => 130 | 216 => 131 | 300 => 132 | 301 => 133 | 328 => 164 | 329 => 165 | 330 => 166 | 331 => 167 | 332 => 168 | 215 => 124 | 343 => 172 | n => n, fun | 28 => 27 | 3 => 3 | 46 => 56 | 0 => 0 | 51 => 22 | 53 => 196 | 4 => 4 | 183 => 188 | 182 => 187 | 131 => 192 | 5 => 5 | 9 => 9 | 218 => 213 | 222 => 171 | 228 => 224 | 229 => 87 | n => n, fun | n => n⟩
theorem sortL : Go.Proofs.Lays.n189 Try.prog sortL_ren := {
  mixed := by kernel_rfl,
  f125 := Try.func105.trans (congrArg some (by kernel_rfl)),
  f128 := Try.func134.trans (congrArg some (by kernel_rfl)),
  f129 := Try.func135.trans (congrArg some (by kernel_rfl)),
  f189 := Try.func68.trans (congrArg some (by kernel_rfl)),
  f215 := Try.func124.trans (congrArg some (by kernel_rfl)),
  f216 := Try.func131.trans (congrArg some (by kernel_rfl)),
  f257 := Try.func104.trans (congrArg some (by kernel_rfl)),
  f294 := Try.func125.trans (congrArg some (by kernel_rfl)),
  f295 := Try.func126.trans (congrArg some (by kernel_rfl)),
  f296 := Try.func127.trans (congrArg some (by kernel_rfl)),
  f297 := Try.func128.trans (congrArg some (by kernel_rfl)),
  f298 := Try.func129.trans (congrArg some (by kernel_rfl)),
  f299 := Try.func130.trans (congrArg some (by kernel_rfl)),
  f300 := Try.func132.trans (congrArg some (by kernel_rfl)),
  f301 := Try.func133.trans (congrArg some (by kernel_rfl)),
  f328 := Try.func164.trans (congrArg some (by kernel_rfl)),
  f329 := Try.func165.trans (congrArg some (by kernel_rfl)),
  f330 := Try.func166.trans (congrArg some (by kernel_rfl)),
  f331 := Try.func167.trans (congrArg some (by kernel_rfl)),
  f332 := Try.func168.trans (congrArg some (by kernel_rfl)),
  f343 := Try.func172.trans (congrArg some (by kernel_rfl)),
  t0 := Try.underlying0,
  a0 := Try.isAgg0,
  z0 := Try.sizeOf0,
  v0 := Try.zeroValue0,
  t3 := Try.underlying3,
  a3 := Try.isAgg3,
  z3 := Try.sizeOf3,
  v3 := Try.zeroValue3,
  t4 := Try.underlying4,
  a4 := Try.isAgg4,
  z4 := Try.sizeOf4,
  v4 := Try.zeroValue4,
  t5 := Try.underlying5,
  a5 := Try.isAgg5,
  z5 := Try.sizeOf5,
  v5 := Try.zeroValue5,
  t9 := Try.underlying9,
  a9 := Try.isAgg9,
  z9 := Try.sizeOf9,
  v9 := Try.zeroValue9,
  t28 := Try.underlying27,
  a28 := Try.isAgg27,
  z28 := Try.sizeOf27,
  v28 := Try.zeroValue27,
  t46 := Try.underlying56,
  a46 := Try.isAgg56,
  z46 := Try.sizeOf56,
  v46 := Try.zeroValue56,
  t51 := Try.underlying22,
  a51 := Try.isAgg22,
  z51 := Try.sizeOf22,
  v51 := Try.zeroValue22,
  t53 := Try.underlying196,
  a53 := Try.isAgg196,
  z53 := Try.sizeOf196,
  v53 := Try.zeroValue196,
  t131 := Try.underlying192,
  a131 := Try.isAgg192,
  z131 := Try.sizeOf192,
  v131 := Try.zeroValue192,
  t182 := Try.underlying187,
  a182 := Try.isAgg187,
  z182 := Try.sizeOf187,
  v182 := Try.zeroValue187,
  t183 := Try.underlying188,
  a183 := Try.isAgg188,
  z183 := Try.sizeOf188,
  v183 := Try.zeroValue188,
  t218 := Try.underlying213,
  a218 := Try.isAgg213,
  z218 := Try.sizeOf213,
  v218 := Try.zeroValue213,
  t222 := Try.underlying171,
  a222 := Try.isAgg171,
  z222 := Try.sizeOf171,
  v222 := Try.zeroValue171,
  t228 := Try.underlying224,
  a228 := Try.isAgg224,
  z228 := Try.sizeOf224,
  v228 := Try.zeroValue224,
  t229 := Try.underlying87,
  a229 := Try.isAgg87,
  z229 := Try.sizeOf87,
  v229 := Try.zeroValue87
}
def compL_ren : Go.Shelf.Ren := ⟨fun | 20 => 69 | n => n, fun | 22 => 27 | 3 => 3 | 4 => 4 | 0 => 0 | n => n, fun | n => n⟩
theorem compL : Go.Proofs.Lays2.n20 Try.prog compL_ren := {
  mixed := by kernel_rfl,
  f20 := Try.func69.trans (congrArg some (by kernel_rfl)),
  t0 := Try.underlying0,
  a0 := Try.isAgg0,
  z0 := Try.sizeOf0,
  v0 := Try.zeroValue0,
  t3 := Try.underlying3,
  a3 := Try.isAgg3,
  z3 := Try.sizeOf3,
  v3 := Try.zeroValue3,
  t4 := Try.underlying4,
  a4 := Try.isAgg4,
  z4 := Try.sizeOf4,
  v4 := Try.zeroValue4,
  t22 := Try.underlying27,
  a22 := Try.isAgg27,
  z22 := Try.sizeOf27,
  v22 := Try.zeroValue27,
  i3 := by kernel_rfl
}
theorem primOk : PrimOk E0 := by
  refine prim_ok prims E0p fun f q h => ?_
  have key : f = 68 ∧ q = sortP ∨ f = 69 ∧ q = compactP := by
    unfold prims primL at h
    simp only [lookN] at h
    split at h
    · rename_i hk; injection h with h; exact .inl ⟨Nat.eq_of_beq_eq_true hk, h.symm⟩
    · split at h
      · rename_i hk; injection h with h; exact .inr ⟨Nat.eq_of_beq_eq_true hk, h.symm⟩
      · cases h
  rcases key with ⟨rfl, rfl⟩ | ⟨rfl, rfl⟩
  · exact sort_ok sortL
  · exact compact_ok compL
end Go.Vi
