/-
  The layings of the shelf's contracts at this seat, printed by wip/lay.sh (the kit's lay-plain).
-/
import Derived.Shelf.Small.Strs
import Derived.Shelf.Strings.Prefix
import Derived.Shelf.Sort.Plain
import Derived.Shelf.Slices.In.SortNone
import Derived.Test.YtbgcnagojjjbeaaGreatProg
namespace Go.Proofs
open Go.Shelf
def Tryz.lays106_ren : Go.Shelf.Ren := ⟨fun | 106 => 204 | 213 => 239 | 265 => 261 | n => n, fun | 9 => 9 | 3 => 3 | n => n, fun | n => n⟩
theorem Tryz.lays106 : Go.Proofs.Lays.n106 Tryz.prog Tryz.lays106_ren := {
  mixed := by kernel_rfl
  f106 := Tryz.func204.trans (congrArg some (by kernel_rfl))
  f213 := Tryz.func239.trans (congrArg some (by kernel_rfl))
  f265 := Tryz.func261.trans (congrArg some (by kernel_rfl))
  t3 := Tryz.underlying3
  a3 := Tryz.isAgg3
  z3 := Tryz.sizeOf3
  v3 := Tryz.zeroValue3
  t9 := Tryz.underlying9
  a9 := Tryz.isAgg9
  z9 := Tryz.sizeOf9
  v9 := Tryz.zeroValue9 }
def Tryz.lays99_ren : Go.Shelf.Ren := ⟨fun | 99 => 187 | 206 => 214 | n => n, fun | 9 => 9 | 4 => 4 | 3 => 3 | n => n, fun | n => n⟩
theorem Tryz.lays99 : Go.Proofs.Lays.n99 Tryz.prog Tryz.lays99_ren := {
  mixed := by kernel_rfl
  f99 := Tryz.func187.trans (congrArg some (by kernel_rfl))
  f206 := Tryz.func214.trans (congrArg some (by kernel_rfl))
  t3 := Tryz.underlying3
  a3 := Tryz.isAgg3
  z3 := Tryz.sizeOf3
  v3 := Tryz.zeroValue3
  t4 := Tryz.underlying4
  a4 := Tryz.isAgg4
  z4 := Tryz.sizeOf4
  v4 := Tryz.zeroValue4
  t9 := Tryz.underlying9
  a9 := Tryz.isAgg9
  z9 := Tryz.sizeOf9
  v9 := Tryz.zeroValue9 }
def Tryz.lays190_ren : Go.Shelf.Ren := ⟨fun | 190 => 141 | 125 => 189 | 258 => 188 | 128 => 224 | 129 => 225 | 302 => 215 | 303 => 216 | 304 => 217 | 305 => 218 | 306 => 219 | 307 => 220 | 308 => 221 | 309 => 222 | 310 => 223 | 333 => 249 | 329 => 250 | 330 => 251 | 334 => 252 | 335 => 253 | 336 => 254 | 344 => 266 | n => n, fun | 31 => 82 | 9 => 9 | 3 => 3 | 46 => 266 | 0 => 0 | 51 => 306 | 53 => 284 | 4 => 4 | 183 => 300 | 182 => 299 | 131 => 171 | 5 => 5 | 218 => 326 | 222 => 330 | 228 => 338 | 229 => 339 | n => n, fun | n => n⟩
theorem Tryz.lays190 : Go.Proofs.Lays.n190 Tryz.prog Tryz.lays190_ren := {
  mixed := by kernel_rfl
  f125 := Tryz.func189.trans (congrArg some (by kernel_rfl))
  f128 := Tryz.func224.trans (congrArg some (by kernel_rfl))
  f129 := Tryz.func225.trans (congrArg some (by kernel_rfl))
  f190 := Tryz.func141.trans (congrArg some (by kernel_rfl))
  f258 := Tryz.func188.trans (congrArg some (by kernel_rfl))
  f302 := Tryz.func215.trans (congrArg some (by kernel_rfl))
  f303 := Tryz.func216.trans (congrArg some (by kernel_rfl))
  f304 := Tryz.func217.trans (congrArg some (by kernel_rfl))
  f305 := Tryz.func218.trans (congrArg some (by kernel_rfl))
  f306 := Tryz.func219.trans (congrArg some (by kernel_rfl))
  f307 := Tryz.func220.trans (congrArg some (by kernel_rfl))
  f308 := Tryz.func221.trans (congrArg some (by kernel_rfl))
  f309 := Tryz.func222.trans (congrArg some (by kernel_rfl))
  f310 := Tryz.func223.trans (congrArg some (by kernel_rfl))
  f329 := Tryz.func250.trans (congrArg some (by kernel_rfl))
  f330 := Tryz.func251.trans (congrArg some (by kernel_rfl))
  f333 := Tryz.func249.trans (congrArg some (by kernel_rfl))
  f334 := Tryz.func252.trans (congrArg some (by kernel_rfl))
  f335 := Tryz.func253.trans (congrArg some (by kernel_rfl))
  f336 := Tryz.func254.trans (congrArg some (by kernel_rfl))
  f344 := Tryz.func266.trans (congrArg some (by kernel_rfl))
  t0 := Tryz.underlying0
  a0 := Tryz.isAgg0
  z0 := Tryz.sizeOf0
  v0 := Tryz.zeroValue0
  t3 := Tryz.underlying3
  a3 := Tryz.isAgg3
  z3 := Tryz.sizeOf3
  v3 := Tryz.zeroValue3
  t4 := Tryz.underlying4
  a4 := Tryz.isAgg4
  z4 := Tryz.sizeOf4
  v4 := Tryz.zeroValue4
  t5 := Tryz.underlying5
  a5 := Tryz.isAgg5
  z5 := Tryz.sizeOf5
  v5 := Tryz.zeroValue5
  t9 := Tryz.underlying9
  a9 := Tryz.isAgg9
  z9 := Tryz.sizeOf9
  v9 := Tryz.zeroValue9
  t31 := Tryz.underlying82
  a31 := Tryz.isAgg82
  z31 := Tryz.sizeOf82
  v31 := Tryz.zeroValue82
  t46 := Tryz.underlying266
  a46 := Tryz.isAgg266
  z46 := Tryz.sizeOf266
  v46 := Tryz.zeroValue266
  t51 := Tryz.underlying306
  a51 := Tryz.isAgg306
  z51 := Tryz.sizeOf306
  v51 := Tryz.zeroValue306
  t53 := Tryz.underlying284
  a53 := Tryz.isAgg284
  z53 := Tryz.sizeOf284
  v53 := Tryz.zeroValue284
  t131 := Tryz.underlying171
  a131 := Tryz.isAgg171
  z131 := Tryz.sizeOf171
  v131 := Tryz.zeroValue171
  t182 := Tryz.underlying299
  a182 := Tryz.isAgg299
  z182 := Tryz.sizeOf299
  v182 := Tryz.zeroValue299
  t183 := Tryz.underlying300
  a183 := Tryz.isAgg300
  z183 := Tryz.sizeOf300
  v183 := Tryz.zeroValue300
  t218 := Tryz.underlying326
  a218 := Tryz.isAgg326
  z218 := Tryz.sizeOf326
  v218 := Tryz.zeroValue326
  t222 := Tryz.underlying330
  a222 := Tryz.isAgg330
  z222 := Tryz.sizeOf330
  v222 := Tryz.zeroValue330
  t228 := Tryz.underlying338
  a228 := Tryz.isAgg338
  z228 := Tryz.sizeOf338
  v228 := Tryz.zeroValue338
  t229 := Tryz.underlying339
  a229 := Tryz.isAgg339
  z229 := Tryz.sizeOf339
  v229 := Tryz.zeroValue339 }
end Go.Proofs
