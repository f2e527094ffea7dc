/-
  The texts of this claim, put together: Lays.
-/
import Derived.Shelf.Small.Strs
import Derived.Shelf.Strings.Prefix
import Derived.Shelf.Sort.Plain
import Derived.Shelf.Slices.In.SortNone
import Derived.Test.YtjfpfeapbcjioaaGreatProg
set_option linter.unusedSimpArgs false
set_option linter.unusedVariables false
set_option maxHeartbeats 12800000
set_option maxRecDepth 100000
namespace Go.Proofs
open Go.Shelf
def Tryz.lays106_ren:Go.Shelf.Ren:=⟨fun|106=>203|213=>238|265=>260|n=>n,fun|9=>9|3=>3|n=>n,fun|n=>n⟩
theorem Tryz.lays106:Go.Proofs.Lays.n106 Tryz.prog Tryz.lays106_ren:={
 mixed:=by kernel_rfl
 f106:=Tryz.func203.trans (congrArg some (by kernel_rfl))
 f213:=Tryz.func238.trans (congrArg some (by kernel_rfl))
 f265:=Tryz.func260.trans (congrArg some (by kernel_rfl))
 t3:=Tryz.underlying3
 a3:=Tryz.isAgg3
 z3:=Tryz.sizeOf3
 v3:=Tryz.zeroValue3
 t9:=Tryz.underlying9
 a9:=Tryz.isAgg9
 z9:=Tryz.sizeOf9
 v9:=Tryz.zeroValue9 }
def Tryz.lays99_ren:Go.Shelf.Ren:=⟨fun|99=>179|206=>213|n=>n,fun|9=>9|4=>4|3=>3|n=>n,fun|n=>n⟩
theorem Tryz.lays99:Go.Proofs.Lays.n99 Tryz.prog Tryz.lays99_ren:={
 mixed:=by kernel_rfl
 f99:=Tryz.func179.trans (congrArg some (by kernel_rfl))
 f206:=Tryz.func213.trans (congrArg some (by kernel_rfl))
 t3:=Tryz.underlying3
 a3:=Tryz.isAgg3
 z3:=Tryz.sizeOf3
 v3:=Tryz.zeroValue3
 t4:=Tryz.underlying4
 a4:=Tryz.isAgg4
 z4:=Tryz.sizeOf4
 v4:=Tryz.zeroValue4
 t9:=Tryz.underlying9
 a9:=Tryz.isAgg9
 z9:=Tryz.sizeOf9
 v9:=Tryz.zeroValue9 }
def Tryz.lays190_ren:Go.Shelf.Ren:=⟨fun|190=>130|125=>181|258=>180|128=>223|129=>224|302=>214|303=>215|304=>216|305=>217|306=>218|307=>219|308=>220|309=>221|310=>222|333=>248|329=>249|330=>250|334=>251|335=>252|336=>253|344=>265|n=>n,fun|31=>79|9=>9|3=>3|46=>258|0=>0|51=>305|53=>283|4=>4|183=>299|182=>298|131=>169|5=>5|218=>325|222=>329|228=>337|229=>338|n=>n,fun|n=>n⟩
theorem Tryz.lays190:Go.Proofs.Lays.n190 Tryz.prog Tryz.lays190_ren:={
 mixed:=by kernel_rfl
 f125:=Tryz.func181.trans (congrArg some (by kernel_rfl))
 f128:=Tryz.func223.trans (congrArg some (by kernel_rfl))
 f129:=Tryz.func224.trans (congrArg some (by kernel_rfl))
 f190:=Tryz.func130.trans (congrArg some (by kernel_rfl))
 f258:=Tryz.func180.trans (congrArg some (by kernel_rfl))
 f302:=Tryz.func214.trans (congrArg some (by kernel_rfl))
 f303:=Tryz.func215.trans (congrArg some (by kernel_rfl))
 f304:=Tryz.func216.trans (congrArg some (by kernel_rfl))
 f305:=Tryz.func217.trans (congrArg some (by kernel_rfl))
 f306:=Tryz.func218.trans (congrArg some (by kernel_rfl))
 f307:=Tryz.func219.trans (congrArg some (by kernel_rfl))
 f308:=Tryz.func220.trans (congrArg some (by kernel_rfl))
 f309:=Tryz.func221.trans (congrArg some (by kernel_rfl))
 f310:=Tryz.func222.trans (congrArg some (by kernel_rfl))
 f329:=Tryz.func249.trans (congrArg some (by kernel_rfl))
 f330:=Tryz.func250.trans (congrArg some (by kernel_rfl))
 f333:=Tryz.func248.trans (congrArg some (by kernel_rfl))
 f334:=Tryz.func251.trans (congrArg some (by kernel_rfl))
 f335:=Tryz.func252.trans (congrArg some (by kernel_rfl))
 f336:=Tryz.func253.trans (congrArg some (by kernel_rfl))
 f344:=Tryz.func265.trans (congrArg some (by kernel_rfl))
 t0:=Tryz.underlying0
 a0:=Tryz.isAgg0
 z0:=Tryz.sizeOf0
 v0:=Tryz.zeroValue0
 t3:=Tryz.underlying3
 a3:=Tryz.isAgg3
 z3:=Tryz.sizeOf3
 v3:=Tryz.zeroValue3
 t4:=Tryz.underlying4
 a4:=Tryz.isAgg4
 z4:=Tryz.sizeOf4
 v4:=Tryz.zeroValue4
 t5:=Tryz.underlying5
 a5:=Tryz.isAgg5
 z5:=Tryz.sizeOf5
 v5:=Tryz.zeroValue5
 t9:=Tryz.underlying9
 a9:=Tryz.isAgg9
 z9:=Tryz.sizeOf9
 v9:=Tryz.zeroValue9
 t31:=Tryz.underlying79
 a31:=Tryz.isAgg79
 z31:=Tryz.sizeOf79
 v31:=Tryz.zeroValue79
 t46:=Tryz.underlying258
 a46:=Tryz.isAgg258
 z46:=Tryz.sizeOf258
 v46:=Tryz.zeroValue258
 t51:=Tryz.underlying305
 a51:=Tryz.isAgg305
 z51:=Tryz.sizeOf305
 v51:=Tryz.zeroValue305
 t53:=Tryz.underlying283
 a53:=Tryz.isAgg283
 z53:=Tryz.sizeOf283
 v53:=Tryz.zeroValue283
 t131:=Tryz.underlying169
 a131:=Tryz.isAgg169
 z131:=Tryz.sizeOf169
 v131:=Tryz.zeroValue169
 t182:=Tryz.underlying298
 a182:=Tryz.isAgg298
 z182:=Tryz.sizeOf298
 v182:=Tryz.zeroValue298
 t183:=Tryz.underlying299
 a183:=Tryz.isAgg299
 z183:=Tryz.sizeOf299
 v183:=Tryz.zeroValue299
 t218:=Tryz.underlying325
 a218:=Tryz.isAgg325
 z218:=Tryz.sizeOf325
 v218:=Tryz.zeroValue325
 t222:=Tryz.underlying329
 a222:=Tryz.isAgg329
 z222:=Tryz.sizeOf329
 v222:=Tryz.zeroValue329
 t228:=Tryz.underlying337
 a228:=Tryz.isAgg337
 z228:=Tryz.sizeOf337
 v228:=Tryz.zeroValue337
 t229:=Tryz.underlying338
 a229:=Tryz.isAgg338
 z229:=Tryz.sizeOf338
 v229:=Tryz.zeroValue338 }
end Go.Proofs
