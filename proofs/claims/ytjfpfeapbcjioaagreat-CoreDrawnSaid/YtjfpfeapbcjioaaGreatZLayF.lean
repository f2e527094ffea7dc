/-
  The texts of this claim, put together: LayF.
-/
import Derived.Shelf.SlSortCmp.WholeK
import Derived.Test.YtjfpfeapbcjioaaGreatProg
set_option linter.unusedSimpArgs false
set_option linter.unusedVariables false
set_option maxHeartbeats 12800000
set_option maxRecDepth 100000
namespace Go.Proofs
open Go.Shelf
def Tryz.sortI_ren:Go.Shelf.Ren:=⟨fun|6=>174|15=>181|14=>211|28=>223|29=>224|20=>240|21=>241|22=>242|23=>243|24=>244|25=>245|26=>246|27=>247|46=>262|47=>249|48=>250|49=>263|50=>264|57=>275|n=>n,fun|22=>43|24=>55|25=>252|3=>3|39=>258|0=>0|53=>305|55=>283|4=>4|46=>299|45=>298|50=>169|5=>5|9=>9|66=>325|70=>329|76=>337|77=>338|n=>n,fun|n=>n⟩
theorem Tryz.sortI:Go.Proofs.SlLaysF0.n6 Tryz.prog Tryz.sortI_ren:={
 mixed:=by kernel_rfl
 f6:=⟨Tryz.f174.name,by decide,Tryz.func174.trans (congrArg some (by kernel_rfl))⟩
 f14:=⟨Tryz.f211.name,by decide,Tryz.func211.trans (congrArg some (by kernel_rfl))⟩
 f15:=Tryz.func181.trans (congrArg some (by kernel_rfl))
 f20:=⟨Tryz.f240.name,by decide,Tryz.func240.trans (congrArg some (by kernel_rfl))⟩
 f21:=⟨Tryz.f241.name,by decide,Tryz.func241.trans (congrArg some (by kernel_rfl))⟩
 f22:=⟨Tryz.f242.name,by decide,Tryz.func242.trans (congrArg some (by kernel_rfl))⟩
 f23:=⟨Tryz.f243.name,by decide,Tryz.func243.trans (congrArg some (by kernel_rfl))⟩
 f24:=⟨Tryz.f244.name,by decide,Tryz.func244.trans (congrArg some (by kernel_rfl))⟩
 f25:=⟨Tryz.f245.name,by decide,Tryz.func245.trans (congrArg some (by kernel_rfl))⟩
 f26:=⟨Tryz.f246.name,by decide,Tryz.func246.trans (congrArg some (by kernel_rfl))⟩
 f27:=⟨Tryz.f247.name,by decide,Tryz.func247.trans (congrArg some (by kernel_rfl))⟩
 f28:=Tryz.func223.trans (congrArg some (by kernel_rfl))
 f29:=Tryz.func224.trans (congrArg some (by kernel_rfl))
 f46:=⟨Tryz.f262.name,by decide,Tryz.func262.trans (congrArg some (by kernel_rfl))⟩
 f47:=Tryz.func249.trans (congrArg some (by kernel_rfl))
 f48:=Tryz.func250.trans (congrArg some (by kernel_rfl))
 f49:=⟨Tryz.f263.name,by decide,Tryz.func263.trans (congrArg some (by kernel_rfl))⟩
 f50:=⟨Tryz.f264.name,by decide,Tryz.func264.trans (congrArg some (by kernel_rfl))⟩
 f57:=⟨Tryz.f275.name,by decide,Tryz.func275.trans (congrArg some (by kernel_rfl))⟩
 t0:=Tryz.underlying0
 a0:=Tryz.isAgg0
 z0:=Tryz.sizeOf0
 v0:=Tryz.zeroValue0
 t3:=Tryz.underlying3
 a3:=Tryz.isAgg3
 z3:=Tryz.sizeOf3
 v3:=Tryz.zeroValue3
 t4:=Tryz.underlying4
 a4:=Tryz.isAgg4
 z4:=Tryz.sizeOf4
 v4:=Tryz.zeroValue4
 t5:=Tryz.underlying5
 a5:=Tryz.isAgg5
 z5:=Tryz.sizeOf5
 v5:=Tryz.zeroValue5
 t9:=Tryz.underlying9
 a9:=Tryz.isAgg9
 z9:=Tryz.sizeOf9
 v9:=Tryz.zeroValue9
 t22:=Tryz.underlying43
 a22:=Tryz.isAgg43
 z22:=Tryz.sizeOf43
 v22:=Tryz.zeroValue43
 t25:=Tryz.underlying252
 a25:=Tryz.isAgg252
 z25:=Tryz.sizeOf252
 v25:=Tryz.zeroValue252
 t39:=Tryz.underlying258
 a39:=Tryz.isAgg258
 z39:=Tryz.sizeOf258
 v39:=Tryz.zeroValue258
 t45:=Tryz.underlying298
 a45:=Tryz.isAgg298
 z45:=Tryz.sizeOf298
 v45:=Tryz.zeroValue298
 t46:=Tryz.underlying299
 a46:=Tryz.isAgg299
 z46:=Tryz.sizeOf299
 v46:=Tryz.zeroValue299
 t50:=Tryz.underlying169
 a50:=Tryz.isAgg169
 z50:=Tryz.sizeOf169
 v50:=Tryz.zeroValue169
 t53:=Tryz.underlying305
 a53:=Tryz.isAgg305
 z53:=Tryz.sizeOf305
 v53:=Tryz.zeroValue305
 t55:=Tryz.underlying283
 a55:=Tryz.isAgg283
 z55:=Tryz.sizeOf283
 v55:=Tryz.zeroValue283
 t66:=Tryz.underlying325
 a66:=Tryz.isAgg325
 z66:=Tryz.sizeOf325
 v66:=Tryz.zeroValue325
 t70:=Tryz.underlying329
 a70:=Tryz.isAgg329
 z70:=Tryz.sizeOf329
 v70:=Tryz.zeroValue329
 t76:=Tryz.underlying337
 a76:=Tryz.isAgg337
 z76:=Tryz.sizeOf337
 v76:=Tryz.zeroValue337
 t77:=Tryz.underlying338
 a77:=Tryz.isAgg338
 z77:=Tryz.sizeOf338
 v77:=Tryz.zeroValue338 }
end Go.Proofs
