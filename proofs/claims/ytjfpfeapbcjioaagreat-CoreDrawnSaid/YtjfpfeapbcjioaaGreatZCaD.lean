/-
  The texts of this claim, put together: CaD.
-/
import Derived.Test.YtjfpfeapbcjioaaGreatZCaA
import Derived.Test.YtjfpfeapbcjioaaGreatZId
set_option linter.unusedSimpArgs false
set_option linter.unusedVariables false
set_option maxHeartbeats 12800000
set_option maxRecDepth 100000
namespace Go.Proofs.YtjfpfeapbcjioaaGreat
section
open Go.RowKit Go.PlainAid
def leapB (y:Int):Bool:=decide (1≤y∧y≤9999∧y % 4=0∧(y % 100≠0∨y % 400=0))
def monthL:List Int:=[31,28,31,30,31,30,31,31,30,31,30,31]
def monthI (y m:Int):Int:=if m=2∧(y=0∨leapB y=true) then 29 else monthL.getD (m-1).toNat 0
def mayD (y m d:Int):Bool:=decide (0≤y∧y≤9999∧1≤m∧m≤12∧1≤d∧d≤monthI y m)
def twoB (n:Nat):ByteArray:=⟨#[UInt8.ofNat (48+n / 10 % 10),UInt8.ofNat (48+n % 10)]⟩
def dash:ByteArray:=⟨#[45]⟩
def yearB (y:Nat):ByteArray:=if y=0 then dash else twoB (y / 100)++twoB y
def showD (y m d:Nat):ByteArray:=if mayD y m d=true then yearB y++dash++twoB m++dash++twoB d else ⟨#[]⟩
theorem ref_leap (y:Nat) (w:World) (hy:y≤1000000):Calls Tryz.prog 287 #[.int .i64 y] w fun e w'=>e = .returned (.bool (leapB y))∧w=w':=by
 have key:∀ b,leapB y=b→Calls Tryz.prog 287 #[.int .i64 y] w fun e w'=>e = .returned (.bool b)∧w=w':=fun b hb=>by
  unfold leapB at hb;have HB:=hI hb;clear hb
  by_cases h1:(y:Int)<1
  ·have e:b=false:=by rw [←HB.out];exact decide_eq_false (by omega)
   subst e;go_enter Tryz.func287,Tryz.ntmps287;go_wp2;go_ret;exact ⟨rfl,rfl⟩
  ·by_cases h2:(9999:Int)<y
   ·have e:b=false:=by rw [←HB.out];exact decide_eq_false (by omega)
    subst e;go_enter Tryz.func287,Tryz.ntmps287;go_wp2;go_ret;exact ⟨rfl,rfl⟩
   ·by_cases h3:(y:Int) % 4=0
    ·have h3':((y:Int) % 4 == 0)=true:=by simpa using h3
     by_cases h4:(y:Int) % 100=0
     ·have h4':((y:Int) % 100 != 0)=false:=by simpa using h4
      by_cases h5:(y:Int) % 400=0
      ·have e:b=true:=by rw [←HB.out];exact decide_eq_true (by omega)
       have h5':((y:Int) % 400 == 0)=true:=by simpa using h5
       subst e;clear h3 h4 h5 HB;go_enter Tryz.func287,Tryz.ntmps287;go_wp2;go_ret;exact ⟨rfl,rfl⟩
      ·have e:b=false:=by rw [←HB.out];exact decide_eq_false (by omega)
       have h5':((y:Int) % 400 == 0)=false:=by simpa using h5
       subst e;clear h3 h4 h5 HB;go_enter Tryz.func287,Tryz.ntmps287;go_wp2;go_ret;exact ⟨rfl,rfl⟩
     ·have h4':((y:Int) % 100 != 0)=true:=by simpa using h4
      have e:b=true:=by rw [←HB.out];exact decide_eq_true (by omega)
      subst e;clear h3 h4 HB;go_enter Tryz.func287,Tryz.ntmps287;go_wp2;go_ret;exact ⟨rfl,rfl⟩
    ·have h3':((y:Int) % 4 == 0)=false:=by simpa using h3
     have e:b=false:=by rw [←HB.out];exact decide_eq_false (by omega)
     subst e;clear h3 HB;go_enter Tryz.func287,Tryz.ntmps287;go_wp2;go_ret;exact ⟨rfl,rfl⟩
 exact key _ rfl
def IntP (z:Int) (w:World) (e:Ending) (w':World):Prop:=e = .returned (.int .i64 z)∧Pure w w'
theorem ref_month (y m:Nat) (w:World) (hy:y≤1000000) (h1:1≤m) (h2:m≤12):Calls Tryz.prog 286 #[.int .i64 y,.int .i64 m] w (IntP (monthI y m) w):=by
 obtain ⟨R,hR⟩:∃ R,monthI y m=R:=⟨_,rfl⟩;rw [hR];unfold monthI at hR;have HR:=hI hR;have CL:=fun w=>ref_leap y w hy;have hml:monthL.length=12:=rfl;obtain ⟨v,hv⟩:∃ v,monthL[m-1]? = some v:=⟨_,List.getElem?_eq_getElem (by omega)⟩
 have hsl:∀ w:World,(w.alloc (.cells #[.int .i64 31,.int .i64 28,.int .i64 31,.int .i64 30,.int .i64 31,.int .i64 30,.int .i64 31,.int .i64 31,.int .i64 30,.int .i64 31,.int .i64 30,.int .i64 31] 3)).cell? ⟨w.heap.size,m-1,none⟩=some (.int .i64 v):=fun w=>by
  rw [(Blk.new w 3 _).cell (m-1)];have:(#[.int .i64 31,.int .i64 28,.int .i64 31,.int .i64 30,.int .i64 31,.int .i64 30,.int .i64 31,.int .i64 31,.int .i64 30,.int .i64 31,.int .i64 30,.int .i64 31]:Array Value)=(monthL.map (Value.int .i64)).toArray:=rfl;rw [this];simp [hv]
 have hmd:monthL.getD ((m:Int)-1).toNat 0=v:=by
  rw [show ((m:Int)-1).toNat=m-1 by omega,List.getD,hv];rfl
 have Hmd:=hI hmd;have hmc:((m:Int)-1).toNat=m-1:=by omega
 have hp:=(Kept.refl (fun _=>False) w).alloc (.cells #[.int .i64 31,.int .i64 28,.int .i64 31,.int .i64 30,.int .i64 31,.int .i64 30,.int .i64 31,.int .i64 31,.int .i64 30,.int .i64 31,.int .i64 30,.int .i64 31] 3);have Hp:=hI hp;have Hsl:=hI hsl;clear hR hv hml hmd hp hsl;have hs1:=Hsl.out w
 by_cases c1:m=2
 ·have c1':((m:Int) == 2)=true:=by simp [c1]
  by_cases c2:y=0
  ·have c2':((y:Int) == 0)=true:=by simp [c2]
   have e:R=29:=by rw [←HR.out,if_pos ⟨by omega,.inl (by omega)⟩]
   subst e;clear c1 c2 HR;go_enter Tryz.func286,Tryz.ntmps286;go_wp2;go_ret;exact ⟨rfl,Hp.out⟩
  ·have c2':((y:Int) == 0)=false:=by simp;omega
   cases hl:leapB y with
   | true =>
    have e:R=29:=by rw [←HR.out,if_pos ⟨by omega,.inr hl⟩]
    subst e;rw [hl] at CL;have CL:=hI CL;clear c1 c2 HR hl;go_enter Tryz.func286,Tryz.ntmps286;go_wp2_with fail;refine (CL.out _).mono ?_;rintro e w1 ⟨rfl,e1⟩;obtain rfl:=e1;go_wp2;go_ret;exact ⟨rfl,Hp.out⟩
   | false =>
    have e:R=v:=by rw [←HR.out,if_neg (by rw [hl];rintro ⟨_,h|h⟩;omega;cases h),Hmd.out]
    subst e;rw [hl] at CL;have CL:=hI CL;clear c1 c2 HR hl;go_enter Tryz.func286,Tryz.ntmps286;go_wp2_with fail;refine (CL.out _).mono ?_;rintro e w1 ⟨rfl,e1⟩;obtain rfl:=e1;go_wp2;go_ret;exact ⟨rfl,Hp.out⟩
 ·have c1':((m:Int) == 2)=false:=by simp;omega
  have e:R=v:=by rw [←HR.out,if_neg (by omega),Hmd.out]
  subst e;clear c1 HR CL;go_enter Tryz.func286,Tryz.ntmps286;go_wp2;go_ret;exact ⟨rfl,Hp.out⟩
end
end Go.Proofs.YtjfpfeapbcjioaaGreat
