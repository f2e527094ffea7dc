/-
  The texts of this claim, put together: CaH.
-/
import Derived.Test.YtjfpfeapbcjioaaGreatZCaE
import Derived.Test.YtjfpfeapbcjioaaGreatZId
import Derived.Test.YtjfpfeapbcjioaaGreatZStr
set_option linter.unusedSimpArgs false
set_option linter.unusedVariables false
set_option maxHeartbeats 12800000
set_option maxRecDepth 100000
namespace Go.Proofs.YtjfpfeapbcjioaaGreat
section
open Go.RowKit Go.PlainAid
def dayStep (L i:Nat) (c:Int) (a:Nat×Nat×Nat):Nat×Nat×Nat :=
 if c<48∨57<c then a
 else if i+6<L then (10*a.1+(c-48).toNat,a.2.1,a.2.2)
 else if i+5=L∨i+4=L then (a.1,10*a.2.1+(c-48).toNat,a.2.2)
 else if L≤i+2 then (a.1,a.2.1,10*a.2.2+(c-48).toNat)
 else a
def dayTo (s:ByteArray):Nat→Nat×Nat×Nat
 | 0=>(0,0,0)
 | i+1=>dayStep s.size i (bt s i) (dayTo s i)
def parseD (s:ByteArray):(Nat×Nat×Nat)×Int :=
 if s.size≠10∧s.size≠7 then ((0,0,0),1)
 else if showD (dayTo s s.size).1 (dayTo s s.size).2.1 (dayTo s s.size).2.2=s then (dayTo s s.size,0) else ((0,0,0),1)
theorem dayStep_lt {L i:Nat} {c:Int} {a:Nat×Nat×Nat} {B:Nat} (h:a.1<B∧a.2.1<B∧a.2.2<B) (hb:1≤B):(dayStep L i c a).1<10*B∧(dayStep L i c a).2.1<10*B∧(dayStep L i c a).2.2<10*B:=by
 unfold dayStep
 split
 ·omega
 ·split
  ·simp only;omega
  ·split
   ·simp only;omega
   ·split
    ·simp only;omega
    ·omega
theorem dayTo_lt (s:ByteArray):∀ i,(dayTo s i).1<10 ^ i∧(dayTo s i).2.1<10 ^ i∧(dayTo s i).2.2<10 ^ i
 | 0=>by simp [dayTo]
 | i+1=>by
  have h:=dayStep_lt (L:=s.size) (i:=i) (c:=bt s i) (dayTo_lt s i) (Nat.one_le_pow _ _ (by omega))
  rw [Nat.pow_succ,Nat.mul_comm];exact h
theorem dayTo_small (s:ByteArray) (h:7≤s.size):∀ i,i≤s.size →
  (i+5≤s.size→(dayTo s i).2.1=0)∧(i+5=s.size+1→(dayTo s i).2.1≤9)∧(dayTo s i).2.1≤99∧(i+2≤s.size→(dayTo s i).2.2=0)∧(i+1=s.size→(dayTo s i).2.2≤9)∧(dayTo s i).2.2≤99
 | 0,_=>by simp [dayTo]
 | i+1,hi=>by
  obtain ⟨h1,h2,h3,h4,h5,h6⟩:=dayTo_small s h i (by omega)
  have b:=bt_le s i;rw [dayTo];unfold dayStep
  split
  ·refine ⟨fun h=>h1 (by omega),fun h=>by rw [h1 (by omega)];omega,h3,fun h=>h4 (by omega),fun h=>by rw [h4 (by omega)];omega,h6⟩
  ·split
   ·refine ⟨fun h=>h1 (by omega),fun h=>by simp only;rw [h1 (by omega)];omega,h3,fun h=>h4 (by omega),fun h=>by simp only;rw [h4 (by omega)];omega,h6⟩
   ·split
    ·rename_i c1 c2 c3
     have hm:(dayTo s i).2.1≤9:=by
      rcases c3 with e|e
      ·rw [h1 (by omega)];omega
      ·exact h2 (by omega)
     refine ⟨fun h=>absurd h (by omega),fun h=>?_,by simp only;omega,fun h=>h4 (by omega),fun h=>by simp only;rw [h4 (by omega)];omega,h6⟩
     simp only;rw [h1 (by omega)]
     omega
    ·split
     ·rename_i c1 c2 c3 c4
      have hd:(dayTo s i).2.2≤9:=by
       by_cases e:i+2=s.size
       ·rw [h4 (by omega)];omega
       ·exact h5 (by omega)
      refine ⟨fun h=>absurd h (by omega),fun h=>absurd h (by omega),h3,fun h=>absurd h (by omega),fun h=>?_,by simp only;omega⟩
      simp only;rw [h4 (by omega)]
      omega
     ·refine ⟨fun h=>h1 (by omega),fun h=>by rw [h1 (by omega)];omega,h3,fun h=>h4 (by omega),fun h=>by rw [h4 (by omega)];omega,h6⟩
def DayP (r:(Nat×Nat×Nat)×Int) (w:World) (e:Ending) (w':World):Prop:=e = .returned (.tuple #[dtV r.1.1 r.1.2.1 r.1.2.2,.int .i64 r.2])∧Pure w w'
theorem ref_parseDay (s:ByteArray) (w:World) (hs:s.size≤1000):Calls Tryz.prog 270 #[.string s] w (DayP (parseD s) w):=by
 have hp0:=((Kept.refl (fun _=>False) w).alloc (.cells (dtC 0 0 0) 343)).alloc (.cells (dtC 0 0 0) 343);have hb0:=(Blk.new w 343 (dtC 0 0 0)).alloc (.cells (dtC 0 0 0) 343);have hb1:=Blk.new (w.alloc (.cells (dtC 0 0 0) 343)) 343 (dtC 0 0 0);rw [World.size_alloc] at hb1;have Hp0:=hI hp0;have Hb0:=hI hb0;have Hb1:=hI hb1;have hb:=get_bt s;clear hp0 hb0 hb1
 by_cases hn:s.size≠10∧s.size≠7
 ·have e:parseD s=((0,0,0),1):=by unfold parseD;rw [if_pos hn]
  rw [e];have n1:((s.size:Int) != 10)=true:=by simp;omega
  have n2:((s.size:Int) != 7)=true:=by simp;omega
  have hc1:=Hb1.out.cell;clear hn e;go_enter Tryz.func270,Tryz.ntmps270;go_wp2_with (with_reducible refine stop_store (ty:=343) ?_);refine unheld ?_;refine wp_store_blk rfl _ _ _ rfl rfl rfl (Hb0.out:Blk _ w.heap.size 343 (dtC 0 0 0)) rfl (by kernel_rfl) (by kernel_rfl) rfl ?_
  intro w9 hb9 hk9;have Hb9:=hI hb9;have Hk9:=hI hk9;clear hb9 hk9
  repeat go_step
  refine gz31 ?_;exact ⟨rfl,(Hp0.out.trans Hk9.out (fun i hi e=>by have e:i=w.heap.size:=e;omega))⟩
 ·have n12:s.size=10∨s.size=7:=by omega
  obtain ⟨R,hR⟩:∃ R,parseD s=R:=⟨_,rfl⟩;rw [hR];unfold parseD at hR;rw [if_neg hn] at hR;have HR:=hI hR;have hlen:s.size≤10∧7≤s.size:=by omega
  clear hR hn;have hloop:∀ (Z:World),True→True:=fun _ _=>trivial;clear hloop;rcases n12 with n12|n12
  ·have m1:((s.size:Int) != 10)=false:=by rw [n12];decide
   clear n12;go_enter Tryz.func270,Tryz.ntmps270;go_wp2
   go_loopw [5] (fun vi wr=>∃ i:Nat,vi = .int .i64 i∧i≤s.size∧Blk wr (w.heap.size+1) 343 (dtC (dayTo s i).1 (dayTo s i).2.1 (dayTo s i).2.2)∧Blk wr w.heap.size 343 (dtC 0 0 0)∧Pure w wr) (fun vi _=>s.size-(intOf vi).toNat)
   case atStart=>exact ⟨0,rfl,Nat.zero_le _,Hb1.out,Hb0.out,Hp0.out⟩
   case round =>
    obtain ⟨i,rfl,hi,hB,hA,hK⟩:=hrel;have hlt3:=dayTo_lt s i;have hsm:=dayTo_small s hlen.2 i hi;have hpw:10 ^ i≤10 ^ 10:=Nat.pow_le_pow_right (by omega) (by omega)
    obtain ⟨t3,ht3⟩:∃ t,dayTo s i=t:=⟨_,rfl⟩;rw [ht3] at hB hlt3 hsm;obtain ⟨Y,M,D⟩:=t3;simp only at hB hlt3 hsm;have hY:Y≤10000000000:=by have h10:(10:Nat) ^ 10=10000000000:=(by decide);rw [h10] at hpw;omega
    have hM:M≤99:=hsm.2.2.1;have hD:D≤99:=hsm.2.2.2.2.2;have HT3:=hI ht3;have HA:=hI hA;have HK:=hI hK
    by_cases hlt:i<s.size
    ·have b0:=bt_nonneg s i
     have b1:=bt_le s i;have HB:Hid (Blk wr (w.heap.size+1) 343 (dtC (dayTo s i).1 (dayTo s i).2.1 (dayTo s i).2.2)):=by rw [Hid,HT3.out];exact hB
     by_cases c1:bt s i<48
     ·have c1':(bt s i-48<0)=True:=by simp;omega
      clear hlt3 hsm hpw hB hA hK ht3;have e1:dayTo s (i+1)=dayTo s i:=by rw [dayTo];unfold dayStep;rw [if_pos (Or.inl c1)]
      have E1:=hI e1;clear e1;go_wp2
      go_roundw
      case measure=>first|omega|(simp [intOf];omega)
      case rel=>exact ⟨i+1,by first|rfl|go_num,by omega,by rw [E1.out];exact HB.out,HA.out,HK.out⟩
     ·have c1':(bt s i-48<0)=False:=by simp;omega
      by_cases c2:57<bt s i
      ·have c2':(9<bt s i-48)=True:=by simp;omega
       clear hlt3 hsm hpw hB hA hK ht3;have e1:dayTo s (i+1)=dayTo s i:=by rw [dayTo];unfold dayStep;rw [if_pos (Or.inr c2)]
       have E1:=hI e1;clear e1;go_wp2
       go_roundw
       case measure=>first|omega|(simp [intOf];omega)
       case rel=>exact ⟨i+1,by first|rfl|go_num,by omega,by rw [E1.out];exact HB.out,HA.out,HK.out⟩
      ·have c2':(9<bt s i-48)=False:=by simp;omega
       have cc:¬(bt s i<48∨57<bt s i):=by omega
       replace HB:Hid (Blk wr (w.heap.size+1) 343 (dtC Y M D)):=hB;clear hlt3 hsm hpw hB hA hK ht3
       by_cases c3:i+6<s.size
       ·have c3':((i:Int)<(s.size:Int)-6)=True:=by simp;omega
        have e1:dayTo s (i+1)=((10*Y+(bt s i-48).toNat,M,D)):=by rw [dayTo];unfold dayStep;rw [if_neg cc,if_pos c3,HT3.out]
        have hB2:=HB.out.set 0 (.int .i64 (10*(Y:Nat)+(bt s i-48)));have hA2:=HA.out.far (p:=⟨w.heap.size+1,0,none⟩) (by show ¬w.heap.size=w.heap.size+1;omega) (.int .i64 (10*(Y:Nat)+(bt s i-48)))
        have hK2:=HK.out.setCell (p:=⟨w.heap.size+1,0,none⟩) (.inr (by show w.heap.size≤w.heap.size+1;omega)) (.int .i64 (10*(Y:Nat)+(bt s i-48)))
        have hB3:Blk (wr.setCell ⟨w.heap.size+1,0,none⟩ (.int .i64 (10*(Y:Nat)+(bt s i-48)))) (w.heap.size+1) 343 (dtC (dayTo s (i+1)).1 (dayTo s (i+1)).2.1 (dayTo s (i+1)).2.2):=by
         rw [e1];have e:((10*Y+(bt s i-48).toNat:Nat):Int)=10*(Y:Nat)+(bt s i-48):=by omega
         unfold dtC;simp only;rw [e];exact hB2
        have HB3:=hI hB3;have HA3:=hI hA2;have HK3:=hI hK2;have hfr:=HB.out.frozen;have hc:=HB.out.cell;clear e1 hB2 hB3 hA2 hK2;go_wp2
        go_roundw
        case measure=>first|omega|(simp [intOf];omega)
        case rel=>exact ⟨i+1,by first|rfl|go_num,by omega,HB3.out,HA3.out,HK3.out⟩
       ·have c3':((i:Int)<(s.size:Int)-6)=False:=by simp;omega
        by_cases c4:i+5=s.size∨i+4=s.size
        ·by_cases c5:i+5=s.size
         ·have c5':((i:Int) == (s.size:Int)-5)=true:=by simp;omega
          have e1:dayTo s (i+1)=((Y,10*M+(bt s i-48).toNat,D)):=by rw [dayTo];unfold dayStep;rw [if_neg cc,if_neg c3,if_pos c4,HT3.out]
          have hB2:=HB.out.set 1 (.int .i64 (10*(M:Nat)+(bt s i-48)));have hA2:=HA.out.far (p:=⟨w.heap.size+1,1,none⟩) (by show ¬w.heap.size=w.heap.size+1;omega) (.int .i64 (10*(M:Nat)+(bt s i-48)))
          have hK2:=HK.out.setCell (p:=⟨w.heap.size+1,1,none⟩) (.inr (by show w.heap.size≤w.heap.size+1;omega)) (.int .i64 (10*(M:Nat)+(bt s i-48)))
          have hB3:Blk (wr.setCell ⟨w.heap.size+1,1,none⟩ (.int .i64 (10*(M:Nat)+(bt s i-48)))) (w.heap.size+1) 343 (dtC (dayTo s (i+1)).1 (dayTo s (i+1)).2.1 (dayTo s (i+1)).2.2):=by
           rw [e1];have e:((10*M+(bt s i-48).toNat:Nat):Int)=10*(M:Nat)+(bt s i-48):=by omega
           unfold dtC;simp only;rw [e];exact hB2
          have HB3:=hI hB3;have HA3:=hI hA2;have HK3:=hI hK2;have hfr:=HB.out.frozen;have hc:=HB.out.cell;clear e1 hB2 hB3 hA2 hK2;go_wp2
          go_roundw
          case measure=>first|omega|(simp [intOf];omega)
          case rel=>exact ⟨i+1,by first|rfl|go_num,by omega,HB3.out,HA3.out,HK3.out⟩
         ·have c5':((i:Int) == (s.size:Int)-5)=false:=by simp;omega
          have c6':((i:Int) == (s.size:Int)-4)=true:=by simp;omega
          have e1:dayTo s (i+1)=((Y,10*M+(bt s i-48).toNat,D)):=by rw [dayTo];unfold dayStep;rw [if_neg cc,if_neg c3,if_pos c4,HT3.out]
          have hB2:=HB.out.set 1 (.int .i64 (10*(M:Nat)+(bt s i-48)));have hA2:=HA.out.far (p:=⟨w.heap.size+1,1,none⟩) (by show ¬w.heap.size=w.heap.size+1;omega) (.int .i64 (10*(M:Nat)+(bt s i-48)))
          have hK2:=HK.out.setCell (p:=⟨w.heap.size+1,1,none⟩) (.inr (by show w.heap.size≤w.heap.size+1;omega)) (.int .i64 (10*(M:Nat)+(bt s i-48)))
          have hB3:Blk (wr.setCell ⟨w.heap.size+1,1,none⟩ (.int .i64 (10*(M:Nat)+(bt s i-48)))) (w.heap.size+1) 343 (dtC (dayTo s (i+1)).1 (dayTo s (i+1)).2.1 (dayTo s (i+1)).2.2):=by
           rw [e1];have e:((10*M+(bt s i-48).toNat:Nat):Int)=10*(M:Nat)+(bt s i-48):=by omega
           unfold dtC;simp only;rw [e];exact hB2
          have HB3:=hI hB3;have HA3:=hI hA2;have HK3:=hI hK2;have hfr:=HB.out.frozen;have hc:=HB.out.cell;clear e1 hB2 hB3 hA2 hK2;go_wp2
          go_roundw
          case measure=>first|omega|(simp [intOf];omega)
          case rel=>exact ⟨i+1,by first|rfl|go_num,by omega,HB3.out,HA3.out,HK3.out⟩
        ·have c5':((i:Int) == (s.size:Int)-5)=false:=by simp;omega
         have c6':((i:Int) == (s.size:Int)-4)=false:=by simp;omega
         by_cases c7:s.size≤i+2
         ·have c7':((s.size:Int)-2≤(i:Int))=True:=by simp;omega
          have e1:dayTo s (i+1)=((Y,M,10*D+(bt s i-48).toNat)):=by rw [dayTo];unfold dayStep;rw [if_neg cc,if_neg c3,if_neg c4,if_pos c7,HT3.out]
          have hB2:=HB.out.set 2 (.int .i64 (10*(D:Nat)+(bt s i-48)));have hA2:=HA.out.far (p:=⟨w.heap.size+1,2,none⟩) (by show ¬w.heap.size=w.heap.size+1;omega) (.int .i64 (10*(D:Nat)+(bt s i-48)))
          have hK2:=HK.out.setCell (p:=⟨w.heap.size+1,2,none⟩) (.inr (by show w.heap.size≤w.heap.size+1;omega)) (.int .i64 (10*(D:Nat)+(bt s i-48)))
          have hB3:Blk (wr.setCell ⟨w.heap.size+1,2,none⟩ (.int .i64 (10*(D:Nat)+(bt s i-48)))) (w.heap.size+1) 343 (dtC (dayTo s (i+1)).1 (dayTo s (i+1)).2.1 (dayTo s (i+1)).2.2):=by
           rw [e1];have e:((10*D+(bt s i-48).toNat:Nat):Int)=10*(D:Nat)+(bt s i-48):=by omega
           unfold dtC;simp only;rw [e];exact hB2
          have HB3:=hI hB3;have HA3:=hI hA2;have HK3:=hI hK2;have hfr:=HB.out.frozen;have hc:=HB.out.cell;clear e1 hB2 hB3 hA2 hK2;go_wp2
          go_roundw
          case measure=>first|omega|(simp [intOf];omega)
          case rel=>exact ⟨i+1,by first|rfl|go_num,by omega,HB3.out,HA3.out,HK3.out⟩
         ·have c7':((s.size:Int)-2≤(i:Int))=False:=by simp;omega
          replace HB:Hid (Blk wr (w.heap.size+1) 343 (dtC (dayTo s i).1 (dayTo s i).2.1 (dayTo s i).2.2)):=by rw [Hid,HT3.out];exact HB.out
          have e1:dayTo s (i+1)=dayTo s i:=by rw [dayTo];unfold dayStep;rw [if_neg cc,if_neg c3,if_neg c4,if_neg c7]
          have E1:=hI e1;clear e1;go_wp2
          go_roundw
          case measure=>first|omega|(simp [intOf];omega)
          case rel=>exact ⟨i+1,by first|rfl|go_num,by omega,by rw [E1.out];exact HB.out,HA.out,HK.out⟩
    ·obtain rfl:i=s.size:=by omega
     have CS:=fun w=>ref_showDay Y M D w (by omega) (by omega) (by omega)
     have HB:=hI hB;have hc:=hB.cell;obtain ⟨T,hT⟩:∃ T,showD Y M D=T:=⟨_,rfl⟩;rw [hT] at CS;have CS:=hI CS;have hR2:=HR.out;rw [HT3.out] at hR2;simp only at hR2;rw [hT] at hR2;have HR2:=hI hR2;clear hlt3 hsm hpw hB hA hK ht3 hT hR2
     by_cases hq:T=s
     ·have e:R=((Y,M,D),0):=by rw [←HR2.out,if_pos hq]
      have E:=hI e;have hq':(T.toList == s.toList)=true:=by rw [hq];simp
      clear hq e;go_wp2_with fail;refine (CS.out _).mono ?_;rintro e w5 ⟨rfl,hk5⟩;have HB5:=hI (HB.out.kept hk5 (fun h=>h));have HA5:=hI (HA.out.kept hk5 (fun h=>h));have HK5:=hI (HK.out.same hk5);have hc5:=HB5.out.cell;clear hk5 hc;go_wp2_with (with_reducible refine stop_store (ty:=343) ?_);refine unheld ?_;refine gz37 ?_;intro w9 hb9 hk9;have Hb9:=hI hb9;have Hk9:=hI hk9
      clear hb9 hk9
      repeat go_step
      refine gz31 ?_;exact cz48
     ·have e:R=((0,0,0),1):=by rw [←HR2.out,if_neg hq]
      have E:=hI e;have hq':(T.toList == s.toList)=false:=str_ne hq;clear hq e;go_wp2_with fail;refine (CS.out _).mono ?_;rintro e w5 ⟨rfl,hk5⟩;have HA5:=hI (HA.out.kept hk5 (fun h=>h));have HK5:=hI (HK.out.same hk5);clear hk5 hc;go_wp2_with (with_reducible refine stop_store (ty:=343) ?_);refine unheld ?_;refine gz37 ?_;intro w9 hb9 hk9;have Hb9:=hI hb9;have Hk9:=hI hk9;clear hb9 hk9
      repeat go_step
      refine gz31 ?_;exact cz48
  ·have m1:((s.size:Int) != 10)=true:=by rw [n12];decide
   have m2:((s.size:Int) != 7)=false:=by rw [n12];decide
   clear n12;go_enter Tryz.func270,Tryz.ntmps270;go_wp2
   go_loopw [5] (fun vi wr=>∃ i:Nat,vi = .int .i64 i∧i≤s.size∧Blk wr (w.heap.size+1) 343 (dtC (dayTo s i).1 (dayTo s i).2.1 (dayTo s i).2.2)∧Blk wr w.heap.size 343 (dtC 0 0 0)∧Pure w wr) (fun vi _=>s.size-(intOf vi).toNat)
   case atStart=>exact ⟨0,rfl,Nat.zero_le _,Hb1.out,Hb0.out,Hp0.out⟩
   case round =>
    obtain ⟨i,rfl,hi,hB,hA,hK⟩:=hrel;have hlt3:=dayTo_lt s i;have hsm:=dayTo_small s hlen.2 i hi;have hpw:10 ^ i≤10 ^ 10:=Nat.pow_le_pow_right (by omega) (by omega)
    obtain ⟨t3,ht3⟩:∃ t,dayTo s i=t:=⟨_,rfl⟩;rw [ht3] at hB hlt3 hsm;obtain ⟨Y,M,D⟩:=t3;simp only at hB hlt3 hsm;have hY:Y≤10000000000:=by have h10:(10:Nat) ^ 10=10000000000:=(by decide);rw [h10] at hpw;omega
    have hM:M≤99:=hsm.2.2.1;have hD:D≤99:=hsm.2.2.2.2.2;have HT3:=hI ht3;have HA:=hI hA;have HK:=hI hK
    by_cases hlt:i<s.size
    ·have b0:=bt_nonneg s i
     have b1:=bt_le s i;have HB:Hid (Blk wr (w.heap.size+1) 343 (dtC (dayTo s i).1 (dayTo s i).2.1 (dayTo s i).2.2)):=by rw [Hid,HT3.out];exact hB
     by_cases c1:bt s i<48
     ·have c1':(bt s i-48<0)=True:=by simp;omega
      clear hlt3 hsm hpw hB hA hK ht3;have e1:dayTo s (i+1)=dayTo s i:=by rw [dayTo];unfold dayStep;rw [if_pos (Or.inl c1)]
      have E1:=hI e1;clear e1;go_wp2
      go_roundw
      case measure=>first|omega|(simp [intOf];omega)
      case rel=>exact ⟨i+1,by first|rfl|go_num,by omega,by rw [E1.out];exact HB.out,HA.out,HK.out⟩
     ·have c1':(bt s i-48<0)=False:=by simp;omega
      by_cases c2:57<bt s i
      ·have c2':(9<bt s i-48)=True:=by simp;omega
       clear hlt3 hsm hpw hB hA hK ht3;have e1:dayTo s (i+1)=dayTo s i:=by rw [dayTo];unfold dayStep;rw [if_pos (Or.inr c2)]
       have E1:=hI e1;clear e1;go_wp2
       go_roundw
       case measure=>first|omega|(simp [intOf];omega)
       case rel=>exact ⟨i+1,by first|rfl|go_num,by omega,by rw [E1.out];exact HB.out,HA.out,HK.out⟩
      ·have c2':(9<bt s i-48)=False:=by simp;omega
       have cc:¬(bt s i<48∨57<bt s i):=by omega
       replace HB:Hid (Blk wr (w.heap.size+1) 343 (dtC Y M D)):=hB;clear hlt3 hsm hpw hB hA hK ht3
       by_cases c3:i+6<s.size
       ·have c3':((i:Int)<(s.size:Int)-6)=True:=by simp;omega
        have e1:dayTo s (i+1)=((10*Y+(bt s i-48).toNat,M,D)):=by rw [dayTo];unfold dayStep;rw [if_neg cc,if_pos c3,HT3.out]
        have hB2:=HB.out.set 0 (.int .i64 (10*(Y:Nat)+(bt s i-48)));have hA2:=HA.out.far (p:=⟨w.heap.size+1,0,none⟩) (by show ¬w.heap.size=w.heap.size+1;omega) (.int .i64 (10*(Y:Nat)+(bt s i-48)))
        have hK2:=HK.out.setCell (p:=⟨w.heap.size+1,0,none⟩) (.inr (by show w.heap.size≤w.heap.size+1;omega)) (.int .i64 (10*(Y:Nat)+(bt s i-48)))
        have hB3:Blk (wr.setCell ⟨w.heap.size+1,0,none⟩ (.int .i64 (10*(Y:Nat)+(bt s i-48)))) (w.heap.size+1) 343 (dtC (dayTo s (i+1)).1 (dayTo s (i+1)).2.1 (dayTo s (i+1)).2.2):=by
         rw [e1];have e:((10*Y+(bt s i-48).toNat:Nat):Int)=10*(Y:Nat)+(bt s i-48):=by omega
         unfold dtC;simp only;rw [e];exact hB2
        have HB3:=hI hB3;have HA3:=hI hA2;have HK3:=hI hK2;have hfr:=HB.out.frozen;have hc:=HB.out.cell;clear e1 hB2 hB3 hA2 hK2;go_wp2
        go_roundw
        case measure=>first|omega|(simp [intOf];omega)
        case rel=>exact ⟨i+1,by first|rfl|go_num,by omega,HB3.out,HA3.out,HK3.out⟩
       ·have c3':((i:Int)<(s.size:Int)-6)=False:=by simp;omega
        by_cases c4:i+5=s.size∨i+4=s.size
        ·by_cases c5:i+5=s.size
         ·have c5':((i:Int) == (s.size:Int)-5)=true:=by simp;omega
          have e1:dayTo s (i+1)=((Y,10*M+(bt s i-48).toNat,D)):=by rw [dayTo];unfold dayStep;rw [if_neg cc,if_neg c3,if_pos c4,HT3.out]
          have hB2:=HB.out.set 1 (.int .i64 (10*(M:Nat)+(bt s i-48)));have hA2:=HA.out.far (p:=⟨w.heap.size+1,1,none⟩) (by show ¬w.heap.size=w.heap.size+1;omega) (.int .i64 (10*(M:Nat)+(bt s i-48)))
          have hK2:=HK.out.setCell (p:=⟨w.heap.size+1,1,none⟩) (.inr (by show w.heap.size≤w.heap.size+1;omega)) (.int .i64 (10*(M:Nat)+(bt s i-48)))
          have hB3:Blk (wr.setCell ⟨w.heap.size+1,1,none⟩ (.int .i64 (10*(M:Nat)+(bt s i-48)))) (w.heap.size+1) 343 (dtC (dayTo s (i+1)).1 (dayTo s (i+1)).2.1 (dayTo s (i+1)).2.2):=by
           rw [e1];have e:((10*M+(bt s i-48).toNat:Nat):Int)=10*(M:Nat)+(bt s i-48):=by omega
           unfold dtC;simp only;rw [e];exact hB2
          have HB3:=hI hB3;have HA3:=hI hA2;have HK3:=hI hK2;have hfr:=HB.out.frozen;have hc:=HB.out.cell;clear e1 hB2 hB3 hA2 hK2;go_wp2
          go_roundw
          case measure=>first|omega|(simp [intOf];omega)
          case rel=>exact ⟨i+1,by first|rfl|go_num,by omega,HB3.out,HA3.out,HK3.out⟩
         ·have c5':((i:Int) == (s.size:Int)-5)=false:=by simp;omega
          have c6':((i:Int) == (s.size:Int)-4)=true:=by simp;omega
          have e1:dayTo s (i+1)=((Y,10*M+(bt s i-48).toNat,D)):=by rw [dayTo];unfold dayStep;rw [if_neg cc,if_neg c3,if_pos c4,HT3.out]
          have hB2:=HB.out.set 1 (.int .i64 (10*(M:Nat)+(bt s i-48)));have hA2:=HA.out.far (p:=⟨w.heap.size+1,1,none⟩) (by show ¬w.heap.size=w.heap.size+1;omega) (.int .i64 (10*(M:Nat)+(bt s i-48)))
          have hK2:=HK.out.setCell (p:=⟨w.heap.size+1,1,none⟩) (.inr (by show w.heap.size≤w.heap.size+1;omega)) (.int .i64 (10*(M:Nat)+(bt s i-48)))
          have hB3:Blk (wr.setCell ⟨w.heap.size+1,1,none⟩ (.int .i64 (10*(M:Nat)+(bt s i-48)))) (w.heap.size+1) 343 (dtC (dayTo s (i+1)).1 (dayTo s (i+1)).2.1 (dayTo s (i+1)).2.2):=by
           rw [e1];have e:((10*M+(bt s i-48).toNat:Nat):Int)=10*(M:Nat)+(bt s i-48):=by omega
           unfold dtC;simp only;rw [e];exact hB2
          have HB3:=hI hB3;have HA3:=hI hA2;have HK3:=hI hK2;have hfr:=HB.out.frozen;have hc:=HB.out.cell;clear e1 hB2 hB3 hA2 hK2;go_wp2
          go_roundw
          case measure=>first|omega|(simp [intOf];omega)
          case rel=>exact ⟨i+1,by first|rfl|go_num,by omega,HB3.out,HA3.out,HK3.out⟩
        ·have c5':((i:Int) == (s.size:Int)-5)=false:=by simp;omega
         have c6':((i:Int) == (s.size:Int)-4)=false:=by simp;omega
         by_cases c7:s.size≤i+2
         ·have c7':((s.size:Int)-2≤(i:Int))=True:=by simp;omega
          have e1:dayTo s (i+1)=((Y,M,10*D+(bt s i-48).toNat)):=by rw [dayTo];unfold dayStep;rw [if_neg cc,if_neg c3,if_neg c4,if_pos c7,HT3.out]
          have hB2:=HB.out.set 2 (.int .i64 (10*(D:Nat)+(bt s i-48)));have hA2:=HA.out.far (p:=⟨w.heap.size+1,2,none⟩) (by show ¬w.heap.size=w.heap.size+1;omega) (.int .i64 (10*(D:Nat)+(bt s i-48)))
          have hK2:=HK.out.setCell (p:=⟨w.heap.size+1,2,none⟩) (.inr (by show w.heap.size≤w.heap.size+1;omega)) (.int .i64 (10*(D:Nat)+(bt s i-48)))
          have hB3:Blk (wr.setCell ⟨w.heap.size+1,2,none⟩ (.int .i64 (10*(D:Nat)+(bt s i-48)))) (w.heap.size+1) 343 (dtC (dayTo s (i+1)).1 (dayTo s (i+1)).2.1 (dayTo s (i+1)).2.2):=by
           rw [e1];have e:((10*D+(bt s i-48).toNat:Nat):Int)=10*(D:Nat)+(bt s i-48):=by omega
           unfold dtC;simp only;rw [e];exact hB2
          have HB3:=hI hB3;have HA3:=hI hA2;have HK3:=hI hK2;have hfr:=HB.out.frozen;have hc:=HB.out.cell;clear e1 hB2 hB3 hA2 hK2;go_wp2
          go_roundw
          case measure=>first|omega|(simp [intOf];omega)
          case rel=>exact ⟨i+1,by first|rfl|go_num,by omega,HB3.out,HA3.out,HK3.out⟩
         ·have c7':((s.size:Int)-2≤(i:Int))=False:=by simp;omega
          replace HB:Hid (Blk wr (w.heap.size+1) 343 (dtC (dayTo s i).1 (dayTo s i).2.1 (dayTo s i).2.2)):=by rw [Hid,HT3.out];exact HB.out
          have e1:dayTo s (i+1)=dayTo s i:=by rw [dayTo];unfold dayStep;rw [if_neg cc,if_neg c3,if_neg c4,if_neg c7]
          have E1:=hI e1;clear e1;go_wp2
          go_roundw
          case measure=>first|omega|(simp [intOf];omega)
          case rel=>exact ⟨i+1,by first|rfl|go_num,by omega,by rw [E1.out];exact HB.out,HA.out,HK.out⟩
    ·obtain rfl:i=s.size:=by omega
     have CS:=fun w=>ref_showDay Y M D w (by omega) (by omega) (by omega)
     have HB:=hI hB;have hc:=hB.cell;obtain ⟨T,hT⟩:∃ T,showD Y M D=T:=⟨_,rfl⟩;rw [hT] at CS;have CS:=hI CS;have hR2:=HR.out;rw [HT3.out] at hR2;simp only at hR2;rw [hT] at hR2;have HR2:=hI hR2;clear hlt3 hsm hpw hB hA hK ht3 hT hR2
     by_cases hq:T=s
     ·have e:R=((Y,M,D),0):=by rw [←HR2.out,if_pos hq]
      have E:=hI e;have hq':(T.toList == s.toList)=true:=by rw [hq];simp
      clear hq e;go_wp2_with fail;refine (CS.out _).mono ?_;rintro e w5 ⟨rfl,hk5⟩;have HB5:=hI (HB.out.kept hk5 (fun h=>h));have HA5:=hI (HA.out.kept hk5 (fun h=>h));have HK5:=hI (HK.out.same hk5);have hc5:=HB5.out.cell;clear hk5 hc;go_wp2_with (with_reducible refine stop_store (ty:=343) ?_);refine unheld ?_;refine gz37 ?_;intro w9 hb9 hk9;have Hb9:=hI hb9;have Hk9:=hI hk9
      clear hb9 hk9
      repeat go_step
      refine gz31 ?_;exact cz48
     ·have e:R=((0,0,0),1):=by rw [←HR2.out,if_neg hq]
      have E:=hI e;have hq':(T.toList == s.toList)=false:=str_ne hq;clear hq e;go_wp2_with fail;refine (CS.out _).mono ?_;rintro e w5 ⟨rfl,hk5⟩;have HA5:=hI (HA.out.kept hk5 (fun h=>h));have HK5:=hI (HK.out.same hk5);clear hk5 hc;go_wp2_with (with_reducible refine stop_store (ty:=343) ?_);refine unheld ?_;refine gz37 ?_;intro w9 hb9 hk9;have Hb9:=hI hb9;have Hk9:=hI hk9;clear hb9 hk9
      repeat go_step
      refine gz31 ?_;exact cz48
end
end Go.Proofs.YtjfpfeapbcjioaaGreat
