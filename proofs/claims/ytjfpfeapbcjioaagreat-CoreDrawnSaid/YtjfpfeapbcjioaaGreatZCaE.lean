/-
  The texts of this claim, put together: CaE, CaG.
-/
import Derived.Test.YtjfpfeapbcjioaaGreatZCaD
import Derived.Test.YtjfpfeapbcjioaaGreatZOwnO
import Derived.Test.YtjfpfeapbcjioaaGreatZFree
set_option linter.unusedSimpArgs false
set_option linter.unusedVariables false
set_option maxHeartbeats 12800000
set_option maxRecDepth 100000
namespace Go.Proofs.YtjfpfeapbcjioaaGreat
section
open Go.RowKit Go.PlainAid
theorem ref_two (n:Nat) (w:World) (hn:n≤1000000):Calls Tryz.prog 283 #[.int .i64 n] w fun e w'=>e = .returned (.string (twoB n))∧Pure w w':=by
 obtain ⟨x,hx⟩:∃ x,UInt8.ofNat (48+n / 10 % 10)=x:=⟨_,rfl⟩;obtain ⟨y,hy⟩:∃ y,UInt8.ofNat (48+n % 10)=y:=⟨_,rfl⟩;have hxn:x.toNat=48+n / 10 % 10:=by rw [←hx,UInt8.toNat_ofNat'];omega
 have hyn:y.toNat=48+n % 10:=by rw [←hy,UInt8.toNat_ofNat'];omega
 have hcs:∀ wr:World,(convert 352 9 (.slice (some ⟨wr.heap.size,0,none⟩) 2 2)).run Tryz.prog (wr.alloc (.cells #[.int .u8 (48+(n:Int) / 10 % 10),.int .u8 (48+(n:Int) % 10)] 5)) = .ok (.string ⟨#[x,y]⟩) (wr.alloc (.cells #[.int .u8 (48+(n:Int) / 10 % 10),.int .u8 (48+(n:Int) % 10)] 5)):=fun wr=>by
  have:=run_str (P:=Tryz.prog) (l:=[x,y]) (Sl.lit wr #[.int .u8 (48+(n:Int) / 10 % 10),.int .u8 (48+(n:Int) % 10)] 5 1 2 (bvs [x,y]) rfl (by simp [bvs,bv];omega)) 352 9 5 2 Tryz.underlying352 Tryz.underlying5 Tryz.underlying9
  exact this
 have hp:=(Kept.refl (fun _=>False) w).alloc (.cells #[.int .u8 (48+(n:Int) / 10 % 10),.int .u8 (48+(n:Int) % 10)] 5);have Hp:=hI hp;have e:twoB n=⟨#[x,y]⟩:=by unfold twoB;rw [hx,hy]
 rw [e];clear hx hy hxn hyn hp e;go_enter Tryz.func283,Tryz.ntmps283;go_wp2_with (first|(simp only [hcs]));go_ret;exact ⟨rfl,Hp.out⟩
abbrev dtC (y m d:Nat):Array Value:=#[.int .i64 y,.int .i64 m,.int .i64 d]
abbrev dtV (y m d:Nat):Value:=.agg (dtC y m d)
def BoolPu (b:Bool) (w:World) (e:Ending) (w':World):Prop:=e = .returned (.bool b)∧Pure w w'
theorem ref_mayDay (y m d:Nat) (w:World) (hy:y≤100000000000) (hm:m≤1000000) (hd:d≤1000000):Calls Tryz.prog 282 #[dtV y m d] w (BoolPu (mayD y m d) w):=by
 obtain ⟨R,hR⟩:∃ R,mayD y m d=R:=⟨_,rfl⟩;rw [hR];unfold mayD at hR;have HR:=hI hR;have Hb:=hI (Blk.new w 343 (dtC y m d));have Hp:=hI ((Kept.refl (fun _=>False) w).alloc (.cells (dtC y m d) 343));clear hR
 by_cases c1:y≤9999
 ·have c1':(y:Int)≤9999:=by omega
  by_cases c2:1≤m
  ·have c2':(1:Int)≤(m:Int):=by omega
   by_cases c3:m≤12
   ·have c3':(m:Int)≤12:=by omega
    by_cases c4:1≤d
    ·have c4':(1:Int)≤(d:Int):=by omega
     have CM:=hI (fun w=>ref_month y m w (by omega) c2 c3)
     have e:R=decide ((d:Int)≤monthI y m):=by
      rw [←HR.out];exact decide_eq_decide.2 ⟨fun h=>h.2.2.2.2.2,fun h=>⟨by omega,by omega,by omega,by omega,by omega,h⟩⟩
     subst e;have hc:=Hb.out.cell;have hcd:(w.alloc (.cells (dtC y m d) 343)).cell? ⟨w.heap.size,2,none⟩=some (.int .i64 d):=hc 2;generalize monthI y m=M at *;clear HR c1 c2 c3 c4;go_enter Tryz.func282,Tryz.ntmps282;go_wp2;refine wp_region_seqS (fun x=>x.cell? ⟨w.heap.size,2,none⟩=some (.int .i64 d)) [30] [24,25] (by kernel_rfl) (by kernel_rfl) (by kernel_rfl) hcd ?_
     refine gz2 ?_;refine gz4 ?_;refine gz2 ?_;clear hc
     with_reducible refine seq_move (by decide) (fun K hK=>?_)
     go_simp;refine up_enter ((CM.out _).mono ?_);rintro e w2 ⟨rfl,hk2⟩;have Hk2:=hI hk2;refine ⟨_,rfl,(Hb.out.drewN 1 |>.kept hk2 (fun h=>h)).cell 2,hK _ _ ?_⟩;clear hK K hk2 hcd;refine gz2 ?_;refine gz13 ?_;go_wp2;go_ret;exact ⟨rfl,Hp.out.drew.same Hk2.out⟩
    ·have c4':((1:Int)≤(d:Int))=False:=by simp;omega
     have e:R=false:=by rw [←HR.out];exact decide_eq_false (by omega)
     subst e;have hc:=Hb.out.cell;go_enter Tryz.func282,Tryz.ntmps282;go_wp2;refine gz55 ?_;refine gz2 ?_;refine gz4 ?_;refine gz2 ?_
     with_reducible refine seq_move (by decide) (fun K hK=>?_)
     go_simp;refine hK _ _ ?_;clear hK K;refine gz2 ?_;refine gz13 ?_;go_wp2;go_ret;exact ⟨rfl,Hp.out.drew⟩
   ·have c3':((m:Int)≤12)=False:=by simp;omega
    have e:R=false:=by rw [←HR.out];exact decide_eq_false (by omega)
    subst e;have hc:=Hb.out.cell;go_enter Tryz.func282,Tryz.ntmps282;go_wp2;refine gz55 ?_;refine gz2 ?_;refine gz4 ?_;refine gz2 ?_
    with_reducible refine seq_move (by decide) (fun K hK=>?_)
    go_simp;refine hK _ _ ?_;clear hK K;refine gz2 ?_;refine gz13 ?_;go_wp2;go_ret;exact ⟨rfl,Hp.out.drew⟩
  ·have c2':((1:Int)≤(m:Int))=False:=by simp;omega
   have e:R=false:=by rw [←HR.out];exact decide_eq_false (by omega)
   subst e;have hc:=Hb.out.cell;go_enter Tryz.func282,Tryz.ntmps282;go_wp2;refine gz55 ?_;refine gz2 ?_;refine gz4 ?_;refine gz2 ?_
   with_reducible refine seq_move (by decide) (fun K hK=>?_)
   go_simp;refine hK _ _ ?_;clear hK K;refine gz2 ?_;refine gz13 ?_;go_wp2;go_ret;exact ⟨rfl,Hp.out.drew⟩
 ·have c1':((y:Int)≤9999)=False:=by simp;omega
  have e:R=false:=by rw [←HR.out];exact decide_eq_false (by omega)
  subst e;have hc:=Hb.out.cell;go_enter Tryz.func282,Tryz.ntmps282;go_wp2;refine gz55 ?_;refine gz2 ?_;refine gz4 ?_;refine gz2 ?_
  with_reducible refine seq_move (by decide) (fun K hK=>?_)
  go_simp;refine hK _ _ ?_;clear hK K;refine gz2 ?_;refine gz13 ?_;go_wp2;go_ret;exact ⟨rfl,Hp.out.drew⟩
end
section
open Go.RowKit Go.PlainAid
theorem twoB_size (n:Nat):(twoB n).size=2:=rfl
def StrP (s:ByteArray) (w:World) (e:Ending) (w':World):Prop:=e = .returned (.string s)∧Pure w w'
theorem ref_twoI (n:Int) (k:Nat) (w:World) (h:n=k) (hk:k≤1000000):Calls Tryz.prog 283 #[.int .i64 n] w (StrP (twoB k) w):=by
 subst h;exact ref_two k w hk
theorem small_cat {a b:ByteArray} (h:a.size+b.size≤1000000):((9223372036854775807:Int)<((a++b).size:Int))=False:=by rw [ByteArray.size_append];exact eq_false (by omega)
theorem small_cat2 {a b:ByteArray} (h:a.size+b.size≤1000000):(9223372036854775807<a.size+b.size)=False:=eq_false (by omega)
theorem ref_showDay (y m d:Nat) (w:World) (hy:y≤100000000000) (hm:m≤1000000) (hd:d≤1000000):Calls Tryz.prog 280 #[dtV y m d] w (StrP (showD y m d) w):=by
 have CM:=fun w=>ref_mayDay y m d w hy hm hd;have Hb:=hI (Blk.new w 343 (dtC y m d));have Hp:=hI ((Kept.refl (fun _=>False) w).alloc (.cells (dtC y m d) 343));have hc:=Hb.out.cell;unfold showD;cases hmd:mayD y m d with
 | false =>
  rw [hmd] at CM;rw [if_neg (by decide)]
  have CM:=hI CM;clear hmd;go_enter Tryz.func280,Tryz.ntmps280;go_wp2_with fail;refine (CM.out _).mono ?_;rintro e w2 ⟨rfl,hk2⟩;have Hk2:=hI hk2;clear hk2;go_wp2;go_ret;exact ⟨rfl,Hp.out.same Hk2.out⟩
 | true =>
  rw [hmd] at CM;rw [if_pos rfl];have CM:=hI CM;have hmd2:=of_decide_eq_true hmd;have hy2:y≤9999:=by omega
  clear hmd hmd2
  by_cases y0:y=0
  ·have y0':((y:Int) != 0)=false:=by simp [y0]
   have HT0:Hid (yearB y=dash):=by unfold Hid yearB;rw [if_pos y0]
   clear y0;go_enter Tryz.func280,Tryz.ntmps280;go_wp2_with fail;refine (CM.out _).mono ?_;rintro e wT ⟨rfl,hk2⟩;have HkT:=hI (Hp.out.same hk2);have HbT:=hI (Hb.out.kept hk2 (fun h=>h));have hc:=HbT.out.cell;clear hk2;go_wp2_with fail;have hTs:(⟨#[45]⟩:ByteArray).size≤4:=by decide
   have HT:Hid (yearB y=(⟨#[45]⟩:ByteArray)):=HT0;clear hc HT0;have hz1:(⟨#[45]⟩:ByteArray).size=1:=rfl;have hm2:=fun w=>ref_twoI (m:Int) m w rfl (by omega)
   have hd2:=fun w=>ref_twoI (d:Int) d w rfl (by omega)
   have z1:=twoB_size m;have z2:=twoB_size d;have hR:yearB y++dash++twoB m++dash++twoB d=(⟨#[45]⟩:ByteArray)++(⟨#[45]⟩:ByteArray)++twoB m++(⟨#[45]⟩:ByteArray)++twoB d:=by rw [HT.out];rfl
   generalize twoB m=M at *;generalize twoB d=D at *;have g1:=small_cat (a:=(⟨#[45]⟩:ByteArray)) (b:=⟨#[45]⟩) (by omega)
   have k1:(9223372036854775807<((⟨#[45]⟩:ByteArray):ByteArray).size+1)=False:=eq_false (by omega)
   have s1:((⟨#[45]⟩:ByteArray)++(⟨#[45]⟩:ByteArray)).size≤5:=by rw [ByteArray.size_append];omega
   generalize hU:(⟨#[45]⟩:ByteArray)++(⟨#[45]⟩:ByteArray)=U at *;have g2:=small_cat (a:=U) (b:=M) (by omega)
   have k2:=small_cat2 (a:=U) (b:=M) (by omega)
   have s2:(U++M).size≤7:=by rw [ByteArray.size_append];omega
   generalize hV:U++M=V at *;have g3:=small_cat (a:=V) (b:=⟨#[45]⟩) (by omega)
   have k3:(9223372036854775807<V.size+1)=False:=eq_false (by omega)
   have s3:(V++(⟨#[45]⟩:ByteArray)).size≤8:=by rw [ByteArray.size_append];omega
   generalize hX:V++(⟨#[45]⟩:ByteArray)=X at *;have g4:=small_cat (a:=X) (b:=D) (by omega)
   have k4:=small_cat2 (a:=X) (b:=D) (by omega)
   have HRE:=hI hR;clear hR;have Hm2:=hI hm2;have Hd2:=hI hd2;have hcd:wT.cell? ⟨w.heap.size,2,none⟩=some (.int .i64 d):=HbT.out.cell 2;have hcm:wT.cell? ⟨w.heap.size,1,none⟩=some (.int .i64 m):=HbT.out.cell 1;clear hz1 z1 z2 s1 s2 s3 hm2 hd2;go_wp2;refine gz58 ?_;refine gz4 ?_;refine gz2 ?_;clear hcm hcd
   with_reducible refine seq_move (by decide) (fun K hK=>?_)
   go_simp;refine up_enter ((Hm2.out _).mono ?_);rintro e w5 ⟨rfl,hk5⟩;have hb5:Blk w5 w.heap.size 343 (dtC y m d):=(HbT.out.drewN 1).kept hk5 (fun h=>h);have Hk5:=hI (HkT.out.drew.same hk5);refine ⟨_,rfl,hb5.cell 2,hK _ _ ?_⟩;have Hb5:=hI hb5;clear hK K hk5 hb5;have hcd:w5.cell? ⟨w.heap.size,2,none⟩=some (.int .i64 d):=Hb5.out.cell 2;refine gz4 ?_;refine gz2 ?_;clear hcd
   with_reducible refine seq_move (by decide) (fun K hK=>?_)
   go_simp;refine up_enter ((Hd2.out _).mono ?_);rintro e w6 ⟨rfl,hk6⟩;have Hk6:=hI hk6;refine ⟨_,rfl,(Hb5.out.kept hk6 (fun h=>h)).cell 2,hK _ _ ?_⟩;clear hK K hk6;refine gz2 ?_;refine gz13 ?_;go_wp2;go_ret;exact ⟨by rw [HRE.out];rfl,Hk5.out.same Hk6.out⟩
  ·have y0':((y:Int) != 0)=true:=by simp;omega
   have HT0:Hid (yearB y=twoB (y / 100)++twoB y):=by unfold Hid yearB;rw [if_neg y0]
   have hw100:IntKind.i64.wrap ((y:Int) / 100)=(y:Int) / 100:=by rw [IntKind.wrap_i64];omega
   have h1:=fun w=>ref_twoI ((y:Int) / 100) (y / 100) w (by omega) (by omega)
   have h2:=fun w=>ref_twoI (y:Int) y w rfl (by omega)
   have z1:=twoB_size (y / 100);have z2:=twoB_size y;generalize twoB (y / 100)=Y1 at *;generalize twoB y=Y2 at *;have g0:=small_cat (a:=Y1) (b:=Y2) (by omega)
   have k0:=small_cat2 (a:=Y1) (b:=Y2) (by omega)
   have hTs:(Y1++Y2).size≤4:=by rw [ByteArray.size_append];omega
   obtain ⟨T,hT⟩:∃ T,Y1++Y2=T:=⟨_,rfl⟩;rw [hT] at g0 hTs HT0;have H1:=hI h1;have H2:=hI h2;clear y0 z1 z2 h1 h2;go_enter Tryz.func280,Tryz.ntmps280;go_wp2_with fail;refine (CM.out _).mono ?_;rintro e w2 ⟨rfl,hk2⟩;have Hk2:=hI (Hp.out.same hk2);have Hb2:=hI (Hb.out.kept hk2 (fun h=>h));have hc:=Hb2.out.cell;have hcy:w2.cell? ⟨w.heap.size,0,none⟩=some (.int .i64 y):=Hb2.out.cell 0
   clear hk2;go_wp2;refine wp_region_seqS (fun x=>x.cell? ⟨w.heap.size,0,none⟩=some (.int .i64 y)) [3,6] [4,5] (by kernel_rfl) (by kernel_rfl) (by kernel_rfl) hcy ?_
   refine gz2 ?_;clear hc hcy
   with_reducible refine seq_move (by decide) (fun K hK=>?_)
   go_simp;refine up_enter ((H1.out _).mono ?_);rintro e w3 ⟨rfl,hk3⟩;have hb3:Blk w3 w.heap.size 343 (dtC y m d):=(Hb2.out.drewN 1).kept hk3 (fun h=>h);have Hk3:=hI (Hk2.out.drew.same hk3);refine ⟨_,rfl,hb3.cell 0,hK _ _ ?_⟩;have hcy:w3.cell? ⟨w.heap.size,0,none⟩=some (.int .i64 y):=hb3.cell 0;have Hb3:=hI hb3;clear hK K hk3 hb3;refine gz4 ?_;refine gz2 ?_;clear hcy
   with_reducible refine seq_move (by decide) (fun K hK=>?_)
   go_simp;refine up_enter ((H2.out _).mono ?_);rintro e wT ⟨rfl,hk4⟩;have HkT:=hI (Hk3.out.same hk4);have HbT:=hI (Hb3.out.kept hk4 (fun h=>h));refine ⟨_,rfl,HbT.out.cell 0,hK _ _ ?_⟩;clear hK K hk4;refine gz2 ?_;refine gz13 ?_;have HT:=HT0;clear HT0 g0 k0 hT;have hz1:(⟨#[45]⟩:ByteArray).size=1:=rfl;have hm2:=fun w=>ref_twoI (m:Int) m w rfl (by omega)
   have hd2:=fun w=>ref_twoI (d:Int) d w rfl (by omega)
   have z1:=twoB_size m;have z2:=twoB_size d;have hR:yearB y++dash++twoB m++dash++twoB d=T++(⟨#[45]⟩:ByteArray)++twoB m++(⟨#[45]⟩:ByteArray)++twoB d:=by rw [HT.out];rfl
   generalize twoB m=M at *;generalize twoB d=D at *;have g1:=small_cat (a:=T) (b:=⟨#[45]⟩) (by omega)
   have k1:(9223372036854775807<(T:ByteArray).size+1)=False:=eq_false (by omega)
   have s1:(T++(⟨#[45]⟩:ByteArray)).size≤5:=by rw [ByteArray.size_append];omega
   generalize hU:T++(⟨#[45]⟩:ByteArray)=U at *;have g2:=small_cat (a:=U) (b:=M) (by omega)
   have k2:=small_cat2 (a:=U) (b:=M) (by omega)
   have s2:(U++M).size≤7:=by rw [ByteArray.size_append];omega
   generalize hV:U++M=V at *;have g3:=small_cat (a:=V) (b:=⟨#[45]⟩) (by omega)
   have k3:(9223372036854775807<V.size+1)=False:=eq_false (by omega)
   have s3:(V++(⟨#[45]⟩:ByteArray)).size≤8:=by rw [ByteArray.size_append];omega
   generalize hX:V++(⟨#[45]⟩:ByteArray)=X at *;have g4:=small_cat (a:=X) (b:=D) (by omega)
   have k4:=small_cat2 (a:=X) (b:=D) (by omega)
   have HRE:=hI hR;clear hR;have Hm2:=hI hm2;have Hd2:=hI hd2;have hcd:wT.cell? ⟨w.heap.size,2,none⟩=some (.int .i64 d):=HbT.out.cell 2;have hcm:wT.cell? ⟨w.heap.size,1,none⟩=some (.int .i64 m):=HbT.out.cell 1;clear hz1 z1 z2 s1 s2 s3 hm2 hd2;go_wp2;refine gz58 ?_;refine gz4 ?_;refine gz2 ?_;clear hcm hcd
   with_reducible refine seq_move (by decide) (fun K hK=>?_)
   go_simp;refine up_enter ((Hm2.out _).mono ?_);rintro e w5 ⟨rfl,hk5⟩;have hb5:Blk w5 w.heap.size 343 (dtC y m d):=(HbT.out.drewN 1).kept hk5 (fun h=>h);have Hk5:=hI (HkT.out.drew.same hk5);refine ⟨_,rfl,hb5.cell 2,hK _ _ ?_⟩;have Hb5:=hI hb5;clear hK K hk5 hb5;have hcd:w5.cell? ⟨w.heap.size,2,none⟩=some (.int .i64 d):=Hb5.out.cell 2;refine gz4 ?_;refine gz2 ?_;clear hcd
   with_reducible refine seq_move (by decide) (fun K hK=>?_)
   go_simp;refine up_enter ((Hd2.out _).mono ?_);rintro e w6 ⟨rfl,hk6⟩;have Hk6:=hI hk6;refine ⟨_,rfl,(Hb5.out.kept hk6 (fun h=>h)).cell 2,hK _ _ ?_⟩;clear hK K hk6;refine gz2 ?_;refine gz13 ?_;go_wp2;go_ret;exact ⟨by rw [HRE.out];rfl,Hk5.out.same Hk6.out⟩
end
end Go.Proofs.YtjfpfeapbcjioaaGreat
