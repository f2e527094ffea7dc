/-
  The texts of this claim, put together: CaF, CaI, CaJ.
-/
import Derived.Test.YtjfpfeapbcjioaaGreatZCaN
import Derived.Test.YtjfpfeapbcjioaaGreatZCaH
import Derived.Test.YtjfpfeapbcjioaaGreatZStr
import Derived.Test.YtjfpfeapbcjioaaGreatZLib
import Derived.Test.YtjfpfeapbcjioaaGreatZFree
set_option linter.unusedSimpArgs false
set_option linter.unusedVariables false
set_option maxHeartbeats 12800000
set_option maxRecDepth 100000
namespace Go.Proofs.YtjfpfeapbcjioaaGreat
section
open Go.RowKit Go.PlainAid
structure Fd where
 kind:Int
 label:Int
 value:ByteArray
deriving DecidableEq
def Fd.none:Fd:=⟨0,0,⟨#[]⟩⟩
abbrev Fd.row (f:Fd):Array Value:=#[.int .i64 f.kind,.int .i64 f.label,.string f.value]
abbrev Fd.val (f:Fd):Value:=.agg f.row
def mayKL (k l:Int):Bool:=decide ((l=0∨k=3∨k=4)∧(l=3→k=3))
def canV (k:Int) (v:ByteArray):ByteArray×Int:=if k=3 then telS v else if k=4 then mailS v else clnS v
def canF (f:Fd):Fd×Int :=
 if mayKL f.kind f.label=false then (Fd.none,1)
 else if (canV f.kind f.value).2≠0 then (Fd.none,(canV f.kind f.value).2)
 else if f.kind=5∧(parseD (canV f.kind f.value).1).2≠0 then (Fd.none,(parseD (canV f.kind f.value).1).2)
 else (⟨f.kind,f.label,(canV f.kind f.value).1⟩,0)
structure Fd.Kl (f:Fd):Prop where
 k1:1≤f.kind
 k6:f.kind≤6
 l0:0≤f.label
 l3:f.label≤3
def FP (r:Fd×Int) (w:World) (e:Ending) (w':World):Prop:=e = .returned (.tuple #[r.1.val,.int .i64 r.2])∧Pure w w'
theorem telS_size (s:ByteArray) (hs:s.size≤1000):(telS s).1.size≤1000:=by
 have h1:(telS s).1.size=(telL s.data.toList).1.length:=by show ((telL s.data.toList).1.toArray).size=_;simp
 rw [h1];have hc:=clnS_len (s:=s);have h2:(clnS s).1.size=(clnL s.data.toList).1.length:=by show ((clnL s.data.toList).1.toArray).size=_;simp
 rw [h2] at hc;unfold telL
 split
 ·simp
 ·split
  ·have:=keep_length (clnL s.data.toList).1
   simp only;omega
  ·simp
theorem mailC_size (c:ByteArray):(mailC c).size=c.size:=by
 have hle:atOr c≤c.size:=by
  have:=atTo_lt c c.size;unfold atOr
  split <;> omega
 unfold mailC;rw [ByteArray.size_append,fldS_size,ext_size _ _ _ hle,ext_size _ _ _ (by omega)];omega
theorem mailS_size (s:ByteArray):(mailS s).1.size≤1000:=by
 have hc:=clnS_len (s:=s);unfold mailS
 split
 ·show (0:Nat)≤1000;omega
 ·split
  ·simp only;rw [mailC_size];omega
  ·show (0:Nat)≤1000;omega
theorem canV_size (k:Int) (v:ByteArray) (hs:v.size≤1000):(canV k v).1.size≤1000:=by
 unfold canV
 split
 ·exact telS_size v hs
 ·split
  ·exact mailS_size v
  ·have:=clnS_len (s:=v);omega
theorem ref_canon (f:Fd) (w:World) (hk:f.Kl) (hs:f.value.size≤1000):Calls Tryz.prog 255 #[f.val] w (FP (canF f) w):=by
 obtain ⟨k,l,v⟩:=f;obtain ⟨k1,k6,l0,l3⟩:=hk;simp only at k1 k6 l0 l3 hs;have hp0:=((Kept.refl (fun _=>False) w).alloc (.cells (Fd.mk k l v).row 265)).alloc (.cells Fd.none.row 265);have hb0:=(Blk.new w 265 (Fd.mk k l v).row).alloc (.cells Fd.none.row 265);have hb1:=Blk.new (w.alloc (.cells (Fd.mk k l v).row 265)) 265 Fd.none.row;rw [World.size_alloc] at hb1;obtain ⟨R,hR⟩:∃ R,canF ⟨k,l,v⟩=R:=⟨_,rfl⟩
 rw [hR];have HR:=hI hR;have Hp0:=hI hp0;have Hb0:=hI hb0;have Hb1:=hI hb1;clear hp0 hb0 hb1 hR;have q1:(k<1)=False:=by simp;omega
 have q2:(6<k)=False:=by simp;omega
 have q3:(l<0)=False:=by simp;omega
 have q4:(3<l)=False:=by simp;omega
 by_cases a0:l=0
 ·subst a0
  by_cases c3:k=3
  ·subst c3
   clear k1 k6 l0 l3 q1 q2 q3 q4;have hml:mayKL 3 0=true:=decide_eq_true (by omega)
   have hR2:(if (canV 3 v).2≠0 then (Fd.none,(canV 3 v).2) else if (3:Int)=5∧(parseD (canV 3 v).1).2≠0 then (Fd.none,(parseD (canV 3 v).1).2) else (⟨3,0,(canV 3 v).1⟩,0))=R:=by
    rw [←HR.out];unfold canF;(first|rw [if_neg (show ¬mayKL 3 l=false from by rw [hml];decide)]|rw [if_neg (show ¬mayKL 3 0=false from by rw [hml];decide)]) <;> first|done|rfl
   have CV:=fun w=>tel_any v w hs;rw [show telS v=canV 3 v from by unfold canV;rw [if_pos rfl]] at CV
   unfold SP at CV;obtain ⟨r,hr⟩:∃ r,canV 3 v=r:=⟨_,rfl⟩;have hrs:r.1.size≤1000:=by rw [←hr];exact canV_size _ _ hs
   rw [hr] at CV hR2;obtain ⟨c,er⟩:=r;simp only at CV hR2 hrs;have CV:=hI CV;have hc:=Hb0.out.cell;clear hml hr
   by_cases he:er≠0
   ·have he':(er == 0)=false:=by simpa using he
    have he2:(er != 0)=true:=by simpa using he
    have e:R=(Fd.none,er):=by rw [←hR2,if_pos he]
    have E:=hI e;clear e he hR2;go_enter Tryz.func255,Tryz.ntmps255;go_wp2_with fail;refine gz50 ?_;rintro e w3 ⟨rfl,hk3⟩;have hc:=(Hb0.out.kept (S:=fun _=>False) hk3 (fun h=>h)).cell;have HB1:=hI (Hb1.out.kept (S:=fun _=>False) hk3 (fun h=>h));have HK3:=hI (Hp0.out.same hk3);clear hk3;go_wp2_with (with_reducible refine stop_store (ty:=265) ?_);refine unheld ?_;refine gz12 ?_;intro w9 hb9 hk9
    have Hb9:=hI hb9;have Hk9:=hI hk9;clear hb9 hk9
    repeat go_step
    refine gz11 ?_;exact cz19
   ·obtain rfl:er=0:=Decidable.not_not.1 he
    have HR2:=hI hR2;clear he hR2;have e:R=(⟨3,0,c⟩,0):=by rw [←HR2.out,if_neg (by simp),if_neg (by omega)]
    have E:=hI e;clear e;go_enter Tryz.func255,Tryz.ntmps255;go_wp2_with fail;refine gz50 ?_;rintro e w3 ⟨rfl,hk3⟩;have hc:=(Hb0.out.kept (S:=fun _=>False) hk3 (fun h=>h)).cell;have HB1:=hI (Hb1.out.kept (S:=fun _=>False) hk3 (fun h=>h));have HK3:=hI (Hp0.out.same hk3);clear hk3;go_wp2_with (with_reducible refine stop_store (ty:=265) ?_);refine unheld ?_;refine gz12 ?_;intro w9 hb9 hk9
    have Hb9:=hI hb9;have Hk9:=hI hk9;clear hb9 hk9
    repeat go_step
    refine gz11 ?_;exact cz19
  ·by_cases c4:k=4
   ·subst c4
    clear k1 k6 l0 l3 q1 q2 q3 q4;have hml:mayKL 4 0=true:=decide_eq_true (by omega)
    have hR2:(if (canV 4 v).2≠0 then (Fd.none,(canV 4 v).2) else if (4:Int)=5∧(parseD (canV 4 v).1).2≠0 then (Fd.none,(parseD (canV 4 v).1).2) else (⟨4,0,(canV 4 v).1⟩,0))=R:=by
     rw [←HR.out];unfold canF;(first|rw [if_neg (show ¬mayKL 4 l=false from by rw [hml];decide)]|rw [if_neg (show ¬mayKL 4 0=false from by rw [hml];decide)]) <;> first|done|rfl
    have CV:=fun w=>ref_mail v w hs;rw [show mailS v=canV 4 v from by unfold canV;rw [if_neg (by decide),if_pos rfl]] at CV
    unfold SP at CV;obtain ⟨r,hr⟩:∃ r,canV 4 v=r:=⟨_,rfl⟩;have hrs:r.1.size≤1000:=by rw [←hr];exact canV_size _ _ hs
    rw [hr] at CV hR2;obtain ⟨c,er⟩:=r;simp only at CV hR2 hrs;have CV:=hI CV;have hc:=Hb0.out.cell;clear hml hr
    by_cases he:er≠0
    ·have he':(er == 0)=false:=by simpa using he
     have he2:(er != 0)=true:=by simpa using he
     have e:R=(Fd.none,er):=by rw [←hR2,if_pos he]
     have E:=hI e;clear e he hR2;go_enter Tryz.func255,Tryz.ntmps255;go_wp2_with fail;refine gz50 ?_;rintro e w3 ⟨rfl,hk3⟩;have hc:=(Hb0.out.kept (S:=fun _=>False) hk3 (fun h=>h)).cell;have HB1:=hI (Hb1.out.kept (S:=fun _=>False) hk3 (fun h=>h));have HK3:=hI (Hp0.out.same hk3);clear hk3;go_wp2_with (with_reducible refine stop_store (ty:=265) ?_);refine unheld ?_;refine gz12 ?_;intro w9 hb9 hk9
     have Hb9:=hI hb9;have Hk9:=hI hk9;clear hb9 hk9
     repeat go_step
     refine gz11 ?_;exact cz19
    ·obtain rfl:er=0:=Decidable.not_not.1 he
     have HR2:=hI hR2;clear he hR2;have e:R=(⟨4,0,c⟩,0):=by rw [←HR2.out,if_neg (by simp),if_neg (by omega)]
     have E:=hI e;clear e;go_enter Tryz.func255,Tryz.ntmps255;go_wp2_with fail;refine gz50 ?_;rintro e w3 ⟨rfl,hk3⟩;have hc:=(Hb0.out.kept (S:=fun _=>False) hk3 (fun h=>h)).cell;have HB1:=hI (Hb1.out.kept (S:=fun _=>False) hk3 (fun h=>h));have HK3:=hI (Hp0.out.same hk3);clear hk3;go_wp2_with (with_reducible refine stop_store (ty:=265) ?_);refine unheld ?_;refine gz12 ?_;intro w9 hb9 hk9
     have Hb9:=hI hb9;have Hk9:=hI hk9;clear hb9 hk9
     repeat go_step
     refine gz11 ?_;exact cz19
   ·by_cases c5:k=5
    ·subst c5
     clear k1 k6 l0 l3 q1 q2 q3 q4;have hml:mayKL 5 0=true:=decide_eq_true (by omega)
     have hR2:(if (canV 5 v).2≠0 then (Fd.none,(canV 5 v).2) else if (5:Int)=5∧(parseD (canV 5 v).1).2≠0 then (Fd.none,(parseD (canV 5 v).1).2) else (⟨5,0,(canV 5 v).1⟩,0))=R:=by
      rw [←HR.out];unfold canF;(first|rw [if_neg (show ¬mayKL 5 l=false from by rw [hml];decide)]|rw [if_neg (show ¬mayKL 5 0=false from by rw [hml];decide)]) <;> first|done|rfl
     have CV:=fun w=>cln_any v w hs;rw [show clnS v=canV 5 v from by unfold canV;rw [if_neg (by decide),if_neg (by decide)]] at CV
     unfold SP at CV;obtain ⟨r,hr⟩:∃ r,canV 5 v=r:=⟨_,rfl⟩;have hrs:r.1.size≤1000:=by rw [←hr];exact canV_size _ _ hs
     rw [hr] at CV hR2;obtain ⟨c,er⟩:=r;simp only at CV hR2 hrs;have CV:=hI CV;have hc:=Hb0.out.cell;clear hml hr
     by_cases he:er≠0
     ·have he':(er == 0)=false:=by simpa using he
      have he2:(er != 0)=true:=by simpa using he
      have e:R=(Fd.none,er):=by rw [←hR2,if_pos he]
      have E:=hI e;clear e he hR2;go_enter Tryz.func255,Tryz.ntmps255;go_wp2_with fail;refine gz50 ?_;rintro e w3 ⟨rfl,hk3⟩;have hc:=(Hb0.out.kept (S:=fun _=>False) hk3 (fun h=>h)).cell;have HB1:=hI (Hb1.out.kept (S:=fun _=>False) hk3 (fun h=>h));have HK3:=hI (Hp0.out.same hk3);clear hk3;go_wp2_with (with_reducible refine stop_store (ty:=265) ?_);refine unheld ?_;refine gz12 ?_;intro w9 hb9 hk9
      have Hb9:=hI hb9;have Hk9:=hI hk9;clear hb9 hk9
      repeat go_step
      refine gz11 ?_;exact cz19
     ·obtain rfl:er=0:=Decidable.not_not.1 he
      have HR2:=hI hR2;clear he hR2;have CD:=fun w=>ref_parseDay c w hrs;unfold DayP at CD;obtain ⟨pd,hpd⟩:∃ pd,parseD c=pd:=⟨_,rfl⟩;have hR3:=HR2.out;rw [hpd] at CD hR3;obtain ⟨⟨Y,M,D⟩,ed⟩:=pd;simp only at CD hR3;have CD:=hI CD;clear hpd
      by_cases hd:ed≠0
      ·have hd':(ed != 0)=true:=by simpa using hd
       have e:R=(Fd.none,ed):=by rw [←hR3,if_neg (by simp),if_pos ⟨by first|exact trivial|exact rfl,hd⟩]
       have E:=hI e;clear e hd hR3;go_enter Tryz.func255,Tryz.ntmps255;go_wp2_with fail;refine gz50 ?_;rintro e w3 ⟨rfl,hk3⟩;have hc:=(Hb0.out.kept (S:=fun _=>False) hk3 (fun h=>h)).cell;have HB0:=hI (Hb0.out.kept (S:=fun _=>False) hk3 (fun h=>h));have HB1:=hI (Hb1.out.kept (S:=fun _=>False) hk3 (fun h=>h));have HK3:=hI (Hp0.out.same hk3);clear hk3;go_wp2_with fail;refine (CD.out _).mono ?_
       rintro e w4 ⟨rfl,hk4⟩;have HB2:=hI (HB1.out.kept (S:=fun _=>False) hk4 (fun h=>h));have HK4:=hI (HK3.out.same hk4);clear hk4;go_wp2_with (with_reducible refine stop_store (ty:=265) ?_);refine unheld ?_;refine wp_store_blk rfl _ _ _ rfl rfl rfl (HB2.out:Blk _ (w.heap.size+1) 265 Fd.none.row) rfl (by kernel_rfl) (by kernel_rfl) rfl ?_
       intro w9 hb9 hk9;have Hb9:=hI hb9;have Hk9:=hI hk9;clear hb9 hk9
       repeat go_step
       refine gz11 ?_;exact ⟨by rw [E.out];rfl,HK4.out.trans Hk9.out (fun i hi e=>by have e:i=w.heap.size+1:=e;omega)⟩
      ·obtain rfl:ed=0:=Decidable.not_not.1 hd
       have e:R=(⟨5,0,c⟩,0):=by rw [←hR3,if_neg (by simp),if_neg (by simp)]
       have E:=hI e;clear e hd hR3;go_enter Tryz.func255,Tryz.ntmps255;go_wp2_with fail;refine gz50 ?_;rintro e w3 ⟨rfl,hk3⟩;have hc:=(Hb0.out.kept (S:=fun _=>False) hk3 (fun h=>h)).cell;have HB0:=hI (Hb0.out.kept (S:=fun _=>False) hk3 (fun h=>h));have HB1:=hI (Hb1.out.kept (S:=fun _=>False) hk3 (fun h=>h));have HK3:=hI (Hp0.out.same hk3);clear hk3;go_wp2_with fail;refine (CD.out _).mono ?_
       rintro e w4 ⟨rfl,hk4⟩;have hc:=(HB0.out.kept (S:=fun _=>False) hk4 (fun h=>h)).cell;have HB2:=hI (HB1.out.kept (S:=fun _=>False) hk4 (fun h=>h));have HK4:=hI (HK3.out.same hk4);clear hk4;go_wp2_with (with_reducible refine stop_store (ty:=265) ?_);refine unheld ?_;refine wp_store_blk rfl _ _ _ rfl rfl rfl (HB2.out:Blk _ (w.heap.size+1) 265 Fd.none.row) rfl (by kernel_rfl) (by kernel_rfl) rfl ?_
       intro w9 hb9 hk9;have Hb9:=hI hb9;have Hk9:=hI hk9;clear hb9 hk9
       repeat go_step
       refine gz11 ?_;exact ⟨by rw [E.out];rfl,HK4.out.trans Hk9.out (fun i hi e=>by have e:i=w.heap.size+1:=e;omega)⟩
    ·have d3:(k == 3)=false:=by simpa using c3
     have d4:(k == 4)=false:=by simpa using c4
     have d5:(k == 5)=false:=by simpa using c5
     have hml:mayKL k 0=true:=decide_eq_true (by omega)
     have hR2:(if (canV k v).2≠0 then (Fd.none,(canV k v).2) else if (k:Int)=5∧(parseD (canV k v).1).2≠0 then (Fd.none,(parseD (canV k v).1).2) else (⟨k,0,(canV k v).1⟩,0))=R:=by
      rw [←HR.out];unfold canF;(first|rw [if_neg (show ¬mayKL k l=false from by rw [hml];decide)]|rw [if_neg (show ¬mayKL k 0=false from by rw [hml];decide)]) <;> first|done|rfl
     have CV:=fun w=>cln_any v w hs;rw [show clnS v=canV k v from by unfold canV;rw [if_neg c3,if_neg c4]] at CV
     unfold SP at CV;obtain ⟨r,hr⟩:∃ r,canV k v=r:=⟨_,rfl⟩;have hrs:r.1.size≤1000:=by rw [←hr];exact canV_size _ _ hs
     rw [hr] at CV hR2;obtain ⟨c,er⟩:=r;simp only at CV hR2 hrs;have CV:=hI CV;have hc:=Hb0.out.cell;clear hml hr
     by_cases he:er≠0
     ·have he':(er == 0)=false:=by simpa using he
      have he2:(er != 0)=true:=by simpa using he
      have e:R=(Fd.none,er):=by rw [←hR2,if_pos he]
      have E:=hI e;clear e he hR2;go_enter Tryz.func255,Tryz.ntmps255;go_wp2_with fail;refine gz50 ?_;rintro e w3 ⟨rfl,hk3⟩;have hc:=(Hb0.out.kept (S:=fun _=>False) hk3 (fun h=>h)).cell;have HB1:=hI (Hb1.out.kept (S:=fun _=>False) hk3 (fun h=>h));have HK3:=hI (Hp0.out.same hk3);clear hk3;go_wp2_with (with_reducible refine stop_store (ty:=265) ?_);refine unheld ?_;refine gz12 ?_;intro w9 hb9 hk9
      have Hb9:=hI hb9;have Hk9:=hI hk9;clear hb9 hk9
      repeat go_step
      refine gz11 ?_;exact cz19
     ·obtain rfl:er=0:=Decidable.not_not.1 he
      have HR2:=hI hR2;clear he hR2;have e:R=(⟨k,0,c⟩,0):=by rw [←HR2.out,if_neg (by simp),if_neg (by omega)]
      have E:=hI e;clear e;go_enter Tryz.func255,Tryz.ntmps255;go_wp2_with fail;refine gz50 ?_;rintro e w3 ⟨rfl,hk3⟩;have hc:=(Hb0.out.kept (S:=fun _=>False) hk3 (fun h=>h)).cell;have HB1:=hI (Hb1.out.kept (S:=fun _=>False) hk3 (fun h=>h));have HK3:=hI (Hp0.out.same hk3);clear hk3;go_wp2_with (with_reducible refine stop_store (ty:=265) ?_);refine unheld ?_;refine gz12 ?_;intro w9 hb9 hk9
      have Hb9:=hI hb9;have Hk9:=hI hk9;clear hb9 hk9
      repeat go_step
      refine gz11 ?_;exact cz19
 ·have b0:(l != 0)=true:=by simpa using a0
  by_cases c3:k=3
  ·subst c3
   clear k1 k6 q1 q2
   by_cases a3:l=3
   ·have b3:(l == 3)=true:=by simpa using a3
    have HA3:=hI a3;clear a3;have hml:mayKL 3 l=true:=decide_eq_true (by omega)
    have hR2:(if (canV 3 v).2≠0 then (Fd.none,(canV 3 v).2) else if (3:Int)=5∧(parseD (canV 3 v).1).2≠0 then (Fd.none,(parseD (canV 3 v).1).2) else (⟨3,l,(canV 3 v).1⟩,0))=R:=by
     rw [←HR.out];unfold canF;(first|rw [if_neg (show ¬mayKL 3 l=false from by rw [hml];decide)]|rw [if_neg (show ¬mayKL 3 0=false from by rw [hml];decide)]) <;> first|done|rfl
    have CV:=fun w=>tel_any v w hs;rw [show telS v=canV 3 v from by unfold canV;rw [if_pos rfl]] at CV
    unfold SP at CV;obtain ⟨r,hr⟩:∃ r,canV 3 v=r:=⟨_,rfl⟩;have hrs:r.1.size≤1000:=by rw [←hr];exact canV_size _ _ hs
    rw [hr] at CV hR2;obtain ⟨c,er⟩:=r;simp only at CV hR2 hrs;have CV:=hI CV;have hc:=Hb0.out.cell;clear hml hr
    by_cases he:er≠0
    ·have he':(er == 0)=false:=by simpa using he
     have he2:(er != 0)=true:=by simpa using he
     have e:R=(Fd.none,er):=by rw [←hR2,if_pos he]
     have E:=hI e;clear e he hR2;go_enter Tryz.func255,Tryz.ntmps255;go_wp2_with fail;refine gz50 ?_;rintro e w3 ⟨rfl,hk3⟩;have hc:=(Hb0.out.kept (S:=fun _=>False) hk3 (fun h=>h)).cell;have HB1:=hI (Hb1.out.kept (S:=fun _=>False) hk3 (fun h=>h));have HK3:=hI (Hp0.out.same hk3);clear hk3;go_wp2_with (with_reducible refine stop_store (ty:=265) ?_);refine unheld ?_;refine gz12 ?_;intro w9 hb9 hk9
     have Hb9:=hI hb9;have Hk9:=hI hk9;clear hb9 hk9
     repeat go_step
     refine gz11 ?_;exact cz19
    ·obtain rfl:er=0:=Decidable.not_not.1 he
     have HR2:=hI hR2;clear he hR2;have e:R=(⟨3,l,c⟩,0):=by rw [←HR2.out,if_neg (by simp),if_neg (by omega)]
     have E:=hI e;clear e;go_enter Tryz.func255,Tryz.ntmps255;go_wp2_with fail;refine gz50 ?_;rintro e w3 ⟨rfl,hk3⟩;have hc:=(Hb0.out.kept (S:=fun _=>False) hk3 (fun h=>h)).cell;have HB1:=hI (Hb1.out.kept (S:=fun _=>False) hk3 (fun h=>h));have HK3:=hI (Hp0.out.same hk3);clear hk3;go_wp2_with (with_reducible refine stop_store (ty:=265) ?_);refine unheld ?_;refine gz12 ?_;intro w9 hb9 hk9
     have Hb9:=hI hb9;have Hk9:=hI hk9;clear hb9 hk9
     repeat go_step
     refine gz11 ?_;exact cz19
   ·have b3:(l == 3)=false:=by simpa using a3
    have hml:mayKL 3 l=true:=decide_eq_true (by omega)
    have hR2:(if (canV 3 v).2≠0 then (Fd.none,(canV 3 v).2) else if (3:Int)=5∧(parseD (canV 3 v).1).2≠0 then (Fd.none,(parseD (canV 3 v).1).2) else (⟨3,l,(canV 3 v).1⟩,0))=R:=by
     rw [←HR.out];unfold canF;(first|rw [if_neg (show ¬mayKL 3 l=false from by rw [hml];decide)]|rw [if_neg (show ¬mayKL 3 0=false from by rw [hml];decide)]) <;> first|done|rfl
    have CV:=fun w=>tel_any v w hs;rw [show telS v=canV 3 v from by unfold canV;rw [if_pos rfl]] at CV
    unfold SP at CV;obtain ⟨r,hr⟩:∃ r,canV 3 v=r:=⟨_,rfl⟩;have hrs:r.1.size≤1000:=by rw [←hr];exact canV_size _ _ hs
    rw [hr] at CV hR2;obtain ⟨c,er⟩:=r;simp only at CV hR2 hrs;have CV:=hI CV;have hc:=Hb0.out.cell;clear hml hr
    by_cases he:er≠0
    ·have he':(er == 0)=false:=by simpa using he
     have he2:(er != 0)=true:=by simpa using he
     have e:R=(Fd.none,er):=by rw [←hR2,if_pos he]
     have E:=hI e;clear e he hR2;go_enter Tryz.func255,Tryz.ntmps255;go_wp2_with fail;refine gz50 ?_;rintro e w3 ⟨rfl,hk3⟩;have hc:=(Hb0.out.kept (S:=fun _=>False) hk3 (fun h=>h)).cell;have HB1:=hI (Hb1.out.kept (S:=fun _=>False) hk3 (fun h=>h));have HK3:=hI (Hp0.out.same hk3);clear hk3;go_wp2_with (with_reducible refine stop_store (ty:=265) ?_);refine unheld ?_;refine gz12 ?_;intro w9 hb9 hk9
     have Hb9:=hI hb9;have Hk9:=hI hk9;clear hb9 hk9
     repeat go_step
     refine gz11 ?_;exact cz19
    ·obtain rfl:er=0:=Decidable.not_not.1 he
     have HR2:=hI hR2;clear he hR2;have e:R=(⟨3,l,c⟩,0):=by rw [←HR2.out,if_neg (by simp),if_neg (by omega)]
     have E:=hI e;clear e;go_enter Tryz.func255,Tryz.ntmps255;go_wp2_with fail;refine gz50 ?_;rintro e w3 ⟨rfl,hk3⟩;have hc:=(Hb0.out.kept (S:=fun _=>False) hk3 (fun h=>h)).cell;have HB1:=hI (Hb1.out.kept (S:=fun _=>False) hk3 (fun h=>h));have HK3:=hI (Hp0.out.same hk3);clear hk3;go_wp2_with (with_reducible refine stop_store (ty:=265) ?_);refine unheld ?_;refine gz12 ?_;intro w9 hb9 hk9
     have Hb9:=hI hb9;have Hk9:=hI hk9;clear hb9 hk9
     repeat go_step
     refine gz11 ?_;exact cz19
  ·have e3:(k != 3)=true:=by simpa using c3
   by_cases c4:k=4
   ·subst c4
    clear k1 k6 q1 q2
    by_cases a3:l=3
    ·subst a3
     have hml:mayKL 4 3=false:=decide_eq_false (by omega)
     have e:R=(Fd.none,1):=by
      rw [←HR.out];exact if_pos hml
     clear hml;have E:=hI e;have hc:=Hb0.out.cell;clear e;go_enter Tryz.func255,Tryz.ntmps255;go_wp2_with (with_reducible refine stop_store (ty:=265) ?_);refine unheld ?_;refine wp_store_blk rfl _ _ _ rfl rfl rfl (Hb1.out:Blk _ (w.heap.size+1) 265 Fd.none.row) rfl (by kernel_rfl) (by kernel_rfl) rfl ?_
     intro w9 hb9 hk9;have Hb9:=hI hb9;have Hk9:=hI hk9;clear hb9 hk9
     repeat go_step
     refine gz11 ?_;exact ⟨by rw [E.out];rfl,Hp0.out.trans Hk9.out (fun i hi e=>by have e:i=w.heap.size+1:=e;omega)⟩
    ·have b3:(l == 3)=false:=by simpa using a3
     have hml:mayKL 4 l=true:=decide_eq_true (by omega)
     have hR2:(if (canV 4 v).2≠0 then (Fd.none,(canV 4 v).2) else if (4:Int)=5∧(parseD (canV 4 v).1).2≠0 then (Fd.none,(parseD (canV 4 v).1).2) else (⟨4,l,(canV 4 v).1⟩,0))=R:=by
      rw [←HR.out];unfold canF;(first|rw [if_neg (show ¬mayKL 4 l=false from by rw [hml];decide)]|rw [if_neg (show ¬mayKL 4 0=false from by rw [hml];decide)]) <;> first|done|rfl
     have CV:=fun w=>ref_mail v w hs;rw [show mailS v=canV 4 v from by unfold canV;rw [if_neg (by decide),if_pos rfl]] at CV
     unfold SP at CV;obtain ⟨r,hr⟩:∃ r,canV 4 v=r:=⟨_,rfl⟩;have hrs:r.1.size≤1000:=by rw [←hr];exact canV_size _ _ hs
     rw [hr] at CV hR2;obtain ⟨c,er⟩:=r;simp only at CV hR2 hrs;have CV:=hI CV;have hc:=Hb0.out.cell;clear hml hr
     by_cases he:er≠0
     ·have he':(er == 0)=false:=by simpa using he
      have he2:(er != 0)=true:=by simpa using he
      have e:R=(Fd.none,er):=by rw [←hR2,if_pos he]
      have E:=hI e;clear e he hR2;go_enter Tryz.func255,Tryz.ntmps255;go_wp2_with fail;refine gz50 ?_;rintro e w3 ⟨rfl,hk3⟩;have hc:=(Hb0.out.kept (S:=fun _=>False) hk3 (fun h=>h)).cell;have HB1:=hI (Hb1.out.kept (S:=fun _=>False) hk3 (fun h=>h));have HK3:=hI (Hp0.out.same hk3);clear hk3;go_wp2_with (with_reducible refine stop_store (ty:=265) ?_);refine unheld ?_;refine gz12 ?_;intro w9 hb9 hk9
      have Hb9:=hI hb9;have Hk9:=hI hk9;clear hb9 hk9
      repeat go_step
      refine gz11 ?_;exact cz19
     ·obtain rfl:er=0:=Decidable.not_not.1 he
      have HR2:=hI hR2;clear he hR2;have e:R=(⟨4,l,c⟩,0):=by rw [←HR2.out,if_neg (by simp),if_neg (by omega)]
      have E:=hI e;clear e;go_enter Tryz.func255,Tryz.ntmps255;go_wp2_with fail;refine gz50 ?_;rintro e w3 ⟨rfl,hk3⟩;have hc:=(Hb0.out.kept (S:=fun _=>False) hk3 (fun h=>h)).cell;have HB1:=hI (Hb1.out.kept (S:=fun _=>False) hk3 (fun h=>h));have HK3:=hI (Hp0.out.same hk3);clear hk3;go_wp2_with (with_reducible refine stop_store (ty:=265) ?_);refine unheld ?_;refine gz12 ?_;intro w9 hb9 hk9
      have Hb9:=hI hb9;have Hk9:=hI hk9;clear hb9 hk9
      repeat go_step
      refine gz11 ?_;exact cz19
   ·have e4:(k != 4)=true:=by simpa using c4
    have hml:mayKL k l=false:=decide_eq_false (by omega)
    have e:R=(Fd.none,1):=by
     rw [←HR.out];exact if_pos hml
    clear hml;have E:=hI e;have hc:=Hb0.out.cell;clear e;go_enter Tryz.func255,Tryz.ntmps255;go_wp2_with (with_reducible refine stop_store (ty:=265) ?_);refine unheld ?_;refine wp_store_blk rfl _ _ _ rfl rfl rfl (Hb1.out:Blk _ (w.heap.size+1) 265 Fd.none.row) rfl (by kernel_rfl) (by kernel_rfl) rfl ?_
    intro w9 hb9 hk9;have Hb9:=hI hb9;have Hk9:=hI hk9;clear hb9 hk9
    repeat go_step
    refine gz11 ?_;exact ⟨by rw [E.out];rfl,Hp0.out.trans Hk9.out (fun i hi e=>by have e:i=w.heap.size+1:=e;omega)⟩
end
section
open Go.RowKit Go.PlainAid
theorem eq_fd (a b:Fd) (w:World):(binOp .eql 265 a.val b.val).run Tryz.prog w = .ok (.bool (decide (a=b))) w:=by
 obtain ⟨k1,l1,v1⟩:=a;obtain ⟨k2,l2,v2⟩:=b;go_simp;simp only [str_eq]
 (repeat' split) <;> simp_all
theorem guard_fd (x y:Operand) (xs ys:Array Value) (op:BinOp) (w:World):(eqGuard op 265 x y (.agg xs) (.agg ys)).run Tryz.prog w = .ok () w:=run_eqGuard_agg w op _ x y xs ys (by kernel_rfl)
def mayF (f:Fd):Bool:=decide (canF f=(f,0))
theorem ref_may (f:Fd) (w:World) (hk:f.Kl) (hs:f.value.size≤1000):Calls Tryz.prog 229 #[f.val] w (BoolPu (mayF f) w):=by
 have CC:=fun w=>ref_canon f w hk hs;unfold FP at CC;have hm:mayF f=(decide ((canF f).2=0)&&decide ((canF f).1=f)):=by
  unfold mayF;rw [Bool.eq_iff_iff];simp only [decide_eq_true_eq,Bool.and_eq_true];constructor
  ·intro h;rw [h];exact ⟨rfl,rfl⟩
  ·rintro ⟨h1,h2⟩;exact Prod.ext h2 h1
 rw [hm];obtain ⟨r,hr⟩:∃ r,canF f=r:=⟨_,rfl⟩;rw [hr] at CC ⊢;obtain ⟨g,e⟩:=r;simp only at CC ⊢;have CC:=hI CC;have Hb:=hI (Blk.new w 265 f.row);have Hp:=hI ((Kept.refl (fun _=>False) w).alloc (.cells f.row 265));have hc:=Hb.out.cell;have heq:=eq_fd g f;have hgd:=fun x y xs ys=>guard_fd x y xs ys .eql;clear hr hm;have hsplit:∀ b:Bool,decide (e=0)=b→Calls Tryz.prog 229 #[f.val] w (BoolPu (b&&decide (g=f)) w):=fun b hb=>by
  have he:(e == 0)=b:=by rw [←hb];by_cases h:e=0 <;> simp [h]
  clear hb;obtain ⟨c,hc2⟩:∃ c,decide (g=f)=c:=⟨_,rfl⟩;rw [hc2] at heq ⊢;clear hc2;obtain ⟨fk,fl,fv⟩:=f;obtain ⟨gk,gl,gv⟩:=g;go_enter Tryz.func229,Tryz.ntmps229;go_wp2_with fail;refine (CC.out _).mono ?_;rintro e w2 ⟨rfl,hk2⟩;have hb2:=Hb.out.kept hk2 (fun h=>h);have hb3:=hb2.alloc (.cells Fd.none.row 265);have hn3:=Blk.new w2 265 Fd.none.row;have hp3:=(Hp.out.same hk2).alloc (.cells Fd.none.row 265)
  have hlt:=hb2.lt;have hz:=hk2.size;rw [World.size_alloc] at hz;have Hb3:=hI hb3;have Hp3:=hI hp3;have Hz:=hI hz;clear hb2 hb3 hp3 hk2 hc hlt hz;go_wp2_with (with_reducible refine stop_store (ty:=265) ?_);refine unheld ?_;refine wp_store_blk rfl _ _ _ rfl rfl rfl hn3 rfl (by kernel_rfl) (by kernel_rfl) rfl ?_
  intro w4 hb4 hk4;have hc4:=hb4.cell;have hf4:=(Hb3.out.kept hk4 (fun e=>by have e:w.heap.size=w2.heap.size:=e;have:=Hz.out;omega)).cell
  have Hp4:=hI (Hp3.out.trans hk4 (fun i hi e=>by have e:i=w2.heap.size:=e;have:=Hz.out;omega))
  clear hk4 hb4 hn3;cases b with
  | false =>
   go_wp2;go_ret;exact ⟨rfl,Hp4.out⟩
  | true =>
   go_wp2;go_ret;exact ⟨rfl,Hp4.out⟩
 exact hsplit _ rfl
def wordL:List ByteArray:=[⟨#[]⟩,⟨#[110,97,109,101]⟩,⟨#[111,114,103]⟩,⟨#[116,101,108]⟩,⟨#[109,97,105,108]⟩,⟨#[100,97,121]⟩,⟨#[110,111,116,101]⟩]
def labL:List ByteArray:=[⟨#[]⟩,⟨#[59,104,111,109,101]⟩,⟨#[59,119,111,114,107]⟩,⟨#[59,99,101,108,108]⟩]
def strsA (l:List ByteArray):Array Value:=(l.map Value.string).toArray
def StrsP (l:List ByteArray) (n:Nat) (w:World) (e:Ending) (w':World):Prop:=∃ g,e = .returned (.slice (some ⟨g,0,none⟩) n n)∧w.heap.size≤g∧Blk w' g 9 (strsA l)∧Pure w w'
theorem ref_words (w:World):Calls Tryz.prog 227 #[] w (StrsP wordL 7 w):=by
 have hb:=Blk.new w 9 (strsA wordL);have hp:=(Kept.refl (fun _=>False) w).alloc (.cells (strsA wordL) 9);have Hb:=hI hb;have Hp:=hI hp;clear hb hp;go_enter Tryz.func227,Tryz.ntmps227;go_wp2;go_ret;exact ⟨w.heap.size,rfl,Nat.le_refl _,Hb.out,Hp.out⟩
theorem ref_labels (w:World):Calls Tryz.prog 228 #[] w (StrsP labL 4 w):=by
 have hb:=Blk.new w 9 (strsA labL);have hp:=(Kept.refl (fun _=>False) w).alloc (.cells (strsA labL) 9);have Hb:=hI hb;have Hp:=hI hp;clear hb hp;go_enter Tryz.func228,Tryz.ntmps228;go_wp2;go_ret;exact ⟨w.heap.size,rfl,Nat.le_refl _,Hb.out,Hp.out⟩
theorem strsA_at {l:List ByteArray} {k:Nat} (h:k<l.length):(strsA l)[k]? = some (.string (l.getD k ⟨#[]⟩)):=by
 unfold strsA;simp [List.getD,List.getElem?_eq_getElem h]
def wordB (k:Int):ByteArray:=wordL.getD k.toNat ⟨#[]⟩
def labelB (l:Int):ByteArray:=labL.getD l.toNat ⟨#[]⟩
theorem wordB_size (k:Nat) (h:k≤6):(wordB k).size≤4:=by
 rcases (show k=0∨k=1∨k=2∨k=3∨k=4∨k=5∨k=6 by omega) with rfl|rfl|rfl|rfl|rfl|rfl|rfl <;> decide
theorem labelB_size (l:Nat) (h:l≤3):(labelB l).size≤5:=by
 rcases (show l=0∨l=1∨l=2∨l=3 by omega) with rfl|rfl|rfl|rfl <;> decide
def colon:ByteArray:=⟨#[58]⟩
def lineF (f:Fd):ByteArray:=if mayF f=true then wordB f.kind++labelB f.label++colon++f.value else ⟨#[]⟩
def lineM (B:Nat) (i:Nat) (v:Value) (w:World):Prop:=match i with
 | 0=>∃ g,v = .slice (some ⟨g,0,none⟩) 7 7∧B≤g∧Blk w g 9 (strsA wordL)
 | 5=>∃ g,v = .slice (some ⟨g,0,none⟩) 4 4∧B≤g∧Blk w g 9 (strsA labL)
 | _=>True
def PureT (_:Nat) (w w':World):Prop:=Pure w w'
theorem lineM_stable (B:Nat):∀ (k i:Nat) (v:Value) (w w':World),k∈[0,5]→i∈[0,5]→i≠k→i∉(fun _=>([]:List Nat)) k→PureT k w w'→lineM B i v w→lineM B i v w':=by
 intro k i v w w' _ hi _ _ ht h;simp only [List.mem_cons,List.not_mem_nil,or_false] at hi;rcases hi with rfl|rfl
 ·obtain ⟨g,h1,h2,h3⟩:=h
  exact ⟨g,h1,h2,h3.kept (S:=fun _=>False) ht (fun h=>h)⟩
 ·obtain ⟨g,h1,h2,h3⟩:=h
  exact ⟨g,h1,h2,h3.kept (S:=fun _=>False) ht (fun h=>h)⟩
theorem ref_line (f:Fd) (w:World) (hk:f.Kl) (hs:f.value.size≤1000):Calls Tryz.prog 257 #[f.val] w (StrP (lineF f) w):=by
 have CM:=fun w=>ref_may f w hk hs;obtain ⟨k,l,v⟩:=f;obtain ⟨k1,k6,l0,l3⟩:=hk;simp only at k1 k6 l0 l3 hs;obtain ⟨kn,rfl⟩:=Int.eq_ofNat_of_zero_le (show 0≤k by omega)
 obtain ⟨ln,rfl⟩:=Int.eq_ofNat_of_zero_le l0;have hb:=Blk.new w 265 (Fd.mk kn ln v).row;have Hb:=hI hb;have Hp:=hI ((Kept.refl (fun _=>False) w).alloc (.cells (Fd.mk kn ln v).row 265));have hc:=hb.cell;unfold lineF;cases hm:mayF ⟨kn,ln,v⟩ with
 | false =>
  rw [hm] at CM;rw [if_neg (by decide)]
  have CM:=hI CM;clear hm hb;go_enter Tryz.func257,Tryz.ntmps257;go_wp2_with fail;refine (CM.out _).mono ?_;rintro e w2 ⟨rfl,hk2⟩;have Hk2:=hI hk2;clear hk2;go_wp2;go_ret;exact ⟨rfl,Hp.out.same Hk2.out⟩
 | true =>
  rw [hm] at CM;rw [if_pos rfl];simp only;have CM:=hI CM;have hkn:kn<7:=by omega
  have hln:ln<4:=by omega
  have hwk:=strsA_at (l:=wordL) (k:=kn) hkn;have hlk:=strsA_at (l:=labL) (k:=ln) hln
  change _=some (Value.string (wordB kn)) at hwk
  change _=some (Value.string (labelB ln)) at hlk
  have z1:=wordB_size kn (by omega)
  have z2:=labelB_size ln (by omega)
  have hw1:=hI ref_words;have hl1:=hI ref_labels;have HWK:=hI hwk;have HLK:=hI hlk;obtain ⟨R,hR⟩:∃ R,wordB kn++labelB ln++colon++v=R:=⟨_,rfl⟩;rw [hR];generalize wordB kn=W at *;generalize labelB ln=L at *;have g1:=small_cat2 (a:=W) (b:=L) (by omega)
  have s1:(W++L).size≤9:=by rw [ByteArray.size_append];omega
  obtain ⟨X,hX⟩:∃ X,W++L=X:=⟨_,rfl⟩;rw [hX] at hR s1;have g2:(9223372036854775807<X.size+1)=False:=eq_false (by omega)
  obtain ⟨Y,hY⟩:∃ Y,X++(⟨#[58]⟩:ByteArray)=Y:=⟨_,rfl⟩;have s2:Y.size≤10:=by rw [←hY,ByteArray.size_append];have:(⟨#[58]⟩:ByteArray).size=1:=rfl;omega
  have g3:=small_cat2 (a:=Y) (b:=v) (by omega)
  have HR:Hid (Y++v=R):=by rw [Hid,←hY];exact hR
  have hki:(kn:Int)<7:=by omega
  have hli:(ln:Int)<4:=by omega
  clear hm hb hwk hlk z1 z2 s1 s2 hR;go_enter Tryz.func257,Tryz.ntmps257;go_wp2_with fail;refine (CM.out _).mono ?_;rintro e w2 ⟨rfl,hk2⟩;have hb2:=Hb.out.kept (S:=fun _=>False) hk2 (fun h=>h);have HP2:=hI (Hp.out.same hk2);have HB2:=hI hb2;clear hk2 hc hb2;go_wp2;refine wp_region_free (fun w'=>Pure w2 w') PureT [0,5] (fun _=>[]) (lineM w2.heap.size) (by kernel_rfl) (by kernel_rfl) (lineM_stable _) (Kept.refl _ _).drew ?_
  refine free_move0 (by decide) rfl (fun w' hw'=>?_) (fun v hv=>?_)
  ·go_simp
   refine up_enter ((hw1.out _).mono ?_);rintro e w'' ⟨g,rfl,h1,h2,h3⟩;have hp1:Pure w2 w':=hw'.1;have hz:=hp1.size;exact ⟨_,rfl,hp1.same h3,h3,g,rfl,by omega,h2⟩
  obtain ⟨_,_,g0,rfl,hg0,_⟩:=hv;refine free_step (by decide) (fun K hK=>?_)
  go_simp
  first|(refine ex_steadyF ?_ (fun w' hw'=>?_) ?_;rotate_left;(have hp:Pure w2 w':=hw'.1;have hc:=(HB2.out.kept (S:=fun _=>False) hp (fun h=>h)).cell;clear hw';go_simp;first|done|rfl);(refine hK _ ?_;clear hK K))|(refine hK _ ?_;clear hK K)
  refine free_step (by decide) (fun K hK=>?_)
  go_simp
  first|(refine ex_steadyF ?_ (fun w' hw'=>?_) ?_;rotate_left;(have hp:Pure w2 w':=hw'.1;have hc:=(HB2.out.kept (S:=fun _=>False) hp (fun h=>h)).cell;clear hw';go_simp;first|done|rfl);(refine hK _ ?_;clear hK K))|(refine hK _ ?_;clear hK K)
  refine free_step (by decide) (fun K hK=>?_)
  go_simp
  first|(refine ex_steadyF ?_ (fun w' hw'=>?_) ?_;rotate_left;(have f0:lineM w2.heap.size 0 (.slice (some ⟨g0,0,none⟩) 7 7) w':=hw'.2 (0,_) (List.mem_cons_self ..) (by kernel_rfl) (by kernel_rfl);obtain ⟨g',he,_,hbk⟩:=f0;obtain rfl:=sl_inj he;have hcw:=hbk.cell kn;rw [HWK.out] at hcw;clear hw';go_simp;first|done|rfl);(refine hK _ ?_;clear hK K))|(refine hK _ ?_;clear hK K)
  refine free_step (by decide) (fun K hK=>?_)
  go_simp
  first|(refine ex_steadyF ?_ (fun w' hw'=>?_) ?_;rotate_left;(have f0:lineM w2.heap.size 0 (.slice (some ⟨g0,0,none⟩) 7 7) w':=hw'.2 (0,_) (List.mem_cons_self ..) (by kernel_rfl) (by kernel_rfl);obtain ⟨g',he,_,hbk⟩:=f0;obtain rfl:=sl_inj he;have hcw:=hbk.cell kn;rw [HWK.out] at hcw;clear hw';go_simp;first|done|rfl);(refine hK _ ?_;clear hK K))|(refine hK _ ?_;clear hK K)
  refine free_move0 (by decide) rfl (fun w' hw'=>?_) (fun v hv=>?_)
  ·go_simp
   refine up_enter ((hl1.out _).mono ?_);rintro e w'' ⟨g,rfl,h1,h2,h3⟩;have hp1:Pure w2 w':=hw'.1;have hz:=hp1.size;exact ⟨_,rfl,hp1.same h3,h3,g,rfl,by omega,h2⟩
  obtain ⟨_,_,g5,rfl,hg5,_⟩:=hv;refine free_step (by decide) (fun K hK=>?_)
  go_simp
  first|(refine ex_steadyF ?_ (fun w' hw'=>?_) ?_;rotate_left;(have hp:Pure w2 w':=hw'.1;have hc:=(HB2.out.kept (S:=fun _=>False) hp (fun h=>h)).cell;clear hw';go_simp;first|done|rfl);(refine hK _ ?_;clear hK K))|(refine hK _ ?_;clear hK K)
  refine free_step (by decide) (fun K hK=>?_)
  go_simp
  first|(refine ex_steadyF ?_ (fun w' hw'=>?_) ?_;rotate_left;(have hp:Pure w2 w':=hw'.1;have hc:=(HB2.out.kept (S:=fun _=>False) hp (fun h=>h)).cell;clear hw';go_simp;first|done|rfl);(refine hK _ ?_;clear hK K))|(refine hK _ ?_;clear hK K)
  refine free_step (by decide) (fun K hK=>?_)
  go_simp
  first|(refine ex_steadyF ?_ (fun w' hw'=>?_) ?_;rotate_left;(have f5:lineM w2.heap.size 5 (.slice (some ⟨g5,0,none⟩) 4 4) w':=hw'.2 (5,_) (List.mem_cons_self ..) (by kernel_rfl) (by kernel_rfl);obtain ⟨g',he,_,hbk⟩:=f5;obtain rfl:=sl_inj he;have hcw:=hbk.cell ln;rw [HLK.out] at hcw;clear hw';go_simp;first|done|rfl);(refine hK _ ?_;clear hK K))|(refine hK _ ?_;clear hK K)
  refine free_step (by decide) (fun K hK=>?_)
  go_simp
  first|(refine ex_steadyF ?_ (fun w' hw'=>?_) ?_;rotate_left;(have f5:lineM w2.heap.size 5 (.slice (some ⟨g5,0,none⟩) 4 4) w':=hw'.2 (5,_) (List.mem_cons_self ..) (by kernel_rfl) (by kernel_rfl);obtain ⟨g',he,_,hbk⟩:=f5;obtain rfl:=sl_inj he;have hcw:=hbk.cell ln;rw [HLK.out] at hcw;clear hw';go_simp;first|done|rfl);(refine hK _ ?_;clear hK K))|(refine hK _ ?_;clear hK K)
  repeat (refine free_step (by decide) (fun K hK=>?_);go_simp;first|(refine ex_steadyF ?_ (fun w' hw'=>?_) ?_;rotate_left;(have hp:Pure w2 w':=hw'.1;have hc:=(HB2.out.kept (S:=fun _=>False) hp (fun h=>h)).cell;clear hw';go_simp;first|done|rfl);(refine hK _ ?_;clear hK K))|(refine hK _ ?_;clear hK K))
  refine free_nil (fun w7 hp _=>?_);have HP7:=hI (HP2.out.same hp);clear hp;go_wp2;go_ret;exact ⟨by rw [←HR.out];first|done|rfl,HP7.out⟩
end
section
open Go.RowKit Go.PlainAid
def headB (k j:Nat):ByteArray:=wordB k++labelB j++colon
def hit (s:ByteArray) (k j:Nat):Bool:=decide ((headB k j).size≤s.size∧s.extract 0 (headB k j).size=headB k j)&&mayF ⟨k,j,s.extract (headB k j).size s.size⟩
def hitF (s:ByteArray) (k j:Nat):Fd:=⟨k,j,s.extract (headB k j).size s.size⟩
def innG (s:ByteArray) (k:Nat):Nat→Option Fd
 | 0=>none
 | m+1=>if hit s k (3-m)=true then some (hitF s k (3-m)) else innG s k m
def outG (s:ByteArray):Nat→Option Fd
 | 0=>none
 | n+1=>(innG s (6-n) 4).or (outG s n)
def prs (o:Option Fd):Fd×Int:=match o with|some f=>(f,0)|none=>(Fd.none,1)
def parseF (s:ByteArray):Fd×Int:=prs (outG s 6)
theorem innG_kl {s:ByteArray} {k:Nat} (h1:1≤k) (h6:k≤6):∀ {m:Nat} {f:Fd},m≤4→innG s k m=some f→f.Kl∧f.value.size≤s.size
 | 0,f,_,h=>by cases h
 | m+1,f,hm,h=>by
  unfold innG at h
  split at h
  ·injection h with h
   subst h;exact ⟨⟨by simp only [hitF];omega,by simp only [hitF];omega,by simp only [hitF];omega,by simp only [hitF];omega⟩,by simp only [hitF];rw [ByteArray.size_extract];omega⟩
  ·exact innG_kl h1 h6 (by omega) h
theorem outG_kl {s:ByteArray}:∀ {n:Nat} {f:Fd},n≤6→outG s n=some f→f.Kl∧f.value.size≤s.size
 | 0,f,_,h=>by cases h
 | n+1,f,hn,h=>by
  unfold outG at h;cases hi:innG s (6-n) 4 with
  | some g =>
   rw [hi] at h;simp only [Option.some_or,Option.some.injEq] at h;subst h;exact innG_kl (by omega) (by omega) (by omega) hi
  | none =>
   rw [hi] at h;simp only [Option.none_or] at h;exact outG_kl (by omega) h
theorem ref_parseField (s:ByteArray) (w:World) (hs:s.size≤1000):Calls Tryz.prog 185 #[.string s] w (FP (parseF s) w):=by
 have hp0:=(Kept.refl (fun _=>False) w).alloc (.cells Fd.none.row 265);have hb0:=Blk.new w 265 Fd.none.row;obtain ⟨O,hO⟩:∃ O,outG s 6=O:=⟨_,rfl⟩;unfold parseF;rw [hO];have HO:=hI hO;have Hp0:=hI hp0;have Hb0:=hI hb0;have hw1:=hI ref_words;have hl1:=hI ref_labels;clear hp0 hb0 hO;go_enter Tryz.func185,Tryz.ntmps185;go_wp2_with fail;refine (hw1.out _).mono ?_;rintro e w2 ⟨g1,rfl,_,hbw,hk2⟩
 go_wp2_with fail
 refine (hl1.out _).mono ?_;rintro e w3 ⟨g2,rfl,_,hbl,hk3⟩;have HbW:=hI (hbw.kept (S:=fun _=>False) hk3 (fun h=>h));have HbL:=hI hbl;have Hp3:=hI ((Hp0.out.same hk2).same hk3);have Hb3:=hI ((Hb0.out.kept (S:=fun _=>False) hk2 (fun h=>h)).kept (S:=fun _=>False) hk3 (fun h=>h));clear hbw hbl hk2 hk3;go_wp2
 go_loopw [6] (fun vk wr=>∃ k:Nat,vk = .int .i64 k∧1≤k∧k≤7∧Hid (outG s (7-k)=O)∧Hid (Pure w3 wr)) (fun vk _=>7-(intOf vk).toNat)
 case atStart=>exact ⟨1,rfl,by omega,by omega,HO,hI (Kept.refl _ _)⟩
 case round =>
  obtain ⟨k,rfl,hk1,hk7,hout,hpk⟩:=hrel
  by_cases hk6:k≤6
  ·have hki:(k:Int)≤6:=by omega
   have HO1:Hid ((innG s k 4).or (outG s (6-k))=O):=by
    have:=hout.out;rw [show 7-k=(6-k)+1 by omega] at this
    unfold outG at this;rw [show 6-(6-k)=k by omega] at this
    exact this
   go_wp2
   go_loopw [7] (fun vj wr=>∃ j:Nat,vj = .int .i64 j∧j≤4∧Hid ((innG s k (4-j)).or (outG s (6-k))=O)∧Hid (Pure w3 wr)) (fun vj _=>4-(intOf vj).toNat)
   case atStart=>exact ⟨0,rfl,by omega,HO1,hpk⟩
   case round =>
    obtain ⟨j,rfl,hj4,hin,hpj⟩:=hrel
    by_cases hj3:j<4
    ·have hji:(j:Int)<4:=by omega
     have hcw:=(HbW.out.kept (S:=fun _=>False) hpj.out (fun h=>h)).cell k;have hcl:=(HbL.out.kept (S:=fun _=>False) hpj.out (fun h=>h)).cell j;rw [strsA_at (l:=wordL) (show k<7 by omega)] at hcw
     rw [strsA_at (l:=labL) (show j<4 by omega)] at hcl
     change _=some (Value.string (wordB k)) at hcw
     change _=some (Value.string (labelB j)) at hcl
     have z1:=wordB_size k (by omega)
     have z2:=labelB_size j (by omega)
     have hH:headB k j=wordB k++labelB j++(⟨#[58]⟩:ByteArray):=rfl;have g1':=small_cat2 (a:=wordB k) (b:=labelB j) (by omega)
     have s1:(wordB k++labelB j).size≤9:=by rw [ByteArray.size_append];omega
     generalize wordB k=W at *;generalize labelB j=L at *;obtain ⟨X,hX⟩:∃ X,W++L=X:=⟨_,rfl⟩;rw [hX] at hH s1;have g2':(9223372036854775807<X.size+1)=False:=eq_false (by omega)
     obtain ⟨D,hD⟩:∃ D,X++(⟨#[58]⟩:ByteArray)=D:=⟨_,rfl⟩;have s2:D.size≤10:=by rw [←hD,ByteArray.size_append];have:(⟨#[58]⟩:ByteArray).size=1:=rfl;omega
     rw [hD] at hH;have HH:=hI hH;clear z1 z2 s1 hH;have hkl:(k:Int)<7:=by omega
     by_cases c1:D.size≤s.size
     ·have c1':((s.size:Int)<(D.size:Int))=False:=by simp;omega
      have c1i:(D.size:Int)≤(s.size:Int):=by omega
      by_cases c2:s.extract 0 D.size=D
      ·have c2':((s.extract 0 D.size).toList == D.toList)=true:=by rw [c2];simp
       have C2:=hI c2;have hfk:Fd.Kl ⟨k,j,s.extract D.size s.size⟩:=⟨by simp only;omega,by simp only;omega,by simp only;omega,by simp only;omega⟩
       have hxs:(s.extract D.size s.size).size≤1000:=by rw [ByteArray.size_extract];omega
       have CM:=fun w=>ref_may ⟨k,j,s.extract D.size s.size⟩ w hfk hxs;obtain ⟨V,hV⟩:∃ V,s.extract D.size s.size=V:=⟨_,rfl⟩;rw [hV] at CM;have hb5:=Blk.new wr 265 Fd.none.row;have HV:=hI hV;have hbr:=Hb3.out.kept (S:=fun _=>False) hpj.out (fun h=>h);have Hbr:=hI hbr;have Hlt:=hI hbr.lt;have hp5:=hpj.out.drew.alloc (.cells Fd.none.row 265);have hb5:=Blk.new wr.drew 265 Fd.none.row;have hbr5:=(Hbr.out.drewN 1).alloc (.cells Fd.none.row 265)
       have Hp5:=hI hp5;have Hbr5:=hI hbr5;clear c2 hfk hxs hbr hp5 hbr5;go_wp2;refine gz42 ?_;refine gz2 ?_;refine gz13 ?_;go_wp2_with (with_reducible refine stop_store (ty:=265) ?_);refine unheld ?_;refine wp_store_blk rfl _ _ _ rfl rfl rfl hb5 rfl (by kernel_rfl) (by kernel_rfl) rfl ?_
       intro w6 hb6 hk6;have hlt:=Hlt.out;have Hp6:=hI (Hp5.out.trans hk6 (fun i hi e=>by have e:i=wr.heap.size:=e;have:=hpj.out.size;have:=Hp3.out.size;omega))
       have Hbr6:=hI (Hbr5.out.kept hk6 (fun e=>by have e:w.heap.size=wr.heap.size:=e;omega))
       have Hb6:=hI hb6;have hc6:=hb6.cell;clear hb6 hk6 hb5 hcw hcl hlt;cases hm:mayF ⟨k,j,V⟩ with
       | true =>
        rw [hm] at CM;have CM:=hI CM;have e:O=some ⟨k,j,V⟩:=by
         have:=hin.out;rw [show 4-j=(3-j)+1 by omega] at this
         unfold innG at this;rw [show 3-(3-j)=j by omega,if_pos (show hit s k j=true from by unfold hit;rw [HH.out,decide_eq_true ⟨c1,C2.out⟩,HV.out,hm];rfl)] at this
         rw [←this];unfold hitF;rw [HH.out,HV.out];rfl
        have E:=hI e;clear hm e;go_wp2_with fail;refine (CM.out _).mono ?_;rintro e w7 ⟨rfl,hk7⟩;have hc7:=(Hb6.out.kept (S:=fun _=>False) hk7 (fun h=>h)).cell;have Hbr7:=hI (Hbr6.out.kept (S:=fun _=>False) hk7 (fun h=>h));have Hp7:=hI (Hp6.out.same hk7);clear hk7 hc6;go_wp2_with (with_reducible refine stop_store (ty:=265) ?_);refine unheld ?_;refine wp_store_blk rfl _ _ _ rfl rfl rfl (Hbr7.out:Blk _ w.heap.size 265 Fd.none.row) rfl (by kernel_rfl) (by kernel_rfl) rfl ?_
        intro w9 hb9 hk9;have Hb9:=hI hb9;have Hk9:=hI hk9;clear hb9 hk9
        repeat go_step
        refine bodyPost_ret (results_cell_tmp Tryz.results185 rfl Hb9.out Tryz.underlying265 rfl (by kernel_rfl)) rfl ?_
        exact ⟨by rw [E.out];rfl,(Hp3.out.same Hp7.out).trans Hk9.out (fun i hi e=>by have e:i=w.heap.size:=e;omega)⟩
       | false =>
        rw [hm] at CM;have CM:=hI CM;have HF:Hid (hit s k j=false):=by
         rw [Hid];unfold hit;rw [HH.out,HV.out,hm];simp
        clear hm;go_wp2_with fail;refine (CM.out _).mono ?_;rintro e w7 ⟨rfl,hk7⟩;have Hp7:=hI (Hp6.out.same hk7);clear hk7 hc6;have HN:Hid ((innG s k (3-j)).or (outG s (6-k))=O):=by
         have:=hin.out;rw [show 4-j=(3-j)+1 by omega] at this
         unfold innG at this;rw [show 3-(3-j)=j by omega,if_neg (by rw [show hit s k j=false from HF.out];simp)] at this
         exact this
        go_wp2
        go_roundw
        case measure=>first|omega|(simp [intOf];done)|(simp [intOf];omega)
        case rel=>exact ⟨j+1,by first|rfl|go_num,by omega,by rw [show 4-(j+1)=3-j by omega];exact HN,Hp7⟩
      ·have c2':((s.extract 0 D.size).toList == D.toList)=false:=str_ne c2
       have HF:Hid (hit s k j=false):=by
        rw [Hid];unfold hit;rw [HH.out,decide_eq_false (fun h=>c2 h.2)];rfl
       clear c2;go_wp2;refine gz42 ?_;refine gz2 ?_;refine gz13 ?_;have HN:Hid ((innG s k (3-j)).or (outG s (6-k))=O):=by
        have:=hin.out;rw [show 4-j=(3-j)+1 by omega] at this
        unfold innG at this;rw [show 3-(3-j)=j by omega,if_neg (by rw [show hit s k j=false from HF.out];simp)] at this
        exact this
       go_wp2
       go_roundw
       case measure=>first|omega|(simp [intOf];done)|(simp [intOf];omega)
       case rel=>exact ⟨j+1,by first|rfl|go_num,by omega,by rw [show 4-(j+1)=3-j by omega];exact HN,hI hpj.out.drew⟩
     ·have c1':((s.size:Int)<(D.size:Int))=True:=by simp;omega
      have HF:Hid (hit s k j=false):=by
       rw [Hid];unfold hit;rw [HH.out,decide_eq_false (fun h=>c1 h.1)];rfl
      go_wp2;refine gz42 ?_;refine gz2 ?_;refine gz13 ?_;have HN:Hid ((innG s k (3-j)).or (outG s (6-k))=O):=by
       have:=hin.out;rw [show 4-j=(3-j)+1 by omega] at this
       unfold innG at this;rw [show 3-(3-j)=j by omega,if_neg (by rw [show hit s k j=false from HF.out];simp)] at this
       exact this
      go_wp2
      go_roundw
      case measure=>first|omega|(simp [intOf];done)|(simp [intOf];omega)
      case rel=>exact ⟨j+1,by first|rfl|go_num,by omega,by rw [show 4-(j+1)=3-j by omega];exact HN,hI hpj.out.drew⟩
    ·obtain rfl:j=4:=by omega
     have HN:Hid (outG s (7-(k+1))=O):=by
      have:=hin.out;rw [show 7-(k+1)=6-k by omega]
      exact this
     go_wp2
     go_roundw
     case measure=>first|omega|(simp [intOf];done)|(simp [intOf];omega)
     case rel=>exact ⟨k+1,by first|rfl|go_num,by omega,by omega,HN,hpj⟩
  ·obtain rfl:k=7:=by omega
   have e:O=none:=hout.out.symm;have E:=hI e;have hbr:=Hb3.out.kept (S:=fun _=>False) hpk.out (fun h=>h);have Hbr:=hI hbr;clear e hbr;go_wp2_with (with_reducible refine stop_store (ty:=265) ?_);refine unheld ?_;refine wp_store_blk rfl _ _ _ rfl rfl rfl (Hbr.out:Blk _ w.heap.size 265 Fd.none.row) rfl (by kernel_rfl) (by kernel_rfl) rfl ?_
   intro w9 hb9 hk9;have Hb9:=hI hb9;have Hk9:=hI hk9;clear hb9 hk9
   repeat go_step
   refine bodyPost_ret (results_cell_tmp Tryz.results185 rfl Hb9.out Tryz.underlying265 rfl (by kernel_rfl)) rfl ?_
   exact ⟨by rw [E.out];rfl,(Hp3.out.same hpk.out).trans Hk9.out (fun i hi e=>by have e:i=w.heap.size:=e;omega)⟩
end
end Go.Proofs.YtjfpfeapbcjioaaGreat
