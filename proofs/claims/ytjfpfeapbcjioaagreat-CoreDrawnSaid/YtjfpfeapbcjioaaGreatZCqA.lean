/-
  The texts of this claim, put together: CqA, CqC, CqD, CqE, CqF, CqG, CqH, CoDo, CqI, CoLB, CoLF, CoLN, CoLD, CoLE, CoLO.
-/
import Derived.Test.YtjfpfeapbcjioaaGreatZCaK
import Derived.Test.YtjfpfeapbcjioaaGreatZCoOp
import Derived.Test.YtjfpfeapbcjioaaGreatZId
import Derived.Test.YtjfpfeapbcjioaaGreatZBlk
import Derived.Test.YtjfpfeapbcjioaaGreatZOwnO
import Derived.Test.YtjfpfeapbcjioaaGreatZFree
import Derived.Test.YtjfpfeapbcjioaaGreatZCoKE
import Derived.Test.YtjfpfeapbcjioaaGreatZCoM
import Derived.Test.YtjfpfeapbcjioaaGreatZSm
set_option linter.unusedSimpArgs false
set_option linter.unusedVariables false
set_option maxHeartbeats 12800000
set_option maxRecDepth 100000
namespace Go.Proofs.YtjfpfeapbcjioaaGreat
section
open Go.RowKit Go.PlainAid
theorem ref_mayCond (k v:Int) (w:World):Calls Tryz.prog 69 #[.agg #[.int .i64 k,.int .i64 v]] w (BoolPu ((Cn.mk k v).may) w):=by
 obtain ⟨R,hR⟩:∃ R,(Cn.mk k v).may=R:=⟨_,rfl⟩;rw [hR];unfold Cn.may at hR;simp only at hR;have hb:=Blk.new w 30 #[.int .i64 k,.int .i64 v];have hc:=hb.cell;have Hp:=hI ((Kept.refl (fun _=>False) w).alloc (.cells #[.int .i64 k,.int .i64 v] 30));have HR:=hI hR;clear hR hb
 by_cases c0:k=0
 ·have e:R=decide (v=0):=by rw [←HR.out,if_pos (.inl c0)]
  have E:=hI e;have c0':(k == 0)=true:=by simpa using c0
  clear c0 e;go_enter Tryz.func69,Tryz.ntmps69;go_wp2;go_ret;exact cz80
 ·have c0':(k == 0)=false:=by simpa using c0
  by_cases c1:k=1
  ·have e:R=decide (v=0):=by rw [←HR.out,if_pos (.inr (.inl c1))]
   have E:=hI e;have c1':(k == 1)=true:=by simpa using c1
   clear c0 c1 e;go_enter Tryz.func69,Tryz.ntmps69;go_wp2;go_ret;exact cz80
  ·have c1':(k == 1)=false:=by simpa using c1
   by_cases c2:k=2
   ·have e:R=decide (v=0):=by rw [←HR.out,if_pos (.inr (.inr c2))]
    have E:=hI e;have c2':(k == 2)=true:=by simpa using c2
    clear c0 c1 c2 e;go_enter Tryz.func69,Tryz.ntmps69;go_wp2;go_ret;exact cz80
   ·have c2':(k == 2)=false:=by simpa using c2
    have hn:¬(k=0∨k=1∨k=2):=by omega
    by_cases c3:k=3
    ·have e:R=decide (1≤v):=by rw [←HR.out,if_neg hn,if_pos c3]
     have E:=hI e;have c3':(k == 3)=true:=by simpa using c3
     clear c0 c1 c2 c3 e hn;go_enter Tryz.func69,Tryz.ntmps69;go_wp2;go_ret;exact cz80
    ·have e:R=false:=by rw [←HR.out,if_neg hn,if_neg c3]
     have E:=hI e;have c3':(k == 3)=false:=by simpa using c3
     clear c0 c1 c2 c3 e hn;go_enter Tryz.func69,Tryz.ntmps69;go_wp2;go_ret;exact cz80
abbrev eB:ByteArray:=⟨#[]⟩
def strayB (q:Rq):Bool:=decide ((q.kind≠1∧q.tenant≠eB)∨((q.kind=1∨q.kind=10∨q.kind=11)∧q.col≠eB)∨(¬(q.kind=4∨q.kind=5∨q.kind=6)∧q.uid≠eB)∨(q.kind≠4∧q.card≠eB)∨(¬(q.kind=4∨q.kind=5)∧q.cond≠⟨0,0⟩)∨(q.kind≠7∧q.ops≠[])∨(¬(q.kind=8∨q.kind=9)∧q.token≠0)∨(q.kind≠8∧q.most≠0)∨(q.kind≠9∧q.ticks≠0))
def opDel (o:OpR):Bool:=o.del&&decide (o.card≠eB)
def opForm (o:OpR):Bool:=(!o.del && !isC o.card) || !o.cond.may
def chkR (q:Rq):Int :=
 if q.kind<1∨11<q.kind then 12
 else if strayB q=true then 1
 else if q.ops.any opDel=true then 1
 else if (q.kind=1∧nameB q.tenant=false)∨((q.kind≠1∧q.kind≠10∧q.kind≠11)∧nameB q.col=false)∨((q.kind=4∨q.kind=5∨q.kind=6)∧uidB q.uid=false) then 3
 else if q.ops.any (fun o=>!uidB o.uid)=true then 3
 else if (q.kind=4∧isC q.card=false)∨((q.kind=4∨q.kind=5)∧q.cond.may=false) then 1
 else if q.ops.any opForm=true then 1
 else if (q.kind=7∧(q.ops.length<1∨8<q.ops.length))∨q.token<0∨(q.kind=8∧(q.most<1∨1000<q.most))∨q.ticks<0∨1048576<q.ticks then 12
 else 0
structure Rq.Lim (q:Rq):Prop where
 tenant:q.tenant.size≤1000000
 col:q.col.size≤1000000
 uid:q.uid.size≤1000000
 card:q.card.size≤1000000
 len:q.ops.length≤1000
 ops:∀ o∈q.ops,o.uid.size≤1000000∧o.card.size≤1000000
end
section
open Go.RowKit Go.PlainAid
theorem ck_end {q:Rq} {R z:Int} {w W:World} {k:Kn} (HR:Hid (chkR q=R)) (Hp:Hid (Kept (fun _=>False) w W)) (hl:k.lookup 2=some (.int .i64 z)) (h:chkR q=z):KR 287 (bodyPost Tryz.prog Tryz.f20 (IntP R w)) k W :=
 KR.fin1 Tryz.results20 hl ⟨by rw [←HR.out,h],Hp.out⟩
theorem chk_stray {q:Rq} (hk:1≤q.kind∧q.kind≤11) (h:strayB q=true):chkR q=1:=by
 unfold chkR;rw [if_neg (by omega),if_pos h]
theorem chk_flat {q:Rq} (hk:1≤q.kind∧q.kind≤11) (hs:strayB q=false) (ho:q.ops=[]):chkR q =
 if (q.kind=1∧nameB q.tenant=false)∨((q.kind≠1∧q.kind≠10∧q.kind≠11)∧nameB q.col=false)∨((q.kind=4∨q.kind=5∨q.kind=6)∧uidB q.uid=false) then 3
 else if (q.kind=4∧isC q.card=false)∨((q.kind=4∨q.kind=5)∧q.cond.may=false) then 1
 else if q.kind=7∨q.token<0∨(q.kind=8∧(q.most<1∨1000<q.most))∨q.ticks<0∨1048576<q.ticks then 12
 else 0:=by
 unfold chkR;rw [if_neg (by omega),hs,ho]
 simp
theorem ck_1 (tenant col uid card:ByteArray) (ck cv:Int) (ops:List OpR) (token most ticks:Int) (A:Option Addr) (cp:Nat) (w:World) (hl:Rq.Lim ⟨1,tenant,col,uid,card,⟨ck,cv⟩,ops,token,most,ticks⟩) :
  Calls Tryz.prog 20 #[.agg ((Rq.mk 1 tenant col uid card ⟨ck,cv⟩ ops token most ticks).cells A ops.length cp)] w (IntP (chkR ⟨1,tenant,col,uid,card,⟨ck,cv⟩,ops,token,most,ticks⟩) w):=by
 obtain ⟨R,hR⟩:∃ R,chkR ⟨1,tenant,col,uid,card,⟨ck,cv⟩,ops,token,most,ticks⟩=R:=⟨_,rfl⟩;rw [hR];have HR:=hI hR;have hb:=Blk.new w 32 ((Rq.mk 1 tenant col uid card ⟨ck,cv⟩ ops token most ticks).cells A ops.length cp);have hc:=hb.cell;have Hb:=hI hb;have Hp:=hI ((Kept.refl (fun _=>False) w).alloc (.cells ((Rq.mk 1 tenant col uid card ⟨ck,cv⟩ ops token most ticks).cells A ops.length cp) 32))
 have HL:=hI hl;have CN:=hI ref_name;have CU:=hI ref_uid;have CI:=hI ref_isC;have CM:=hI ref_mayCond;obtain ⟨n,hn⟩:∃ n,ops.length=n:=⟨_,rfl⟩;have Hn:=hI hn;rw [hn] at hc Hb Hp ⊢;obtain ⟨b1,hb1⟩:∃ b,(!decide (tenant=(⟨#[]⟩:ByteArray)))=b:=⟨_,rfl⟩;obtain ⟨b2,hb2⟩:∃ b,(!decide (col=(⟨#[]⟩:ByteArray)))=b:=⟨_,rfl⟩;obtain ⟨b3,hb3⟩:∃ b,(!decide (uid=(⟨#[]⟩:ByteArray)))=b:=⟨_,rfl⟩
 obtain ⟨b4,hb4⟩:∃ b,(!decide (card=(⟨#[]⟩:ByteArray)))=b:=⟨_,rfl⟩;obtain ⟨b5,hb5⟩:∃ b,(!decide (ck=0∧cv=0))=b:=⟨_,rfl⟩;obtain ⟨b6,hb6⟩:∃ b,decide ((0:Int)<(n:Int))=b:=⟨_,rfl⟩;obtain ⟨b7,hb7⟩:∃ b,(!decide (token=0))=b:=⟨_,rfl⟩;obtain ⟨b8,hb8⟩:∃ b,(!decide (most=0))=b:=⟨_,rfl⟩;obtain ⟨b9,hb9⟩:∃ b,(!decide (ticks=0))=b:=⟨_,rfl⟩;obtain ⟨n1,hn1⟩:∃ b,nameB tenant=b:=⟨_,rfl⟩;obtain ⟨n2,hn2⟩:∃ b,nameB col=b:=⟨_,rfl⟩
 obtain ⟨n3,hn3⟩:∃ b,uidB uid=b:=⟨_,rfl⟩;obtain ⟨n4,hn4⟩:∃ b,isC card=b:=⟨_,rfl⟩;obtain ⟨n5,hn5⟩:∃ b,(Cn.mk ck cv).may=b:=⟨_,rfl⟩;obtain ⟨r1,hr1⟩:∃ b,decide (token<0)=b:=⟨_,rfl⟩;obtain ⟨r2,hr2⟩:∃ b,decide (most<1)=b:=⟨_,rfl⟩;obtain ⟨r3,hr3⟩:∃ b,decide (1000<most)=b:=⟨_,rfl⟩;obtain ⟨r4,hr4⟩:∃ b,decide (ticks<0)=b:=⟨_,rfl⟩;obtain ⟨r5,hr5⟩:∃ b,decide (1048576<ticks)=b:=⟨_,rfl⟩;clear hR hb hl hn;refine gz27 ?_
 refine gz1 ?_;refine gz10 ?_;generalize w.alloc _=W at *;generalize w.heap.size=g at *;refine gz1 ?_;cases b2;rotate_left
 ·refine gz5 ?_
  refine gz6 ?_;refine ck_end HR Hp rfl (chk_stray (by constructor <;> simp) (by skip <;> simp_all [strayB]))
 refine gz1 ?_;cases b3;rotate_left
 ·refine gz5 ?_
  refine gz6 ?_;refine ck_end HR Hp rfl (chk_stray (by constructor <;> simp) (by skip <;> simp_all [strayB]))
 refine gz1 ?_;cases b4;rotate_left
 ·refine gz5 ?_
  refine gz6 ?_;refine ck_end HR Hp rfl (chk_stray (by constructor <;> simp) (by skip <;> simp_all [strayB]))
 refine gz1 ?_;refine gz23 ?_;refine KL.bop (v:=.bool b5) rfl rfl rfl rfl rfl rfl (by go_simp;subst hb5;by_cases h1:ck=0 <;> by_cases h2:cv=0 <;> simp [h1,h2]) ?_
 cases b5;rotate_left
 ·refine gz5 ?_
  refine gz6 ?_;refine ck_end HR Hp rfl (chk_stray (by constructor <;> simp) (by (by_cases h1:ck=0 <;> by_cases h2:cv=0) <;> simp_all [strayB]))
 refine gz1 ?_;cases b6;rotate_left
 ·refine gz5 ?_
  refine gz6 ?_;refine ck_end HR Hp rfl (chk_stray (by constructor <;> simp) (by (have:=Hn.out;have h6:ops≠[]:=(by rintro rfl;simp_all)) <;> simp_all [strayB]))
 obtain rfl:n=0:=by simpa using hb6
 obtain rfl:ops=[]:=List.length_eq_zero_iff.1 Hn.out;refine gz1 ?_;cases b7;rotate_left
 ·refine gz5 ?_
  refine gz6 ?_;refine ck_end HR Hp rfl (chk_stray (by constructor <;> simp) (by skip <;> simp_all [strayB]))
 obtain rfl:token=0:=by simpa using hb7
 obtain rfl:r1=false:=by rw [←hr1];decide
 refine gz1 ?_;cases b8;rotate_left
 ·refine gz5 ?_
  refine gz6 ?_;refine ck_end HR Hp rfl (chk_stray (by constructor <;> simp) (by skip <;> simp_all [strayB]))
 obtain rfl:most=0:=by simpa using hb8
 clear hr2 hr3;refine gz1 ?_;cases b9;rotate_left
 ·refine gz5 ?_
  refine gz6 ?_;refine ck_end HR Hp rfl (chk_stray (by constructor <;> simp) (by skip <;> simp_all [strayB]))
 obtain rfl:ticks=0:=by simpa using hb9
 obtain rfl:r4=false:=by rw [←hr4];decide
 obtain rfl:r5=false:=by rw [←hr5];decide
 refine gz1 ?_;refine KL.call rfl rfl rfl rfl rfl (by go_simp) (by have:=CN.out tenant W (by have:=HL.out.tenant;unfold maxLen;simp only at this;omega);rw [hn1] at this;exact this) ?_
 rintro e w' ⟨rfl,rfl⟩;refine ⟨_,rfl,?_⟩;cases n1
 ·refine gz0 ?_
  refine ck_end HR Hp rfl (by (rw [chk_flat (by constructor <;> simp) (by simp_all [strayB]) rfl];simp_all))
 refine gz1 ?_;refine gz0 ?_;refine ck_end HR Hp rfl (by (rw [chk_flat (by constructor <;> simp) (by simp_all [strayB]) rfl];simp_all))
theorem ck_2 (tenant col uid card:ByteArray) (ck cv:Int) (ops:List OpR) (token most ticks:Int) (A:Option Addr) (cp:Nat) (w:World) (hl:Rq.Lim ⟨2,tenant,col,uid,card,⟨ck,cv⟩,ops,token,most,ticks⟩) :
  Calls Tryz.prog 20 #[.agg ((Rq.mk 2 tenant col uid card ⟨ck,cv⟩ ops token most ticks).cells A ops.length cp)] w (IntP (chkR ⟨2,tenant,col,uid,card,⟨ck,cv⟩,ops,token,most,ticks⟩) w):=by
 obtain ⟨R,hR⟩:∃ R,chkR ⟨2,tenant,col,uid,card,⟨ck,cv⟩,ops,token,most,ticks⟩=R:=⟨_,rfl⟩;rw [hR];have HR:=hI hR;have hb:=Blk.new w 32 ((Rq.mk 2 tenant col uid card ⟨ck,cv⟩ ops token most ticks).cells A ops.length cp);have hc:=hb.cell;have Hb:=hI hb;have Hp:=hI ((Kept.refl (fun _=>False) w).alloc (.cells ((Rq.mk 2 tenant col uid card ⟨ck,cv⟩ ops token most ticks).cells A ops.length cp) 32))
 have HL:=hI hl;have CN:=hI ref_name;have CU:=hI ref_uid;have CI:=hI ref_isC;have CM:=hI ref_mayCond;obtain ⟨n,hn⟩:∃ n,ops.length=n:=⟨_,rfl⟩;have Hn:=hI hn;rw [hn] at hc Hb Hp ⊢;obtain ⟨b1,hb1⟩:∃ b,(!decide (tenant=(⟨#[]⟩:ByteArray)))=b:=⟨_,rfl⟩;obtain ⟨b2,hb2⟩:∃ b,(!decide (col=(⟨#[]⟩:ByteArray)))=b:=⟨_,rfl⟩;obtain ⟨b3,hb3⟩:∃ b,(!decide (uid=(⟨#[]⟩:ByteArray)))=b:=⟨_,rfl⟩
 obtain ⟨b4,hb4⟩:∃ b,(!decide (card=(⟨#[]⟩:ByteArray)))=b:=⟨_,rfl⟩;obtain ⟨b5,hb5⟩:∃ b,(!decide (ck=0∧cv=0))=b:=⟨_,rfl⟩;obtain ⟨b6,hb6⟩:∃ b,decide ((0:Int)<(n:Int))=b:=⟨_,rfl⟩;obtain ⟨b7,hb7⟩:∃ b,(!decide (token=0))=b:=⟨_,rfl⟩;obtain ⟨b8,hb8⟩:∃ b,(!decide (most=0))=b:=⟨_,rfl⟩;obtain ⟨b9,hb9⟩:∃ b,(!decide (ticks=0))=b:=⟨_,rfl⟩;obtain ⟨n1,hn1⟩:∃ b,nameB tenant=b:=⟨_,rfl⟩;obtain ⟨n2,hn2⟩:∃ b,nameB col=b:=⟨_,rfl⟩
 obtain ⟨n3,hn3⟩:∃ b,uidB uid=b:=⟨_,rfl⟩;obtain ⟨n4,hn4⟩:∃ b,isC card=b:=⟨_,rfl⟩;obtain ⟨n5,hn5⟩:∃ b,(Cn.mk ck cv).may=b:=⟨_,rfl⟩;obtain ⟨r1,hr1⟩:∃ b,decide (token<0)=b:=⟨_,rfl⟩;obtain ⟨r2,hr2⟩:∃ b,decide (most<1)=b:=⟨_,rfl⟩;obtain ⟨r3,hr3⟩:∃ b,decide (1000<most)=b:=⟨_,rfl⟩;obtain ⟨r4,hr4⟩:∃ b,decide (ticks<0)=b:=⟨_,rfl⟩;obtain ⟨r5,hr5⟩:∃ b,decide (1048576<ticks)=b:=⟨_,rfl⟩;clear hR hb hl hn;refine gz27 ?_
 refine gz1 ?_;refine gz10 ?_;generalize w.alloc _=W at *;generalize w.heap.size=g at *;refine gz1 ?_;cases b1;rotate_left
 ·refine gz5 ?_
  refine gz6 ?_;refine ck_end HR Hp rfl (chk_stray (by constructor <;> simp) (by skip <;> simp_all [strayB]))
 refine gz1 ?_;cases b3;rotate_left
 ·refine gz5 ?_
  refine gz6 ?_;refine ck_end HR Hp rfl (chk_stray (by constructor <;> simp) (by skip <;> simp_all [strayB]))
 refine gz1 ?_;cases b4;rotate_left
 ·refine gz5 ?_
  refine gz6 ?_;refine ck_end HR Hp rfl (chk_stray (by constructor <;> simp) (by skip <;> simp_all [strayB]))
 refine gz1 ?_;refine gz23 ?_;refine KL.bop (v:=.bool b5) rfl rfl rfl rfl rfl rfl (by go_simp;subst hb5;by_cases h1:ck=0 <;> by_cases h2:cv=0 <;> simp [h1,h2]) ?_
 cases b5;rotate_left
 ·refine gz5 ?_
  refine gz6 ?_;refine ck_end HR Hp rfl (chk_stray (by constructor <;> simp) (by (by_cases h1:ck=0 <;> by_cases h2:cv=0) <;> simp_all [strayB]))
 refine gz1 ?_;cases b6;rotate_left
 ·refine gz5 ?_
  refine gz6 ?_;refine ck_end HR Hp rfl (chk_stray (by constructor <;> simp) (by (have:=Hn.out;have h6:ops≠[]:=(by rintro rfl;simp_all)) <;> simp_all [strayB]))
 obtain rfl:n=0:=by simpa using hb6
 obtain rfl:ops=[]:=List.length_eq_zero_iff.1 Hn.out;refine gz1 ?_;cases b7;rotate_left
 ·refine gz5 ?_
  refine gz6 ?_;refine ck_end HR Hp rfl (chk_stray (by constructor <;> simp) (by skip <;> simp_all [strayB]))
 obtain rfl:token=0:=by simpa using hb7
 obtain rfl:r1=false:=by rw [←hr1];decide
 refine gz1 ?_;cases b8;rotate_left
 ·refine gz5 ?_
  refine gz6 ?_;refine ck_end HR Hp rfl (chk_stray (by constructor <;> simp) (by skip <;> simp_all [strayB]))
 obtain rfl:most=0:=by simpa using hb8
 clear hr2 hr3;refine gz1 ?_;cases b9;rotate_left
 ·refine gz5 ?_
  refine gz6 ?_;refine ck_end HR Hp rfl (chk_stray (by constructor <;> simp) (by skip <;> simp_all [strayB]))
 obtain rfl:ticks=0:=by simpa using hb9
 obtain rfl:r4=false:=by rw [←hr4];decide
 obtain rfl:r5=false:=by rw [←hr5];decide
 refine gz1 ?_;refine gz20 ?_;rintro e w' ⟨rfl,rfl⟩;refine ⟨_,rfl,?_⟩;cases n2
 ·refine gz0 ?_
  refine ck_end HR Hp rfl (by (rw [chk_flat (by constructor <;> simp) (by simp_all [strayB]) rfl];simp_all))
 refine gz1 ?_;refine gz0 ?_;refine ck_end HR Hp rfl (by (rw [chk_flat (by constructor <;> simp) (by simp_all [strayB]) rfl];simp_all))
theorem ck_3 (tenant col uid card:ByteArray) (ck cv:Int) (ops:List OpR) (token most ticks:Int) (A:Option Addr) (cp:Nat) (w:World) (hl:Rq.Lim ⟨3,tenant,col,uid,card,⟨ck,cv⟩,ops,token,most,ticks⟩) :
  Calls Tryz.prog 20 #[.agg ((Rq.mk 3 tenant col uid card ⟨ck,cv⟩ ops token most ticks).cells A ops.length cp)] w (IntP (chkR ⟨3,tenant,col,uid,card,⟨ck,cv⟩,ops,token,most,ticks⟩) w):=by
 obtain ⟨R,hR⟩:∃ R,chkR ⟨3,tenant,col,uid,card,⟨ck,cv⟩,ops,token,most,ticks⟩=R:=⟨_,rfl⟩;rw [hR];have HR:=hI hR;have hb:=Blk.new w 32 ((Rq.mk 3 tenant col uid card ⟨ck,cv⟩ ops token most ticks).cells A ops.length cp);have hc:=hb.cell;have Hb:=hI hb;have Hp:=hI ((Kept.refl (fun _=>False) w).alloc (.cells ((Rq.mk 3 tenant col uid card ⟨ck,cv⟩ ops token most ticks).cells A ops.length cp) 32))
 have HL:=hI hl;have CN:=hI ref_name;have CU:=hI ref_uid;have CI:=hI ref_isC;have CM:=hI ref_mayCond;obtain ⟨n,hn⟩:∃ n,ops.length=n:=⟨_,rfl⟩;have Hn:=hI hn;rw [hn] at hc Hb Hp ⊢;obtain ⟨b1,hb1⟩:∃ b,(!decide (tenant=(⟨#[]⟩:ByteArray)))=b:=⟨_,rfl⟩;obtain ⟨b2,hb2⟩:∃ b,(!decide (col=(⟨#[]⟩:ByteArray)))=b:=⟨_,rfl⟩;obtain ⟨b3,hb3⟩:∃ b,(!decide (uid=(⟨#[]⟩:ByteArray)))=b:=⟨_,rfl⟩
 obtain ⟨b4,hb4⟩:∃ b,(!decide (card=(⟨#[]⟩:ByteArray)))=b:=⟨_,rfl⟩;obtain ⟨b5,hb5⟩:∃ b,(!decide (ck=0∧cv=0))=b:=⟨_,rfl⟩;obtain ⟨b6,hb6⟩:∃ b,decide ((0:Int)<(n:Int))=b:=⟨_,rfl⟩;obtain ⟨b7,hb7⟩:∃ b,(!decide (token=0))=b:=⟨_,rfl⟩;obtain ⟨b8,hb8⟩:∃ b,(!decide (most=0))=b:=⟨_,rfl⟩;obtain ⟨b9,hb9⟩:∃ b,(!decide (ticks=0))=b:=⟨_,rfl⟩;obtain ⟨n1,hn1⟩:∃ b,nameB tenant=b:=⟨_,rfl⟩;obtain ⟨n2,hn2⟩:∃ b,nameB col=b:=⟨_,rfl⟩
 obtain ⟨n3,hn3⟩:∃ b,uidB uid=b:=⟨_,rfl⟩;obtain ⟨n4,hn4⟩:∃ b,isC card=b:=⟨_,rfl⟩;obtain ⟨n5,hn5⟩:∃ b,(Cn.mk ck cv).may=b:=⟨_,rfl⟩;obtain ⟨r1,hr1⟩:∃ b,decide (token<0)=b:=⟨_,rfl⟩;obtain ⟨r2,hr2⟩:∃ b,decide (most<1)=b:=⟨_,rfl⟩;obtain ⟨r3,hr3⟩:∃ b,decide (1000<most)=b:=⟨_,rfl⟩;obtain ⟨r4,hr4⟩:∃ b,decide (ticks<0)=b:=⟨_,rfl⟩;obtain ⟨r5,hr5⟩:∃ b,decide (1048576<ticks)=b:=⟨_,rfl⟩;clear hR hb hl hn;refine gz27 ?_
 refine gz1 ?_;refine gz10 ?_;generalize w.alloc _=W at *;generalize w.heap.size=g at *;refine gz1 ?_;cases b1;rotate_left
 ·refine gz5 ?_
  refine gz6 ?_;refine ck_end HR Hp rfl (chk_stray (by constructor <;> simp) (by skip <;> simp_all [strayB]))
 refine gz1 ?_;cases b3;rotate_left
 ·refine gz5 ?_
  refine gz6 ?_;refine ck_end HR Hp rfl (chk_stray (by constructor <;> simp) (by skip <;> simp_all [strayB]))
 refine gz1 ?_;cases b4;rotate_left
 ·refine gz5 ?_
  refine gz6 ?_;refine ck_end HR Hp rfl (chk_stray (by constructor <;> simp) (by skip <;> simp_all [strayB]))
 refine gz1 ?_;refine gz23 ?_;refine KL.bop (v:=.bool b5) rfl rfl rfl rfl rfl rfl (by go_simp;subst hb5;by_cases h1:ck=0 <;> by_cases h2:cv=0 <;> simp [h1,h2]) ?_
 cases b5;rotate_left
 ·refine gz5 ?_
  refine gz6 ?_;refine ck_end HR Hp rfl (chk_stray (by constructor <;> simp) (by (by_cases h1:ck=0 <;> by_cases h2:cv=0) <;> simp_all [strayB]))
 refine gz1 ?_;cases b6;rotate_left
 ·refine gz5 ?_
  refine gz6 ?_;refine ck_end HR Hp rfl (chk_stray (by constructor <;> simp) (by (have:=Hn.out;have h6:ops≠[]:=(by rintro rfl;simp_all)) <;> simp_all [strayB]))
 obtain rfl:n=0:=by simpa using hb6
 obtain rfl:ops=[]:=List.length_eq_zero_iff.1 Hn.out;refine gz1 ?_;cases b7;rotate_left
 ·refine gz5 ?_
  refine gz6 ?_;refine ck_end HR Hp rfl (chk_stray (by constructor <;> simp) (by skip <;> simp_all [strayB]))
 obtain rfl:token=0:=by simpa using hb7
 obtain rfl:r1=false:=by rw [←hr1];decide
 refine gz1 ?_;cases b8;rotate_left
 ·refine gz5 ?_
  refine gz6 ?_;refine ck_end HR Hp rfl (chk_stray (by constructor <;> simp) (by skip <;> simp_all [strayB]))
 obtain rfl:most=0:=by simpa using hb8
 clear hr2 hr3;refine gz1 ?_;cases b9;rotate_left
 ·refine gz5 ?_
  refine gz6 ?_;refine ck_end HR Hp rfl (chk_stray (by constructor <;> simp) (by skip <;> simp_all [strayB]))
 obtain rfl:ticks=0:=by simpa using hb9
 obtain rfl:r4=false:=by rw [←hr4];decide
 obtain rfl:r5=false:=by rw [←hr5];decide
 refine gz1 ?_;refine gz20 ?_;rintro e w' ⟨rfl,rfl⟩;refine ⟨_,rfl,?_⟩;cases n2
 ·refine gz0 ?_
  refine ck_end HR Hp rfl (by (rw [chk_flat (by constructor <;> simp) (by simp_all [strayB]) rfl];simp_all))
 refine gz1 ?_;refine gz0 ?_;refine ck_end HR Hp rfl (by (rw [chk_flat (by constructor <;> simp) (by simp_all [strayB]) rfl];simp_all))
end
section
open Go.RowKit Go.PlainAid
theorem ck_4 (tenant col uid card:ByteArray) (ck cv:Int) (ops:List OpR) (token most ticks:Int) (A:Option Addr) (cp:Nat) (w:World) (hl:Rq.Lim ⟨4,tenant,col,uid,card,⟨ck,cv⟩,ops,token,most,ticks⟩) :
  Calls Tryz.prog 20 #[.agg ((Rq.mk 4 tenant col uid card ⟨ck,cv⟩ ops token most ticks).cells A ops.length cp)] w (IntP (chkR ⟨4,tenant,col,uid,card,⟨ck,cv⟩,ops,token,most,ticks⟩) w):=by
 obtain ⟨R,hR⟩:∃ R,chkR ⟨4,tenant,col,uid,card,⟨ck,cv⟩,ops,token,most,ticks⟩=R:=⟨_,rfl⟩;rw [hR];have HR:=hI hR;have hb:=Blk.new w 32 ((Rq.mk 4 tenant col uid card ⟨ck,cv⟩ ops token most ticks).cells A ops.length cp);have hc:=hb.cell;have Hb:=hI hb;have Hp:=hI ((Kept.refl (fun _=>False) w).alloc (.cells ((Rq.mk 4 tenant col uid card ⟨ck,cv⟩ ops token most ticks).cells A ops.length cp) 32))
 have HL:=hI hl;have CN:=hI ref_name;have CU:=hI ref_uid;have CI:=hI ref_isC;have CM:=hI ref_mayCond;obtain ⟨n,hn⟩:∃ n,ops.length=n:=⟨_,rfl⟩;have Hn:=hI hn;rw [hn] at hc Hb Hp ⊢;obtain ⟨b1,hb1⟩:∃ b,(!decide (tenant=(⟨#[]⟩:ByteArray)))=b:=⟨_,rfl⟩;obtain ⟨b2,hb2⟩:∃ b,(!decide (col=(⟨#[]⟩:ByteArray)))=b:=⟨_,rfl⟩;obtain ⟨b3,hb3⟩:∃ b,(!decide (uid=(⟨#[]⟩:ByteArray)))=b:=⟨_,rfl⟩
 obtain ⟨b4,hb4⟩:∃ b,(!decide (card=(⟨#[]⟩:ByteArray)))=b:=⟨_,rfl⟩;obtain ⟨b5,hb5⟩:∃ b,(!decide (ck=0∧cv=0))=b:=⟨_,rfl⟩;obtain ⟨b6,hb6⟩:∃ b,decide ((0:Int)<(n:Int))=b:=⟨_,rfl⟩;obtain ⟨b7,hb7⟩:∃ b,(!decide (token=0))=b:=⟨_,rfl⟩;obtain ⟨b8,hb8⟩:∃ b,(!decide (most=0))=b:=⟨_,rfl⟩;obtain ⟨b9,hb9⟩:∃ b,(!decide (ticks=0))=b:=⟨_,rfl⟩;obtain ⟨n1,hn1⟩:∃ b,nameB tenant=b:=⟨_,rfl⟩;obtain ⟨n2,hn2⟩:∃ b,nameB col=b:=⟨_,rfl⟩
 obtain ⟨n3,hn3⟩:∃ b,uidB uid=b:=⟨_,rfl⟩;obtain ⟨n4,hn4⟩:∃ b,isC card=b:=⟨_,rfl⟩;obtain ⟨n5,hn5⟩:∃ b,(Cn.mk ck cv).may=b:=⟨_,rfl⟩;obtain ⟨r1,hr1⟩:∃ b,decide (token<0)=b:=⟨_,rfl⟩;obtain ⟨r2,hr2⟩:∃ b,decide (most<1)=b:=⟨_,rfl⟩;obtain ⟨r3,hr3⟩:∃ b,decide (1000<most)=b:=⟨_,rfl⟩;obtain ⟨r4,hr4⟩:∃ b,decide (ticks<0)=b:=⟨_,rfl⟩;obtain ⟨r5,hr5⟩:∃ b,decide (1048576<ticks)=b:=⟨_,rfl⟩;clear hR hb hl hn;refine gz27 ?_
 refine gz1 ?_;refine gz10 ?_;generalize w.alloc _=W at *;generalize w.heap.size=g at *;refine gz1 ?_;cases b1;rotate_left
 ·refine gz5 ?_
  refine gz6 ?_;refine ck_end HR Hp rfl (chk_stray (by constructor <;> simp) (by skip <;> simp_all [strayB]))
 refine gz1 ?_;cases b6;rotate_left
 ·refine gz5 ?_
  refine gz6 ?_;refine ck_end HR Hp rfl (chk_stray (by constructor <;> simp) (by (have:=Hn.out;have h6:ops≠[]:=(by rintro rfl;simp_all)) <;> simp_all [strayB]))
 obtain rfl:n=0:=by simpa using hb6
 obtain rfl:ops=[]:=List.length_eq_zero_iff.1 Hn.out;refine gz1 ?_;cases b7;rotate_left
 ·refine gz5 ?_
  refine gz6 ?_;refine ck_end HR Hp rfl (chk_stray (by constructor <;> simp) (by skip <;> simp_all [strayB]))
 obtain rfl:token=0:=by simpa using hb7
 obtain rfl:r1=false:=by rw [←hr1];decide
 refine gz1 ?_;cases b8;rotate_left
 ·refine gz5 ?_
  refine gz6 ?_;refine ck_end HR Hp rfl (chk_stray (by constructor <;> simp) (by skip <;> simp_all [strayB]))
 obtain rfl:most=0:=by simpa using hb8
 clear hr2 hr3;refine gz1 ?_;cases b9;rotate_left
 ·refine gz5 ?_
  refine gz6 ?_;refine ck_end HR Hp rfl (chk_stray (by constructor <;> simp) (by skip <;> simp_all [strayB]))
 obtain rfl:ticks=0:=by simpa using hb9
 obtain rfl:r4=false:=by rw [←hr4];decide
 obtain rfl:r5=false:=by rw [←hr5];decide
 refine gz1 ?_;refine gz20 ?_;rintro e w' ⟨rfl,rfl⟩;refine ⟨_,rfl,?_⟩;cases n2
 ·refine gz0 ?_
  refine ck_end HR Hp rfl (by (rw [chk_flat (by constructor <;> simp) (by simp_all [strayB]) rfl];simp_all))
 refine gz1 ?_;refine gz40 ?_;rintro e w' ⟨rfl,rfl⟩;refine ⟨_,rfl,?_⟩;cases n3
 ·refine gz0 ?_
  refine ck_end HR Hp rfl (by (rw [chk_flat (by constructor <;> simp) (by simp_all [strayB]) rfl];simp_all))
 refine gz1 ?_;refine KL.call rfl rfl rfl rfl rfl (by go_simp) (by have:=CI.out card W (by have:=HL.out.card;simp only at this;omega);rw [hn4] at this;exact this) ?_
 rintro e w2 ⟨rfl,hk⟩;refine ⟨_,rfl,?_⟩;have hb2:=Hb.out.kept hk (fun h=>h);replace Hb:=hI hb2;replace Hp:=hI (Hp.out.same hk);replace hc:=hb2.cell;clear hb2 hk;cases n4
 ·refine gz0 ?_
  refine ck_end HR Hp rfl (by (rw [chk_flat (by constructor <;> simp) (by simp_all [strayB]) rfl];simp_all))
 refine gz1 ?_;refine KL.call rfl rfl rfl rfl rfl (by go_simp) (by have:=CM.out ck cv w2;rw [hn5] at this;exact this) ?_
 rintro e w2 ⟨rfl,hk⟩;refine ⟨_,rfl,?_⟩;have hb2:=Hb.out.kept hk (fun h=>h);replace Hb:=hI hb2;replace Hp:=hI (Hp.out.same hk);replace hc:=hb2.cell;clear hb2 hk;cases n5
 ·refine gz0 ?_
  refine ck_end HR Hp rfl (by (rw [chk_flat (by constructor <;> simp) (by simp_all [strayB]) rfl];simp_all))
 refine gz1 ?_;refine gz0 ?_;refine ck_end HR Hp rfl (by (rw [chk_flat (by constructor <;> simp) (by simp_all [strayB]) rfl];simp_all))
theorem ck_5 (tenant col uid card:ByteArray) (ck cv:Int) (ops:List OpR) (token most ticks:Int) (A:Option Addr) (cp:Nat) (w:World) (hl:Rq.Lim ⟨5,tenant,col,uid,card,⟨ck,cv⟩,ops,token,most,ticks⟩) :
  Calls Tryz.prog 20 #[.agg ((Rq.mk 5 tenant col uid card ⟨ck,cv⟩ ops token most ticks).cells A ops.length cp)] w (IntP (chkR ⟨5,tenant,col,uid,card,⟨ck,cv⟩,ops,token,most,ticks⟩) w):=by
 obtain ⟨R,hR⟩:∃ R,chkR ⟨5,tenant,col,uid,card,⟨ck,cv⟩,ops,token,most,ticks⟩=R:=⟨_,rfl⟩;rw [hR];have HR:=hI hR;have hb:=Blk.new w 32 ((Rq.mk 5 tenant col uid card ⟨ck,cv⟩ ops token most ticks).cells A ops.length cp);have hc:=hb.cell;have Hb:=hI hb;have Hp:=hI ((Kept.refl (fun _=>False) w).alloc (.cells ((Rq.mk 5 tenant col uid card ⟨ck,cv⟩ ops token most ticks).cells A ops.length cp) 32))
 have HL:=hI hl;have CN:=hI ref_name;have CU:=hI ref_uid;have CI:=hI ref_isC;have CM:=hI ref_mayCond;obtain ⟨n,hn⟩:∃ n,ops.length=n:=⟨_,rfl⟩;have Hn:=hI hn;rw [hn] at hc Hb Hp ⊢;obtain ⟨b1,hb1⟩:∃ b,(!decide (tenant=(⟨#[]⟩:ByteArray)))=b:=⟨_,rfl⟩;obtain ⟨b2,hb2⟩:∃ b,(!decide (col=(⟨#[]⟩:ByteArray)))=b:=⟨_,rfl⟩;obtain ⟨b3,hb3⟩:∃ b,(!decide (uid=(⟨#[]⟩:ByteArray)))=b:=⟨_,rfl⟩
 obtain ⟨b4,hb4⟩:∃ b,(!decide (card=(⟨#[]⟩:ByteArray)))=b:=⟨_,rfl⟩;obtain ⟨b5,hb5⟩:∃ b,(!decide (ck=0∧cv=0))=b:=⟨_,rfl⟩;obtain ⟨b6,hb6⟩:∃ b,decide ((0:Int)<(n:Int))=b:=⟨_,rfl⟩;obtain ⟨b7,hb7⟩:∃ b,(!decide (token=0))=b:=⟨_,rfl⟩;obtain ⟨b8,hb8⟩:∃ b,(!decide (most=0))=b:=⟨_,rfl⟩;obtain ⟨b9,hb9⟩:∃ b,(!decide (ticks=0))=b:=⟨_,rfl⟩;obtain ⟨n1,hn1⟩:∃ b,nameB tenant=b:=⟨_,rfl⟩;obtain ⟨n2,hn2⟩:∃ b,nameB col=b:=⟨_,rfl⟩
 obtain ⟨n3,hn3⟩:∃ b,uidB uid=b:=⟨_,rfl⟩;obtain ⟨n4,hn4⟩:∃ b,isC card=b:=⟨_,rfl⟩;obtain ⟨n5,hn5⟩:∃ b,(Cn.mk ck cv).may=b:=⟨_,rfl⟩;obtain ⟨r1,hr1⟩:∃ b,decide (token<0)=b:=⟨_,rfl⟩;obtain ⟨r2,hr2⟩:∃ b,decide (most<1)=b:=⟨_,rfl⟩;obtain ⟨r3,hr3⟩:∃ b,decide (1000<most)=b:=⟨_,rfl⟩;obtain ⟨r4,hr4⟩:∃ b,decide (ticks<0)=b:=⟨_,rfl⟩;obtain ⟨r5,hr5⟩:∃ b,decide (1048576<ticks)=b:=⟨_,rfl⟩;clear hR hb hl hn;refine gz27 ?_
 refine gz1 ?_;refine gz10 ?_;generalize w.alloc _=W at *;generalize w.heap.size=g at *;refine gz1 ?_;cases b1;rotate_left
 ·refine gz5 ?_
  refine gz6 ?_;refine ck_end HR Hp rfl (chk_stray (by constructor <;> simp) (by skip <;> simp_all [strayB]))
 refine gz1 ?_;cases b4;rotate_left
 ·refine gz5 ?_
  refine gz6 ?_;refine ck_end HR Hp rfl (chk_stray (by constructor <;> simp) (by skip <;> simp_all [strayB]))
 refine gz1 ?_;cases b6;rotate_left
 ·refine gz5 ?_
  refine gz6 ?_;refine ck_end HR Hp rfl (chk_stray (by constructor <;> simp) (by (have:=Hn.out;have h6:ops≠[]:=(by rintro rfl;simp_all)) <;> simp_all [strayB]))
 obtain rfl:n=0:=by simpa using hb6
 obtain rfl:ops=[]:=List.length_eq_zero_iff.1 Hn.out;refine gz1 ?_;cases b7;rotate_left
 ·refine gz5 ?_
  refine gz6 ?_;refine ck_end HR Hp rfl (chk_stray (by constructor <;> simp) (by skip <;> simp_all [strayB]))
 obtain rfl:token=0:=by simpa using hb7
 obtain rfl:r1=false:=by rw [←hr1];decide
 refine gz1 ?_;cases b8;rotate_left
 ·refine gz5 ?_
  refine gz6 ?_;refine ck_end HR Hp rfl (chk_stray (by constructor <;> simp) (by skip <;> simp_all [strayB]))
 obtain rfl:most=0:=by simpa using hb8
 clear hr2 hr3;refine gz1 ?_;cases b9;rotate_left
 ·refine gz5 ?_
  refine gz6 ?_;refine ck_end HR Hp rfl (chk_stray (by constructor <;> simp) (by skip <;> simp_all [strayB]))
 obtain rfl:ticks=0:=by simpa using hb9
 obtain rfl:r4=false:=by rw [←hr4];decide
 obtain rfl:r5=false:=by rw [←hr5];decide
 refine gz1 ?_;refine gz20 ?_;rintro e w' ⟨rfl,rfl⟩;refine ⟨_,rfl,?_⟩;cases n2
 ·refine gz0 ?_
  refine ck_end HR Hp rfl (by (rw [chk_flat (by constructor <;> simp) (by simp_all [strayB]) rfl];simp_all))
 refine gz1 ?_;refine gz40 ?_;rintro e w' ⟨rfl,rfl⟩;refine ⟨_,rfl,?_⟩;cases n3
 ·refine gz0 ?_
  refine ck_end HR Hp rfl (by (rw [chk_flat (by constructor <;> simp) (by simp_all [strayB]) rfl];simp_all))
 refine gz1 ?_;refine KL.call rfl rfl rfl rfl rfl (by go_simp) (by have:=CM.out ck cv W;rw [hn5] at this;exact this) ?_
 rintro e w2 ⟨rfl,hk⟩;refine ⟨_,rfl,?_⟩;have hb2:=Hb.out.kept hk (fun h=>h);replace Hb:=hI hb2;replace Hp:=hI (Hp.out.same hk);replace hc:=hb2.cell;clear hb2 hk;cases n5
 ·refine gz0 ?_
  refine ck_end HR Hp rfl (by (rw [chk_flat (by constructor <;> simp) (by simp_all [strayB]) rfl];simp_all))
 refine gz1 ?_;refine gz0 ?_;refine ck_end HR Hp rfl (by (rw [chk_flat (by constructor <;> simp) (by simp_all [strayB]) rfl];simp_all))
theorem ck_6 (tenant col uid card:ByteArray) (ck cv:Int) (ops:List OpR) (token most ticks:Int) (A:Option Addr) (cp:Nat) (w:World) (hl:Rq.Lim ⟨6,tenant,col,uid,card,⟨ck,cv⟩,ops,token,most,ticks⟩) :
  Calls Tryz.prog 20 #[.agg ((Rq.mk 6 tenant col uid card ⟨ck,cv⟩ ops token most ticks).cells A ops.length cp)] w (IntP (chkR ⟨6,tenant,col,uid,card,⟨ck,cv⟩,ops,token,most,ticks⟩) w):=by
 obtain ⟨R,hR⟩:∃ R,chkR ⟨6,tenant,col,uid,card,⟨ck,cv⟩,ops,token,most,ticks⟩=R:=⟨_,rfl⟩;rw [hR];have HR:=hI hR;have hb:=Blk.new w 32 ((Rq.mk 6 tenant col uid card ⟨ck,cv⟩ ops token most ticks).cells A ops.length cp);have hc:=hb.cell;have Hb:=hI hb;have Hp:=hI ((Kept.refl (fun _=>False) w).alloc (.cells ((Rq.mk 6 tenant col uid card ⟨ck,cv⟩ ops token most ticks).cells A ops.length cp) 32))
 have HL:=hI hl;have CN:=hI ref_name;have CU:=hI ref_uid;have CI:=hI ref_isC;have CM:=hI ref_mayCond;obtain ⟨n,hn⟩:∃ n,ops.length=n:=⟨_,rfl⟩;have Hn:=hI hn;rw [hn] at hc Hb Hp ⊢;obtain ⟨b1,hb1⟩:∃ b,(!decide (tenant=(⟨#[]⟩:ByteArray)))=b:=⟨_,rfl⟩;obtain ⟨b2,hb2⟩:∃ b,(!decide (col=(⟨#[]⟩:ByteArray)))=b:=⟨_,rfl⟩;obtain ⟨b3,hb3⟩:∃ b,(!decide (uid=(⟨#[]⟩:ByteArray)))=b:=⟨_,rfl⟩
 obtain ⟨b4,hb4⟩:∃ b,(!decide (card=(⟨#[]⟩:ByteArray)))=b:=⟨_,rfl⟩;obtain ⟨b5,hb5⟩:∃ b,(!decide (ck=0∧cv=0))=b:=⟨_,rfl⟩;obtain ⟨b6,hb6⟩:∃ b,decide ((0:Int)<(n:Int))=b:=⟨_,rfl⟩;obtain ⟨b7,hb7⟩:∃ b,(!decide (token=0))=b:=⟨_,rfl⟩;obtain ⟨b8,hb8⟩:∃ b,(!decide (most=0))=b:=⟨_,rfl⟩;obtain ⟨b9,hb9⟩:∃ b,(!decide (ticks=0))=b:=⟨_,rfl⟩;obtain ⟨n1,hn1⟩:∃ b,nameB tenant=b:=⟨_,rfl⟩;obtain ⟨n2,hn2⟩:∃ b,nameB col=b:=⟨_,rfl⟩
 obtain ⟨n3,hn3⟩:∃ b,uidB uid=b:=⟨_,rfl⟩;obtain ⟨n4,hn4⟩:∃ b,isC card=b:=⟨_,rfl⟩;obtain ⟨n5,hn5⟩:∃ b,(Cn.mk ck cv).may=b:=⟨_,rfl⟩;obtain ⟨r1,hr1⟩:∃ b,decide (token<0)=b:=⟨_,rfl⟩;obtain ⟨r2,hr2⟩:∃ b,decide (most<1)=b:=⟨_,rfl⟩;obtain ⟨r3,hr3⟩:∃ b,decide (1000<most)=b:=⟨_,rfl⟩;obtain ⟨r4,hr4⟩:∃ b,decide (ticks<0)=b:=⟨_,rfl⟩;obtain ⟨r5,hr5⟩:∃ b,decide (1048576<ticks)=b:=⟨_,rfl⟩;clear hR hb hl hn;refine gz27 ?_
 refine gz1 ?_;refine gz10 ?_;generalize w.alloc _=W at *;generalize w.heap.size=g at *;refine gz1 ?_;cases b1;rotate_left
 ·refine gz5 ?_
  refine gz6 ?_;refine ck_end HR Hp rfl (chk_stray (by constructor <;> simp) (by skip <;> simp_all [strayB]))
 refine gz1 ?_;cases b4;rotate_left
 ·refine gz5 ?_
  refine gz6 ?_;refine ck_end HR Hp rfl (chk_stray (by constructor <;> simp) (by skip <;> simp_all [strayB]))
 refine gz1 ?_;refine gz23 ?_;refine KL.bop (v:=.bool b5) rfl rfl rfl rfl rfl rfl (by go_simp;subst hb5;by_cases h1:ck=0 <;> by_cases h2:cv=0 <;> simp [h1,h2]) ?_
 cases b5;rotate_left
 ·refine gz5 ?_
  refine gz6 ?_;refine ck_end HR Hp rfl (chk_stray (by constructor <;> simp) (by (by_cases h1:ck=0 <;> by_cases h2:cv=0) <;> simp_all [strayB]))
 refine gz1 ?_;cases b6;rotate_left
 ·refine gz5 ?_
  refine gz6 ?_;refine ck_end HR Hp rfl (chk_stray (by constructor <;> simp) (by (have:=Hn.out;have h6:ops≠[]:=(by rintro rfl;simp_all)) <;> simp_all [strayB]))
 obtain rfl:n=0:=by simpa using hb6
 obtain rfl:ops=[]:=List.length_eq_zero_iff.1 Hn.out;refine gz1 ?_;cases b7;rotate_left
 ·refine gz5 ?_
  refine gz6 ?_;refine ck_end HR Hp rfl (chk_stray (by constructor <;> simp) (by skip <;> simp_all [strayB]))
 obtain rfl:token=0:=by simpa using hb7
 obtain rfl:r1=false:=by rw [←hr1];decide
 refine gz1 ?_;cases b8;rotate_left
 ·refine gz5 ?_
  refine gz6 ?_;refine ck_end HR Hp rfl (chk_stray (by constructor <;> simp) (by skip <;> simp_all [strayB]))
 obtain rfl:most=0:=by simpa using hb8
 clear hr2 hr3;refine gz1 ?_;cases b9;rotate_left
 ·refine gz5 ?_
  refine gz6 ?_;refine ck_end HR Hp rfl (chk_stray (by constructor <;> simp) (by skip <;> simp_all [strayB]))
 obtain rfl:ticks=0:=by simpa using hb9
 obtain rfl:r4=false:=by rw [←hr4];decide
 obtain rfl:r5=false:=by rw [←hr5];decide
 refine gz1 ?_;refine gz20 ?_;rintro e w' ⟨rfl,rfl⟩;refine ⟨_,rfl,?_⟩;cases n2
 ·refine gz0 ?_
  refine ck_end HR Hp rfl (by (rw [chk_flat (by constructor <;> simp) (by simp_all [strayB]) rfl];simp_all))
 refine gz1 ?_;refine gz40 ?_;rintro e w' ⟨rfl,rfl⟩;refine ⟨_,rfl,?_⟩;cases n3
 ·refine gz0 ?_
  refine ck_end HR Hp rfl (by (rw [chk_flat (by constructor <;> simp) (by simp_all [strayB]) rfl];simp_all))
 refine gz1 ?_;refine gz0 ?_;refine ck_end HR Hp rfl (by (rw [chk_flat (by constructor <;> simp) (by simp_all [strayB]) rfl];simp_all))
end
section
open Go.RowKit Go.PlainAid
theorem ck_8 (tenant col uid card:ByteArray) (ck cv:Int) (ops:List OpR) (token most ticks:Int) (A:Option Addr) (cp:Nat) (w:World) (hl:Rq.Lim ⟨8,tenant,col,uid,card,⟨ck,cv⟩,ops,token,most,ticks⟩) :
  Calls Tryz.prog 20 #[.agg ((Rq.mk 8 tenant col uid card ⟨ck,cv⟩ ops token most ticks).cells A ops.length cp)] w (IntP (chkR ⟨8,tenant,col,uid,card,⟨ck,cv⟩,ops,token,most,ticks⟩) w):=by
 obtain ⟨R,hR⟩:∃ R,chkR ⟨8,tenant,col,uid,card,⟨ck,cv⟩,ops,token,most,ticks⟩=R:=⟨_,rfl⟩;rw [hR];have HR:=hI hR;have hb:=Blk.new w 32 ((Rq.mk 8 tenant col uid card ⟨ck,cv⟩ ops token most ticks).cells A ops.length cp);have hc:=hb.cell;have Hb:=hI hb;have Hp:=hI ((Kept.refl (fun _=>False) w).alloc (.cells ((Rq.mk 8 tenant col uid card ⟨ck,cv⟩ ops token most ticks).cells A ops.length cp) 32))
 have HL:=hI hl;have CN:=hI ref_name;have CU:=hI ref_uid;have CI:=hI ref_isC;have CM:=hI ref_mayCond;obtain ⟨n,hn⟩:∃ n,ops.length=n:=⟨_,rfl⟩;have Hn:=hI hn;rw [hn] at hc Hb Hp ⊢;obtain ⟨b1,hb1⟩:∃ b,(!decide (tenant=(⟨#[]⟩:ByteArray)))=b:=⟨_,rfl⟩;obtain ⟨b2,hb2⟩:∃ b,(!decide (col=(⟨#[]⟩:ByteArray)))=b:=⟨_,rfl⟩;obtain ⟨b3,hb3⟩:∃ b,(!decide (uid=(⟨#[]⟩:ByteArray)))=b:=⟨_,rfl⟩
 obtain ⟨b4,hb4⟩:∃ b,(!decide (card=(⟨#[]⟩:ByteArray)))=b:=⟨_,rfl⟩;obtain ⟨b5,hb5⟩:∃ b,(!decide (ck=0∧cv=0))=b:=⟨_,rfl⟩;obtain ⟨b6,hb6⟩:∃ b,decide ((0:Int)<(n:Int))=b:=⟨_,rfl⟩;obtain ⟨b7,hb7⟩:∃ b,(!decide (token=0))=b:=⟨_,rfl⟩;obtain ⟨b8,hb8⟩:∃ b,(!decide (most=0))=b:=⟨_,rfl⟩;obtain ⟨b9,hb9⟩:∃ b,(!decide (ticks=0))=b:=⟨_,rfl⟩;obtain ⟨n1,hn1⟩:∃ b,nameB tenant=b:=⟨_,rfl⟩;obtain ⟨n2,hn2⟩:∃ b,nameB col=b:=⟨_,rfl⟩
 obtain ⟨n3,hn3⟩:∃ b,uidB uid=b:=⟨_,rfl⟩;obtain ⟨n4,hn4⟩:∃ b,isC card=b:=⟨_,rfl⟩;obtain ⟨n5,hn5⟩:∃ b,(Cn.mk ck cv).may=b:=⟨_,rfl⟩;obtain ⟨r1,hr1⟩:∃ b,decide (token<0)=b:=⟨_,rfl⟩;obtain ⟨r2,hr2⟩:∃ b,decide (most<1)=b:=⟨_,rfl⟩;obtain ⟨r3,hr3⟩:∃ b,decide (1000<most)=b:=⟨_,rfl⟩;obtain ⟨r4,hr4⟩:∃ b,decide (ticks<0)=b:=⟨_,rfl⟩;obtain ⟨r5,hr5⟩:∃ b,decide (1048576<ticks)=b:=⟨_,rfl⟩;clear hR hb hl hn;refine gz27 ?_
 refine gz1 ?_;refine gz10 ?_;generalize w.alloc _=W at *;generalize w.heap.size=g at *;refine gz1 ?_;cases b1;rotate_left
 ·refine gz5 ?_
  refine gz6 ?_;refine ck_end HR Hp rfl (chk_stray (by constructor <;> simp) (by skip <;> simp_all [strayB]))
 refine gz1 ?_;cases b3;rotate_left
 ·refine gz5 ?_
  refine gz6 ?_;refine ck_end HR Hp rfl (chk_stray (by constructor <;> simp) (by skip <;> simp_all [strayB]))
 refine gz1 ?_;cases b4;rotate_left
 ·refine gz5 ?_
  refine gz6 ?_;refine ck_end HR Hp rfl (chk_stray (by constructor <;> simp) (by skip <;> simp_all [strayB]))
 refine gz1 ?_;refine gz23 ?_;refine KL.bop (v:=.bool b5) rfl rfl rfl rfl rfl rfl (by go_simp;subst hb5;by_cases h1:ck=0 <;> by_cases h2:cv=0 <;> simp [h1,h2]) ?_
 cases b5;rotate_left
 ·refine gz5 ?_
  refine gz6 ?_;refine ck_end HR Hp rfl (chk_stray (by constructor <;> simp) (by (by_cases h1:ck=0 <;> by_cases h2:cv=0) <;> simp_all [strayB]))
 refine gz1 ?_;cases b6;rotate_left
 ·refine gz5 ?_
  refine gz6 ?_;refine ck_end HR Hp rfl (chk_stray (by constructor <;> simp) (by (have:=Hn.out;have h6:ops≠[]:=(by rintro rfl;simp_all)) <;> simp_all [strayB]))
 obtain rfl:n=0:=by simpa using hb6
 obtain rfl:ops=[]:=List.length_eq_zero_iff.1 Hn.out;refine gz1 ?_;cases b9;rotate_left
 ·refine gz5 ?_
  refine gz6 ?_;refine ck_end HR Hp rfl (chk_stray (by constructor <;> simp) (by skip <;> simp_all [strayB]))
 obtain rfl:ticks=0:=by simpa using hb9
 obtain rfl:r4=false:=by rw [←hr4];decide
 obtain rfl:r5=false:=by rw [←hr5];decide
 refine gz1 ?_;refine gz20 ?_;rintro e w' ⟨rfl,rfl⟩;refine ⟨_,rfl,?_⟩;cases n2
 ·refine gz0 ?_
  refine ck_end HR Hp rfl (by (rw [chk_flat (by constructor <;> simp) (by simp_all [strayB]) rfl];simp_all))
 refine gz1 ?_;cases r1;rotate_left
 ·refine gz0 ?_
  refine ck_end HR Hp rfl (by (rw [chk_flat (by constructor <;> simp) (by simp_all [strayB]) rfl];simp_all))
 refine gz1 ?_;cases r2;rotate_left
 ·refine gz0 ?_
  refine ck_end HR Hp rfl (by (rw [chk_flat (by constructor <;> simp) (by simp_all [strayB]) rfl];simp_all))
 refine gz1 ?_;cases r3;rotate_left
 ·refine gz0 ?_
  refine ck_end HR Hp rfl (by (rw [chk_flat (by constructor <;> simp) (by simp_all [strayB]) rfl];simp_all))
 refine gz1 ?_;refine gz0 ?_;refine ck_end HR Hp rfl (by (rw [chk_flat (by constructor <;> simp) (by simp_all [strayB]) rfl];simp_all))
theorem ck_9 (tenant col uid card:ByteArray) (ck cv:Int) (ops:List OpR) (token most ticks:Int) (A:Option Addr) (cp:Nat) (w:World) (hl:Rq.Lim ⟨9,tenant,col,uid,card,⟨ck,cv⟩,ops,token,most,ticks⟩) :
  Calls Tryz.prog 20 #[.agg ((Rq.mk 9 tenant col uid card ⟨ck,cv⟩ ops token most ticks).cells A ops.length cp)] w (IntP (chkR ⟨9,tenant,col,uid,card,⟨ck,cv⟩,ops,token,most,ticks⟩) w):=by
 obtain ⟨R,hR⟩:∃ R,chkR ⟨9,tenant,col,uid,card,⟨ck,cv⟩,ops,token,most,ticks⟩=R:=⟨_,rfl⟩;rw [hR];have HR:=hI hR;have hb:=Blk.new w 32 ((Rq.mk 9 tenant col uid card ⟨ck,cv⟩ ops token most ticks).cells A ops.length cp);have hc:=hb.cell;have Hb:=hI hb;have Hp:=hI ((Kept.refl (fun _=>False) w).alloc (.cells ((Rq.mk 9 tenant col uid card ⟨ck,cv⟩ ops token most ticks).cells A ops.length cp) 32))
 have HL:=hI hl;have CN:=hI ref_name;have CU:=hI ref_uid;have CI:=hI ref_isC;have CM:=hI ref_mayCond;obtain ⟨n,hn⟩:∃ n,ops.length=n:=⟨_,rfl⟩;have Hn:=hI hn;rw [hn] at hc Hb Hp ⊢;obtain ⟨b1,hb1⟩:∃ b,(!decide (tenant=(⟨#[]⟩:ByteArray)))=b:=⟨_,rfl⟩;obtain ⟨b2,hb2⟩:∃ b,(!decide (col=(⟨#[]⟩:ByteArray)))=b:=⟨_,rfl⟩;obtain ⟨b3,hb3⟩:∃ b,(!decide (uid=(⟨#[]⟩:ByteArray)))=b:=⟨_,rfl⟩
 obtain ⟨b4,hb4⟩:∃ b,(!decide (card=(⟨#[]⟩:ByteArray)))=b:=⟨_,rfl⟩;obtain ⟨b5,hb5⟩:∃ b,(!decide (ck=0∧cv=0))=b:=⟨_,rfl⟩;obtain ⟨b6,hb6⟩:∃ b,decide ((0:Int)<(n:Int))=b:=⟨_,rfl⟩;obtain ⟨b7,hb7⟩:∃ b,(!decide (token=0))=b:=⟨_,rfl⟩;obtain ⟨b8,hb8⟩:∃ b,(!decide (most=0))=b:=⟨_,rfl⟩;obtain ⟨b9,hb9⟩:∃ b,(!decide (ticks=0))=b:=⟨_,rfl⟩;obtain ⟨n1,hn1⟩:∃ b,nameB tenant=b:=⟨_,rfl⟩;obtain ⟨n2,hn2⟩:∃ b,nameB col=b:=⟨_,rfl⟩
 obtain ⟨n3,hn3⟩:∃ b,uidB uid=b:=⟨_,rfl⟩;obtain ⟨n4,hn4⟩:∃ b,isC card=b:=⟨_,rfl⟩;obtain ⟨n5,hn5⟩:∃ b,(Cn.mk ck cv).may=b:=⟨_,rfl⟩;obtain ⟨r1,hr1⟩:∃ b,decide (token<0)=b:=⟨_,rfl⟩;obtain ⟨r2,hr2⟩:∃ b,decide (most<1)=b:=⟨_,rfl⟩;obtain ⟨r3,hr3⟩:∃ b,decide (1000<most)=b:=⟨_,rfl⟩;obtain ⟨r4,hr4⟩:∃ b,decide (ticks<0)=b:=⟨_,rfl⟩;obtain ⟨r5,hr5⟩:∃ b,decide (1048576<ticks)=b:=⟨_,rfl⟩;clear hR hb hl hn;refine gz27 ?_
 refine gz1 ?_;refine gz10 ?_;generalize w.alloc _=W at *;generalize w.heap.size=g at *;refine gz1 ?_;cases b1;rotate_left
 ·refine gz5 ?_
  refine gz6 ?_;refine ck_end HR Hp rfl (chk_stray (by constructor <;> simp) (by skip <;> simp_all [strayB]))
 refine gz1 ?_;cases b3;rotate_left
 ·refine gz5 ?_
  refine gz6 ?_;refine ck_end HR Hp rfl (chk_stray (by constructor <;> simp) (by skip <;> simp_all [strayB]))
 refine gz1 ?_;cases b4;rotate_left
 ·refine gz5 ?_
  refine gz6 ?_;refine ck_end HR Hp rfl (chk_stray (by constructor <;> simp) (by skip <;> simp_all [strayB]))
 refine gz1 ?_;refine gz23 ?_;refine KL.bop (v:=.bool b5) rfl rfl rfl rfl rfl rfl (by go_simp;subst hb5;by_cases h1:ck=0 <;> by_cases h2:cv=0 <;> simp [h1,h2]) ?_
 cases b5;rotate_left
 ·refine gz5 ?_
  refine gz6 ?_;refine ck_end HR Hp rfl (chk_stray (by constructor <;> simp) (by (by_cases h1:ck=0 <;> by_cases h2:cv=0) <;> simp_all [strayB]))
 refine gz1 ?_;cases b6;rotate_left
 ·refine gz5 ?_
  refine gz6 ?_;refine ck_end HR Hp rfl (chk_stray (by constructor <;> simp) (by (have:=Hn.out;have h6:ops≠[]:=(by rintro rfl;simp_all)) <;> simp_all [strayB]))
 obtain rfl:n=0:=by simpa using hb6
 obtain rfl:ops=[]:=List.length_eq_zero_iff.1 Hn.out;refine gz1 ?_;cases b8;rotate_left
 ·refine gz5 ?_
  refine gz6 ?_;refine ck_end HR Hp rfl (chk_stray (by constructor <;> simp) (by skip <;> simp_all [strayB]))
 obtain rfl:most=0:=by simpa using hb8
 clear hr2 hr3;refine gz1 ?_;refine gz20 ?_;rintro e w' ⟨rfl,rfl⟩;refine ⟨_,rfl,?_⟩;cases n2
 ·refine gz0 ?_
  refine ck_end HR Hp rfl (by (rw [chk_flat (by constructor <;> simp) (by simp_all [strayB]) rfl];simp_all))
 refine gz1 ?_;cases r1;rotate_left
 ·refine gz0 ?_
  refine ck_end HR Hp rfl (by (rw [chk_flat (by constructor <;> simp) (by simp_all [strayB]) rfl];simp_all))
 refine gz1 ?_;cases r4;rotate_left
 ·refine gz0 ?_
  refine ck_end HR Hp rfl (by (rw [chk_flat (by constructor <;> simp) (by simp_all [strayB]) rfl];simp_all))
 refine gz1 ?_;cases r5;rotate_left
 ·refine gz0 ?_
  refine ck_end HR Hp rfl (by (rw [chk_flat (by constructor <;> simp) (by simp_all [strayB]) rfl];simp_all))
 refine gz1 ?_;refine gz0 ?_;refine ck_end HR Hp rfl (by (rw [chk_flat (by constructor <;> simp) (by simp_all [strayB]) rfl];simp_all))
theorem ck_10 (tenant col uid card:ByteArray) (ck cv:Int) (ops:List OpR) (token most ticks:Int) (A:Option Addr) (cp:Nat) (w:World) (hl:Rq.Lim ⟨10,tenant,col,uid,card,⟨ck,cv⟩,ops,token,most,ticks⟩) :
  Calls Tryz.prog 20 #[.agg ((Rq.mk 10 tenant col uid card ⟨ck,cv⟩ ops token most ticks).cells A ops.length cp)] w (IntP (chkR ⟨10,tenant,col,uid,card,⟨ck,cv⟩,ops,token,most,ticks⟩) w):=by
 obtain ⟨R,hR⟩:∃ R,chkR ⟨10,tenant,col,uid,card,⟨ck,cv⟩,ops,token,most,ticks⟩=R:=⟨_,rfl⟩;rw [hR];have HR:=hI hR;have hb:=Blk.new w 32 ((Rq.mk 10 tenant col uid card ⟨ck,cv⟩ ops token most ticks).cells A ops.length cp);have hc:=hb.cell;have Hb:=hI hb;have Hp:=hI ((Kept.refl (fun _=>False) w).alloc (.cells ((Rq.mk 10 tenant col uid card ⟨ck,cv⟩ ops token most ticks).cells A ops.length cp) 32))
 have HL:=hI hl;have CN:=hI ref_name;have CU:=hI ref_uid;have CI:=hI ref_isC;have CM:=hI ref_mayCond;obtain ⟨n,hn⟩:∃ n,ops.length=n:=⟨_,rfl⟩;have Hn:=hI hn;rw [hn] at hc Hb Hp ⊢;obtain ⟨b1,hb1⟩:∃ b,(!decide (tenant=(⟨#[]⟩:ByteArray)))=b:=⟨_,rfl⟩;obtain ⟨b2,hb2⟩:∃ b,(!decide (col=(⟨#[]⟩:ByteArray)))=b:=⟨_,rfl⟩;obtain ⟨b3,hb3⟩:∃ b,(!decide (uid=(⟨#[]⟩:ByteArray)))=b:=⟨_,rfl⟩
 obtain ⟨b4,hb4⟩:∃ b,(!decide (card=(⟨#[]⟩:ByteArray)))=b:=⟨_,rfl⟩;obtain ⟨b5,hb5⟩:∃ b,(!decide (ck=0∧cv=0))=b:=⟨_,rfl⟩;obtain ⟨b6,hb6⟩:∃ b,decide ((0:Int)<(n:Int))=b:=⟨_,rfl⟩;obtain ⟨b7,hb7⟩:∃ b,(!decide (token=0))=b:=⟨_,rfl⟩;obtain ⟨b8,hb8⟩:∃ b,(!decide (most=0))=b:=⟨_,rfl⟩;obtain ⟨b9,hb9⟩:∃ b,(!decide (ticks=0))=b:=⟨_,rfl⟩;obtain ⟨n1,hn1⟩:∃ b,nameB tenant=b:=⟨_,rfl⟩;obtain ⟨n2,hn2⟩:∃ b,nameB col=b:=⟨_,rfl⟩
 obtain ⟨n3,hn3⟩:∃ b,uidB uid=b:=⟨_,rfl⟩;obtain ⟨n4,hn4⟩:∃ b,isC card=b:=⟨_,rfl⟩;obtain ⟨n5,hn5⟩:∃ b,(Cn.mk ck cv).may=b:=⟨_,rfl⟩;obtain ⟨r1,hr1⟩:∃ b,decide (token<0)=b:=⟨_,rfl⟩;obtain ⟨r2,hr2⟩:∃ b,decide (most<1)=b:=⟨_,rfl⟩;obtain ⟨r3,hr3⟩:∃ b,decide (1000<most)=b:=⟨_,rfl⟩;obtain ⟨r4,hr4⟩:∃ b,decide (ticks<0)=b:=⟨_,rfl⟩;obtain ⟨r5,hr5⟩:∃ b,decide (1048576<ticks)=b:=⟨_,rfl⟩;clear hR hb hl hn;refine gz27 ?_
 refine gz1 ?_;refine gz10 ?_;generalize w.alloc _=W at *;generalize w.heap.size=g at *;refine gz1 ?_;cases b1;rotate_left
 ·refine gz5 ?_
  refine gz6 ?_;refine ck_end HR Hp rfl (chk_stray (by constructor <;> simp) (by skip <;> simp_all [strayB]))
 refine gz1 ?_;cases b2;rotate_left
 ·refine gz5 ?_
  refine gz6 ?_;refine ck_end HR Hp rfl (chk_stray (by constructor <;> simp) (by skip <;> simp_all [strayB]))
 refine gz1 ?_;cases b3;rotate_left
 ·refine gz5 ?_
  refine gz6 ?_;refine ck_end HR Hp rfl (chk_stray (by constructor <;> simp) (by skip <;> simp_all [strayB]))
 refine gz1 ?_;cases b4;rotate_left
 ·refine gz5 ?_
  refine gz6 ?_;refine ck_end HR Hp rfl (chk_stray (by constructor <;> simp) (by skip <;> simp_all [strayB]))
 refine gz1 ?_;refine gz23 ?_;refine KL.bop (v:=.bool b5) rfl rfl rfl rfl rfl rfl (by go_simp;subst hb5;by_cases h1:ck=0 <;> by_cases h2:cv=0 <;> simp [h1,h2]) ?_
 cases b5;rotate_left
 ·refine gz5 ?_
  refine gz6 ?_;refine ck_end HR Hp rfl (chk_stray (by constructor <;> simp) (by (by_cases h1:ck=0 <;> by_cases h2:cv=0) <;> simp_all [strayB]))
 refine gz1 ?_;cases b6;rotate_left
 ·refine gz5 ?_
  refine gz6 ?_;refine ck_end HR Hp rfl (chk_stray (by constructor <;> simp) (by (have:=Hn.out;have h6:ops≠[]:=(by rintro rfl;simp_all)) <;> simp_all [strayB]))
 obtain rfl:n=0:=by simpa using hb6
 obtain rfl:ops=[]:=List.length_eq_zero_iff.1 Hn.out;refine gz1 ?_;cases b7;rotate_left
 ·refine gz5 ?_
  refine gz6 ?_;refine ck_end HR Hp rfl (chk_stray (by constructor <;> simp) (by skip <;> simp_all [strayB]))
 obtain rfl:token=0:=by simpa using hb7
 obtain rfl:r1=false:=by rw [←hr1];decide
 refine gz1 ?_;cases b8;rotate_left
 ·refine gz5 ?_
  refine gz6 ?_;refine ck_end HR Hp rfl (chk_stray (by constructor <;> simp) (by skip <;> simp_all [strayB]))
 obtain rfl:most=0:=by simpa using hb8
 clear hr2 hr3;refine gz1 ?_;cases b9;rotate_left
 ·refine gz5 ?_
  refine gz6 ?_;refine ck_end HR Hp rfl (chk_stray (by constructor <;> simp) (by skip <;> simp_all [strayB]))
 obtain rfl:ticks=0:=by simpa using hb9
 obtain rfl:r4=false:=by rw [←hr4];decide
 obtain rfl:r5=false:=by rw [←hr5];decide
 refine gz1 ?_;refine gz0 ?_;refine ck_end HR Hp rfl (by (rw [chk_flat (by constructor <;> simp) (by simp_all [strayB]) rfl];simp_all))
theorem ck_11 (tenant col uid card:ByteArray) (ck cv:Int) (ops:List OpR) (token most ticks:Int) (A:Option Addr) (cp:Nat) (w:World) (hl:Rq.Lim ⟨11,tenant,col,uid,card,⟨ck,cv⟩,ops,token,most,ticks⟩) :
  Calls Tryz.prog 20 #[.agg ((Rq.mk 11 tenant col uid card ⟨ck,cv⟩ ops token most ticks).cells A ops.length cp)] w (IntP (chkR ⟨11,tenant,col,uid,card,⟨ck,cv⟩,ops,token,most,ticks⟩) w):=by
 obtain ⟨R,hR⟩:∃ R,chkR ⟨11,tenant,col,uid,card,⟨ck,cv⟩,ops,token,most,ticks⟩=R:=⟨_,rfl⟩;rw [hR];have HR:=hI hR;have hb:=Blk.new w 32 ((Rq.mk 11 tenant col uid card ⟨ck,cv⟩ ops token most ticks).cells A ops.length cp);have hc:=hb.cell;have Hb:=hI hb;have Hp:=hI ((Kept.refl (fun _=>False) w).alloc (.cells ((Rq.mk 11 tenant col uid card ⟨ck,cv⟩ ops token most ticks).cells A ops.length cp) 32))
 have HL:=hI hl;have CN:=hI ref_name;have CU:=hI ref_uid;have CI:=hI ref_isC;have CM:=hI ref_mayCond;obtain ⟨n,hn⟩:∃ n,ops.length=n:=⟨_,rfl⟩;have Hn:=hI hn;rw [hn] at hc Hb Hp ⊢;obtain ⟨b1,hb1⟩:∃ b,(!decide (tenant=(⟨#[]⟩:ByteArray)))=b:=⟨_,rfl⟩;obtain ⟨b2,hb2⟩:∃ b,(!decide (col=(⟨#[]⟩:ByteArray)))=b:=⟨_,rfl⟩;obtain ⟨b3,hb3⟩:∃ b,(!decide (uid=(⟨#[]⟩:ByteArray)))=b:=⟨_,rfl⟩
 obtain ⟨b4,hb4⟩:∃ b,(!decide (card=(⟨#[]⟩:ByteArray)))=b:=⟨_,rfl⟩;obtain ⟨b5,hb5⟩:∃ b,(!decide (ck=0∧cv=0))=b:=⟨_,rfl⟩;obtain ⟨b6,hb6⟩:∃ b,decide ((0:Int)<(n:Int))=b:=⟨_,rfl⟩;obtain ⟨b7,hb7⟩:∃ b,(!decide (token=0))=b:=⟨_,rfl⟩;obtain ⟨b8,hb8⟩:∃ b,(!decide (most=0))=b:=⟨_,rfl⟩;obtain ⟨b9,hb9⟩:∃ b,(!decide (ticks=0))=b:=⟨_,rfl⟩;obtain ⟨n1,hn1⟩:∃ b,nameB tenant=b:=⟨_,rfl⟩;obtain ⟨n2,hn2⟩:∃ b,nameB col=b:=⟨_,rfl⟩
 obtain ⟨n3,hn3⟩:∃ b,uidB uid=b:=⟨_,rfl⟩;obtain ⟨n4,hn4⟩:∃ b,isC card=b:=⟨_,rfl⟩;obtain ⟨n5,hn5⟩:∃ b,(Cn.mk ck cv).may=b:=⟨_,rfl⟩;obtain ⟨r1,hr1⟩:∃ b,decide (token<0)=b:=⟨_,rfl⟩;obtain ⟨r2,hr2⟩:∃ b,decide (most<1)=b:=⟨_,rfl⟩;obtain ⟨r3,hr3⟩:∃ b,decide (1000<most)=b:=⟨_,rfl⟩;obtain ⟨r4,hr4⟩:∃ b,decide (ticks<0)=b:=⟨_,rfl⟩;obtain ⟨r5,hr5⟩:∃ b,decide (1048576<ticks)=b:=⟨_,rfl⟩;clear hR hb hl hn;refine gz27 ?_
 refine gz1 ?_;refine gz10 ?_;generalize w.alloc _=W at *;generalize w.heap.size=g at *;refine gz1 ?_;cases b1;rotate_left
 ·refine gz5 ?_
  refine gz6 ?_;refine ck_end HR Hp rfl (chk_stray (by constructor <;> simp) (by skip <;> simp_all [strayB]))
 refine gz1 ?_;cases b2;rotate_left
 ·refine gz5 ?_
  refine gz6 ?_;refine ck_end HR Hp rfl (chk_stray (by constructor <;> simp) (by skip <;> simp_all [strayB]))
 refine gz1 ?_;cases b3;rotate_left
 ·refine gz5 ?_
  refine gz6 ?_;refine ck_end HR Hp rfl (chk_stray (by constructor <;> simp) (by skip <;> simp_all [strayB]))
 refine gz1 ?_;cases b4;rotate_left
 ·refine gz5 ?_
  refine gz6 ?_;refine ck_end HR Hp rfl (chk_stray (by constructor <;> simp) (by skip <;> simp_all [strayB]))
 refine gz1 ?_;refine gz23 ?_;refine KL.bop (v:=.bool b5) rfl rfl rfl rfl rfl rfl (by go_simp;subst hb5;by_cases h1:ck=0 <;> by_cases h2:cv=0 <;> simp [h1,h2]) ?_
 cases b5;rotate_left
 ·refine gz5 ?_
  refine gz6 ?_;refine ck_end HR Hp rfl (chk_stray (by constructor <;> simp) (by (by_cases h1:ck=0 <;> by_cases h2:cv=0) <;> simp_all [strayB]))
 refine gz1 ?_;cases b6;rotate_left
 ·refine gz5 ?_
  refine gz6 ?_;refine ck_end HR Hp rfl (chk_stray (by constructor <;> simp) (by (have:=Hn.out;have h6:ops≠[]:=(by rintro rfl;simp_all)) <;> simp_all [strayB]))
 obtain rfl:n=0:=by simpa using hb6
 obtain rfl:ops=[]:=List.length_eq_zero_iff.1 Hn.out;refine gz1 ?_;cases b7;rotate_left
 ·refine gz5 ?_
  refine gz6 ?_;refine ck_end HR Hp rfl (chk_stray (by constructor <;> simp) (by skip <;> simp_all [strayB]))
 obtain rfl:token=0:=by simpa using hb7
 obtain rfl:r1=false:=by rw [←hr1];decide
 refine gz1 ?_;cases b8;rotate_left
 ·refine gz5 ?_
  refine gz6 ?_;refine ck_end HR Hp rfl (chk_stray (by constructor <;> simp) (by skip <;> simp_all [strayB]))
 obtain rfl:most=0:=by simpa using hb8
 clear hr2 hr3;refine gz1 ?_;cases b9;rotate_left
 ·refine gz5 ?_
  refine gz6 ?_;refine ck_end HR Hp rfl (chk_stray (by constructor <;> simp) (by skip <;> simp_all [strayB]))
 obtain rfl:ticks=0:=by simpa using hb9
 obtain rfl:r4=false:=by rw [←hr4];decide
 obtain rfl:r5=false:=by rw [←hr5];decide
 refine gz1 ?_;refine gz0 ?_;refine ck_end HR Hp rfl (by (rw [chk_flat (by constructor <;> simp) (by simp_all [strayB]) rfl];simp_all))
end
section
open Go.RowKit Go.PlainAid
theorem chk_del {q:Rq} (hk:1≤q.kind∧q.kind≤11) (hs:strayB q=false) (h:q.ops.any opDel=true):chkR q=1:=by
 unfold chkR;rw [if_neg (by omega),hs,if_neg (by simp),if_pos h]
theorem chk_nm {q:Rq} (hk:q.kind=7) (hs:strayB q=false) (h:q.ops.any opDel=false) (hn:nameB q.col=false):chkR q=3:=by
 unfold chkR;rw [if_neg (by omega),hs,if_neg (by simp),h,if_neg (by simp),if_pos (by right;left;exact ⟨by omega,hn⟩)]
theorem chk_id {q:Rq} (hk:q.kind=7) (hs:strayB q=false) (h:q.ops.any opDel=false) (hn:nameB q.col=true) (hu:q.ops.any (fun o=>!uidB o.uid)=true):chkR q=3:=by
 unfold chkR;rw [if_neg (by omega),hs,if_neg (by simp),h,if_neg (by simp),if_neg (by rw [hn,hk];simp),if_pos hu]
theorem chk_fm {q:Rq} (hk:q.kind=7) (hs:strayB q=false) (h:q.ops.any opDel=false) (hn:nameB q.col=true) (hu:q.ops.any (fun o=>!uidB o.uid)=false) (hf:q.ops.any opForm=true):chkR q=1:=by
 unfold chkR;rw [if_neg (by omega),hs,if_neg (by simp),h,if_neg (by simp),if_neg (by rw [hn,hk];simp),hu,if_neg (by simp),if_neg (by rw [hk];simp),if_pos hf]
theorem chk_rg {q:Rq} (hk:q.kind=7) (hs:strayB q=false) (h:q.ops.any opDel=false) (hn:nameB q.col=true) (hu:q.ops.any (fun o=>!uidB o.uid)=false) (hf:q.ops.any opForm=false) (h1:q.token=0) (h2:q.most=0) (h3:q.ticks=0) :
  chkR q=if q.ops.length<1∨8<q.ops.length then 12 else 0:=by
 unfold chkR;rw [if_neg (by omega),hs,if_neg (by simp),h,if_neg (by simp),if_neg (by rw [hn,hk];simp),hu,if_neg (by simp),if_neg (by rw [hk];simp),hf,if_neg (by simp),hk,h1,h2,h3]
 simp
theorem op_cells {w:World} {F:Nat→Prop} {b o n:Nat} {l:List OpR} (h:Sl w F 5 (some ⟨b,o,none⟩) n (l.flatMap OpR.cells)) {i:Nat} {e:OpR} (he:l[i]? = some e) :
  w.cell? ⟨b,o+i*5,none⟩=some (.bool e.del)∧w.cell? ⟨b,o+i*5+1,none⟩=some (.string e.uid)∧w.cell? ⟨b,o+i*5+2,none⟩=some (.string e.card)∧w.cell? ⟨b,o+i*5+3,none⟩=some (.int .i64 e.cond.kind)∧w.cell? ⟨b,o+i*5+4,none⟩=some (.int .i64 e.cond.version):=by
 have hi:=(List.getElem?_eq_some_iff.1 he).1;have hn:l.length=n:=by have:=h.1;rw [fm_length _ 5 OpR.cells_len] at this;omega
 have hc:=fun j hj=>sl_at OpR.cells_len h (by omega) he (j:=j) hj
 exact ⟨hc 0 (by omega),hc 1 (by omega),hc 2 (by omega),hc 3 (by omega),hc 4 (by omega)⟩
theorem ck_7 (tenant col uid card:ByteArray) (ck cv:Int) (ops:List OpR) (token most ticks:Int) (A:Option Addr) (cp:Nat) (w:World) (F:Nat→Prop) (hl:Rq.Lim ⟨7,tenant,col,uid,card,⟨ck,cv⟩,ops,token,most,ticks⟩) (hs:Sl w F 5 A ops.length (ops.flatMap OpR.cells)) :
  Calls Tryz.prog 20 #[.agg ((Rq.mk 7 tenant col uid card ⟨ck,cv⟩ ops token most ticks).cells A ops.length cp)] w (IntP (chkR ⟨7,tenant,col,uid,card,⟨ck,cv⟩,ops,token,most,ticks⟩) w):=by
 have Hs:=hI hs;clear hs;obtain ⟨R,hR⟩:∃ R,chkR ⟨7,tenant,col,uid,card,⟨ck,cv⟩,ops,token,most,ticks⟩=R:=⟨_,rfl⟩;rw [hR];have HR:=hI hR;have hb:=Blk.new w 32 ((Rq.mk 7 tenant col uid card ⟨ck,cv⟩ ops token most ticks).cells A ops.length cp);have hc:=hb.cell;have Hb:=hI hb;have Hp:=hI ((Kept.refl (fun _=>False) w).alloc (.cells ((Rq.mk 7 tenant col uid card ⟨ck,cv⟩ ops token most ticks).cells A ops.length cp) 32))
 have HL:=hI hl;have CN:=hI ref_name;have CU:=hI ref_uid;have CI:=hI ref_isC;have CM:=hI ref_mayCond;obtain ⟨n,hn⟩:∃ n,ops.length=n:=⟨_,rfl⟩;have Hn:=hI hn;rw [hn] at hc Hb Hp ⊢;obtain ⟨b1,hb1⟩:∃ b,(!decide (tenant=(⟨#[]⟩:ByteArray)))=b:=⟨_,rfl⟩;obtain ⟨b2,hb2⟩:∃ b,(!decide (col=(⟨#[]⟩:ByteArray)))=b:=⟨_,rfl⟩;obtain ⟨b3,hb3⟩:∃ b,(!decide (uid=(⟨#[]⟩:ByteArray)))=b:=⟨_,rfl⟩
 obtain ⟨b4,hb4⟩:∃ b,(!decide (card=(⟨#[]⟩:ByteArray)))=b:=⟨_,rfl⟩;obtain ⟨b5,hb5⟩:∃ b,(!decide (ck=0∧cv=0))=b:=⟨_,rfl⟩;obtain ⟨b6,hb6⟩:∃ b,decide ((0:Int)<(n:Int))=b:=⟨_,rfl⟩;obtain ⟨b7,hb7⟩:∃ b,(!decide (token=0))=b:=⟨_,rfl⟩;obtain ⟨b8,hb8⟩:∃ b,(!decide (most=0))=b:=⟨_,rfl⟩;obtain ⟨b9,hb9⟩:∃ b,(!decide (ticks=0))=b:=⟨_,rfl⟩;obtain ⟨n1,hn1⟩:∃ b,nameB tenant=b:=⟨_,rfl⟩;obtain ⟨n2,hn2⟩:∃ b,nameB col=b:=⟨_,rfl⟩
 obtain ⟨n3,hn3⟩:∃ b,uidB uid=b:=⟨_,rfl⟩;obtain ⟨n4,hn4⟩:∃ b,isC card=b:=⟨_,rfl⟩;obtain ⟨n5,hn5⟩:∃ b,(Cn.mk ck cv).may=b:=⟨_,rfl⟩;obtain ⟨r1,hr1⟩:∃ b,decide (token<0)=b:=⟨_,rfl⟩;obtain ⟨r2,hr2⟩:∃ b,decide (most<1)=b:=⟨_,rfl⟩;obtain ⟨r3,hr3⟩:∃ b,decide (1000<most)=b:=⟨_,rfl⟩;obtain ⟨r4,hr4⟩:∃ b,decide (ticks<0)=b:=⟨_,rfl⟩;obtain ⟨r5,hr5⟩:∃ b,decide (1048576<ticks)=b:=⟨_,rfl⟩;clear hR hb hl hn;refine gz27 ?_
 refine gz1 ?_;refine gz10 ?_;generalize w.alloc _=W at *;generalize w.heap.size=g at *;refine gz1 ?_;have hs1:=hI (Hs.out.kept (S:=fun _=>False) Hp.out (fun _ _ _ h=>h));cases b1;rotate_left
 ·refine gz5 ?_
  refine gz6 ?_;refine ck_end HR Hp rfl (chk_stray (by constructor <;> simp) (by skip <;> simp_all [strayB]))
 refine gz1 ?_;cases b3;rotate_left
 ·refine gz5 ?_
  refine gz6 ?_;refine ck_end HR Hp rfl (chk_stray (by constructor <;> simp) (by skip <;> simp_all [strayB]))
 refine gz1 ?_;cases b4;rotate_left
 ·refine gz5 ?_
  refine gz6 ?_;refine ck_end HR Hp rfl (chk_stray (by constructor <;> simp) (by skip <;> simp_all [strayB]))
 refine gz1 ?_;refine gz23 ?_;refine KL.bop (v:=.bool b5) rfl rfl rfl rfl rfl rfl (by go_simp;subst hb5;by_cases h1:ck=0 <;> by_cases h2:cv=0 <;> simp [h1,h2]) ?_
 cases b5;rotate_left
 ·refine gz5 ?_
  refine gz6 ?_;refine ck_end HR Hp rfl (chk_stray (by constructor <;> simp) (by (by_cases h1:ck=0 <;> by_cases h2:cv=0) <;> simp_all [strayB]))
 refine gz1 ?_;cases b7;rotate_left
 ·refine gz5 ?_
  refine gz6 ?_;refine ck_end HR Hp rfl (chk_stray (by constructor <;> simp) (by skip <;> simp_all [strayB]))
 obtain rfl:token=0:=by simpa using hb7
 obtain rfl:r1=false:=by rw [←hr1];decide
 refine gz1 ?_;cases b8;rotate_left
 ·refine gz5 ?_
  refine gz6 ?_;refine ck_end HR Hp rfl (chk_stray (by constructor <;> simp) (by skip <;> simp_all [strayB]))
 obtain rfl:most=0:=by simpa using hb8
 clear hr2 hr3;refine gz1 ?_;cases b9;rotate_left
 ·refine gz5 ?_
  refine gz6 ?_;refine ck_end HR Hp rfl (chk_stray (by constructor <;> simp) (by skip <;> simp_all [strayB]))
 obtain rfl:ticks=0:=by simpa using hb9
 obtain rfl:r4=false:=by rw [←hr4];decide
 obtain rfl:r5=false:=by rw [←hr5];decide
 refine gz0 ?_;have hn1000:n≤1000:=by have h1:=HL.out.len;have h2:=Hn.out;simp only at h1;omega
 have hst:strayB ⟨7,tenant,col,uid,card,⟨ck,cv⟩,ops,0,0,0⟩=false:=(by clear Hs CN CU CI CM HL Hp Hb;simp_all [strayB])
 have Hst:=hI hst;clear hst;refine KW.loop (ι:=Nat) (fun i=>[(1,.pointer (some ⟨g,0,none⟩)),(3,.int .i64 7),(4,.bool false),(5,.bool true),(6,.bool false),(7,.bool false),(8,.bool false),(9,.bool false),(10,.int .i64 (i:Int))]) (fun i w'=>w'=W∧i≤n∧∀ j,j<i→∀ o,ops[j]? = some o→opDel o=false) (fun i=>n-i) 0 ⟨rfl,Nat.zero_le _,fun j hj=>absurd hj (by omega)⟩ (kle_ok (by repeat' (first|exact trivial|refine ⟨rfl,?_⟩))) ?_
 rintro i w2 ⟨e2,hin,hdone⟩;obtain rfl:=e2.symm;have Hdone:=hI hdone;clear hdone e2
 by_cases hlt:i<n
 ·have hd:decide ((i:Int)<(n:Int))=true:=by simp;omega
  obtain ⟨o,ho⟩:∃ o,ops[i]? = some o:=⟨_,List.getElem?_eq_getElem (by rw [Hn.out];exact hlt)⟩
  obtain ⟨b,off,hA,_⟩:=hs1.out.2 (by rw [Hn.out];omega)
  subst hA;obtain ⟨c0,c1,c2,c3,c4⟩:=op_cells hs1.out ho;obtain ⟨bd,hbd⟩:∃ b,(!decide (o.card=(⟨#[]⟩:ByteArray)))=b:=⟨_,rfl⟩;obtain ⟨od,hod⟩:∃ b,o.del=b:=⟨_,rfl⟩;rw [hod] at c0;have Ho:=hI ho;have Hod:=hI hod;clear ho hod;refine gz0 ?_;cases od
  ·have hop:opDel o=false:=by unfold opDel;rw [Hod.out];rfl
   have Hop:=hI hop;clear hop;refine gz0 ?_;refine gz26 ?_;refine gz0 ?_;refine KE.rnd (i+1) (by repeat' (first|exact trivial|refine ⟨rfl,?_⟩)) ⟨rfl,by omega,fun j hj p hp=>?_⟩ (by omega)
   by_cases hji:j<i
   ·exact Hdone.out j hji p hp
   ·obtain rfl:j=i:=by omega
    have:=Ho.out;rw [hp] at this;injection this with this;rw [this];exact Hop.out
  ·cases bd
   ·have hop:opDel o=false:=by unfold opDel;rw [Hod.out];simpa [eB] using hbd
    have Hop:=hI hop;clear hop;refine gz0 ?_;refine gz26 ?_;refine gz0 ?_;refine KE.rnd (i+1) (by repeat' (first|exact trivial|refine ⟨rfl,?_⟩)) ⟨rfl,by omega,fun j hj p hp=>?_⟩ (by omega)
    by_cases hji:j<i
    ·exact Hdone.out j hji p hp
    ·obtain rfl:j=i:=by omega
     have:=Ho.out;rw [hp] at this;injection this with this;rw [this];exact Hop.out
   ·have hop:opDel o=true:=by unfold opDel;rw [Hod.out];simpa [eB] using hbd
    have hany:ops.any opDel=true:=List.any_eq_true.2 ⟨o,List.mem_of_getElem? Ho.out,hop⟩;have Hany:=hI hany;clear hop hany;refine gz0 ?_;refine ck_end HR Hp rfl (by exact chk_del (by constructor <;> simp) Hst.out Hany.out)
 have hd:decide ((i:Int)<(n:Int))=false:=by simp;omega
 have hany:ops.any opDel=false:=by
  rw [List.any_eq_false];intro o ho;obtain ⟨j,hj,e⟩:=List.getElem_of_mem ho;rw [Hdone.out j (by have:=Hn.out;omega) o (by rw [List.getElem?_eq_getElem hj,e])]
  exact Bool.false_ne_true
 have Hany:=hI hany;clear hany;refine gz0 ?_;refine gz20 ?_;rintro e w' ⟨rfl,rfl⟩;refine ⟨_,rfl,?_⟩;have Hn2:=hI hn2;clear hn2 Hdone hd;cases n2
 ·refine gz0 ?_
  refine ck_end HR Hp rfl (by exact chk_nm rfl Hst.out Hany.out Hn2.out)
 refine gz0 ?_;clear hlt hin;refine KW.loop (ι:=Nat) (fun i=>[(1,.pointer (some ⟨g,0,none⟩)),(3,.int .i64 7),(7,.bool false),(8,.bool false),(11,.int .i64 (i:Int))]) (fun i w'=>w'=W∧i≤n∧∀ j,j<i→∀ o,ops[j]? = some o→uidB o.uid=true) (fun i=>n-i) 0 ⟨rfl,Nat.zero_le _,fun j hj=>absurd hj (by omega)⟩ (kle_ok (by repeat' (first|exact trivial|refine ⟨rfl,?_⟩))) ?_
 rintro i w2 ⟨e2,hin,hdone⟩;obtain rfl:=e2.symm;have Hdone:=hI hdone;clear hdone e2
 by_cases hlt:i<n
 ·have hd:decide ((i:Int)<(n:Int))=true:=by simp;omega
  obtain ⟨o,ho⟩:∃ o,ops[i]? = some o:=⟨_,List.getElem?_eq_getElem (by rw [Hn.out];exact hlt)⟩
  obtain ⟨b,off,hA,_⟩:=hs1.out.2 (by rw [Hn.out];omega)
  subst hA;obtain ⟨c0,c1,c2,c3,c4⟩:=op_cells hs1.out ho;obtain ⟨ub,hub⟩:∃ b,uidB o.uid=b:=⟨_,rfl⟩;have hou:=(HL.out.ops o (List.mem_of_getElem? ho)).1;have Ho:=hI ho;have Hub:=hI hub;clear ho hub;refine gz0 ?_;refine KL.call rfl rfl rfl rfl rfl (by go_simp) (by have:=CU.out o.uid W (by unfold maxLen;omega);rw [Hub.out] at this;exact this) ?_
  rintro e w' ⟨rfl,rfl⟩;refine ⟨_,rfl,?_⟩;cases ub
  ·have hany:ops.any (fun o=>!uidB o.uid)=true:=List.any_eq_true.2 ⟨o,List.mem_of_getElem? Ho.out,by rw [Hub.out];rfl⟩
   have Hany2:=hI hany;clear hany;refine gz0 ?_;refine ck_end HR Hp rfl (by exact chk_id rfl Hst.out Hany.out Hn2.out Hany2.out)
  ·have Hop:=Hub
   refine gz0 ?_;refine gz26 ?_;refine gz0 ?_;refine KE.rnd (i+1) (by repeat' (first|exact trivial|refine ⟨rfl,?_⟩)) ⟨rfl,by omega,fun j hj p hp=>?_⟩ (by omega)
   by_cases hji:j<i
   ·exact Hdone.out j hji p hp
   ·obtain rfl:j=i:=by omega
    have:=Ho.out;rw [hp] at this;injection this with this;rw [this];exact Hop.out
 have hd:decide ((i:Int)<(n:Int))=false:=by simp;omega
 have hany:ops.any (fun o=>!uidB o.uid)=false:=by
  rw [List.any_eq_false];intro o ho;obtain ⟨j,hj,e⟩:=List.getElem_of_mem ho;rw [Hdone.out j (by have:=Hn.out;omega) o (by rw [List.getElem?_eq_getElem hj,e])]
  exact Bool.false_ne_true
 have Hany2:=hI hany;clear hany;refine gz0 ?_;clear hlt hin Hdone hd;refine KW.loop (ι:=Nat) (fun i=>[(1,.pointer (some ⟨g,0,none⟩)),(3,.int .i64 7),(12,.int .i64 (i:Int))]) (fun i w'=>Pure W w'∧i≤n∧∀ j,j<i→∀ o,ops[j]? = some o→opForm o=false) (fun i=>n-i) 0 ⟨Kept.refl _ _,Nat.zero_le _,fun j hj=>absurd hj (by omega)⟩ (kle_ok (by repeat' (first|exact trivial|refine ⟨rfl,?_⟩))) ?_
 rintro i w2 ⟨hpw,hin,hdone⟩;have hs2:=hs1.out.kept hpw (fun _ _ _ h=>h);have hb2:=Hb.out.kept hpw (fun h=>h);replace hc:=hb2.cell;have Hpw:=hI (Hp.out.same hpw);have Hpw2:=hI hpw;have Hb2:=hI hb2;have Hs2:=hI hs2;have Hdone:=hI hdone;clear hdone hs2 hb2 hpw
 by_cases hlt:i<n
 ·have hd:decide ((i:Int)<(n:Int))=true:=by simp;omega
  obtain ⟨o,ho⟩:∃ o,ops[i]? = some o:=⟨_,List.getElem?_eq_getElem (by rw [Hn.out];exact hlt)⟩
  obtain ⟨b,off,hA,_⟩:=Hs2.out.2 (by rw [Hn.out];omega)
  subst hA;obtain ⟨c0,c1,c2,c3,c4⟩:=op_cells Hs2.out ho;have hou:=(HL.out.ops o (List.mem_of_getElem? ho)).2;have Ho:=hI ho;clear ho;obtain ⟨od,ouid,ocard,ock,ocv⟩:=o;simp only at c0 c1 c2 c3 c4 hou;refine gz0 ?_;refine gz64 ?_;have hb3:=Blk.new w2 58 #[.bool false,.string ⟨#[]⟩,.string ⟨#[]⟩,.int .i64 0,.int .i64 0];have hk3:Pure w2 (w2.alloc (.cells #[.bool false,.string ⟨#[]⟩,.string ⟨#[]⟩,.int .i64 0,.int .i64 0] 58)):=(Kept.refl _ _).alloc _
  refine KL.storeB rfl rfl rfl rfl rfl hb3 rfl (by kernel_rfl) (by kernel_rfl) ?_
  intro w4 hb4 hk4;have hk4':Pure w2 w4:=hk3.trans hk4 (fun i hi e=>by have e:i=w2.heap.size:=e;omega)
  have hc4:=hb4.cell;have Hb4:=hI hb4;have Hpw4:=hI (Hpw.out.same hk4');have Hpw42:=hI (Hpw2.out.same hk4');clear hb3 hk3 hk4 hk4' hb4;generalize w2.heap.size=g4 at *;have CM4:=hI (CM.out ock ocv);obtain ⟨mb,hmb⟩:∃ b,(Cn.mk ock ocv).may=b:=⟨_,rfl⟩;obtain ⟨ib,hib⟩:∃ b,isC ocard=b:=⟨_,rfl⟩;cases od
  ·have hop:opForm ⟨false,ouid,ocard,⟨ock,ocv⟩⟩=(!ib || !mb):=by simp [opForm,hmb,hib]
   have Hop:=hI hop;clear hop;refine gz0 ?_;refine KL.call rfl rfl rfl rfl rfl (by go_simp) (by have:=CI.out ocard w4 hou;rw [hib] at this;exact this) ?_
   rintro e w5 ⟨rfl,hk5⟩;refine ⟨_,rfl,?_⟩;have hb5:=Hb4.out.kept hk5 (fun h=>h);have hc5:=hb5.cell;have Hpw5:=hI (Hpw4.out.same hk5);have Hpw52:=hI (Hpw42.out.same hk5);clear hk5 hb5 hc4;cases ib
   ·have hany:ops.any opForm=true:=List.any_eq_true.2 ⟨_,List.mem_of_getElem? Ho.out,by rw [Hop.out];rfl⟩
    have Hany3:=hI hany;clear hany;refine gz0 ?_;refine KR.fin1 Tryz.results20 rfl ⟨by rw [←HR.out];refine congrArg (fun z=>Ending.returned (Value.int .i64 z)) (Eq.symm ?_);exact chk_fm rfl Hst.out Hany.out Hn2.out Hany2.out Hany3.out,Hpw5.out⟩
   ·refine gz0 ?_
    refine KL.call rfl rfl rfl rfl rfl (by go_simp) (by have:=CM4.out w5;rw [hmb] at this;exact this) ?_
    rintro e w6 ⟨rfl,hk6⟩;refine ⟨_,rfl,?_⟩;have Hpw6:=hI (Hpw5.out.same hk6);have Hpw62:=hI (Hpw52.out.same hk6);clear hk6;cases mb
    ·have hany:ops.any opForm=true:=List.any_eq_true.2 ⟨_,List.mem_of_getElem? Ho.out,by rw [Hop.out];rfl⟩
     have Hany3:=hI hany;clear hany;refine gz0 ?_;refine KR.fin1 Tryz.results20 rfl ⟨by rw [←HR.out];refine congrArg (fun z=>Ending.returned (Value.int .i64 z)) (Eq.symm ?_);exact chk_fm rfl Hst.out Hany.out Hn2.out Hany2.out Hany3.out,Hpw6.out⟩
    ·refine gz0 ?_
     refine gz26 ?_;refine gz0 ?_;refine KE.rnd (i+1) (by repeat' (first|exact trivial|refine ⟨rfl,?_⟩)) ⟨Hpw62.out,by omega,fun j hj p hp=>?_⟩ (by omega)
     by_cases hji:j<i
     ·exact Hdone.out j hji p hp
     ·obtain rfl:j=i:=by omega
      have:=Ho.out;rw [hp] at this;injection this with this;rw [this];exact Hop.out
  ·have hop:opForm ⟨true,ouid,ocard,⟨ock,ocv⟩⟩=(!mb):=by simp [opForm,hmb]
   have Hop:=hI hop;clear hop;refine gz0 ?_;refine KL.call rfl rfl rfl rfl rfl (by go_simp) (by have:=CM4.out w4;rw [hmb] at this;exact this) ?_
   rintro e w6 ⟨rfl,hk6⟩;refine ⟨_,rfl,?_⟩;have Hpw6:=hI (Hpw4.out.same hk6);have Hpw62:=hI (Hpw42.out.same hk6);clear hk6;cases mb
   ·have hany:ops.any opForm=true:=List.any_eq_true.2 ⟨_,List.mem_of_getElem? Ho.out,by rw [Hop.out];rfl⟩
    have Hany3:=hI hany;clear hany;refine gz0 ?_;refine KR.fin1 Tryz.results20 rfl ⟨by rw [←HR.out];refine congrArg (fun z=>Ending.returned (Value.int .i64 z)) (Eq.symm ?_);exact chk_fm rfl Hst.out Hany.out Hn2.out Hany2.out Hany3.out,Hpw6.out⟩
   ·refine gz0 ?_
    refine gz26 ?_;refine gz0 ?_;refine KE.rnd (i+1) (by repeat' (first|exact trivial|refine ⟨rfl,?_⟩)) ⟨Hpw62.out,by omega,fun j hj p hp=>?_⟩ (by omega)
    by_cases hji:j<i
    ·exact Hdone.out j hji p hp
    ·obtain rfl:j=i:=by omega
     have:=Ho.out;rw [hp] at this;injection this with this;rw [this];exact Hop.out
 have hd:decide ((i:Int)<(n:Int))=false:=by simp;omega
 have hany:ops.any opForm=false:=by
  rw [List.any_eq_false];intro o ho;obtain ⟨j,hj,e⟩:=List.getElem_of_mem ho;rw [Hdone.out j (by have:=Hn.out;omega) o (by rw [List.getElem?_eq_getElem hj,e])]
  exact Bool.false_ne_true
 have hR:R=if n<1∨8<n then 12 else 0:=by rw [←HR.out,chk_rg rfl Hst.out Hany.out Hn2.out Hany2.out hany rfl rfl rfl,Hn.out]
 have HR2:=hI hR;clear hany hR
 by_cases h1:n<1
 ·have hd1:decide ((n:Int)<1)=true:=by simp;omega
  refine gz0 ?_;refine KR.fin1 Tryz.results20 rfl ⟨by rw [HR2.out,if_pos (.inl h1)],Hpw.out⟩
 have hd1:decide ((n:Int)<1)=false:=by simp;omega
 by_cases h8:8<n
 ·have hd8:decide ((8:Int)<(n:Int))=true:=by simp;omega
  refine gz0 ?_;refine KR.fin1 Tryz.results20 rfl ⟨by rw [HR2.out,if_pos (.inr h8)],Hpw.out⟩
 have hd8:decide ((8:Int)<(n:Int))=false:=by simp;omega
 refine gz0 ?_;refine KR.fin1 Tryz.results20 rfl ⟨by rw [HR2.out,if_neg (by omega)],Hpw.out⟩
end
section
open Go.RowKit Go.PlainAid
theorem ck_out (k:Int) (tenant col uid card:ByteArray) (ck cv:Int) (token most ticks:Int) (A:Option Addr) (n cp:Nat) (w:World) (hk:k<1∨11<k) :
  Calls Tryz.prog 20 #[.agg #[.int .i64 k,.string tenant,.string col,.string uid,.string card,.int .i64 ck,.int .i64 cv,.slice A n cp,.int .i64 token,.int .i64 most,.int .i64 ticks]] w (IntP 12 w):=by
 have hb:=Blk.new w 32 #[.int .i64 k,.string tenant,.string col,.string uid,.string card,.int .i64 ck,.int .i64 cv,.slice A n cp,.int .i64 token,.int .i64 most,.int .i64 ticks];have hc:=hb.cell;have Hp:=hI ((Kept.refl (fun _=>False) w).alloc (.cells #[.int .i64 k,.string tenant,.string col,.string uid,.string card,.int .i64 ck,.int .i64 cv,.slice A n cp,.int .i64 token,.int .i64 most,.int .i64 ticks] 32))
 obtain ⟨b1,hb1⟩:∃ b,decide (k<1)=b:=⟨_,rfl⟩;obtain ⟨b2,hb2⟩:∃ b,decide (11<k)=b:=⟨_,rfl⟩;have Hk:=hI hk;clear hb hk;refine gz27 ?_;refine gz0 ?_;refine gz10 ?_;generalize w.alloc _=W at *;generalize w.heap.size=g at *;refine gz0 ?_;cases b1
 ·cases b2
  ·exact absurd Hk.out (by have h1:=of_decide_eq_false hb1;have h2:=of_decide_eq_false hb2;omega)
  ·refine gz0 ?_
   refine KR.fin1 Tryz.results20 rfl ⟨rfl,Hp.out⟩
 ·refine gz0 ?_
  refine KR.fin1 Tryz.results20 rfl ⟨rfl,Hp.out⟩
theorem ref_check (q:Rq) (A:Option Addr) (cp:Nat) (w:World) (F:Nat→Prop) (hl:q.Lim) (hs:Sl w F 5 A q.ops.length (q.ops.flatMap OpR.cells)) :
  Calls Tryz.prog 20 #[.agg (q.cells A q.ops.length cp)] w (IntP (chkR q) w):=by
 obtain ⟨k,tenant,col,uid,card,⟨ck,cv⟩,ops,token,most,ticks⟩:=q
 by_cases hk:k<1∨11<k
 ·have e:chkR ⟨k,tenant,col,uid,card,⟨ck,cv⟩,ops,token,most,ticks⟩=12:=by unfold chkR;rw [if_pos hk]
  rw [e];exact ck_out k tenant col uid card ck cv token most ticks A _ cp w hk
 ·have hk':k=1∨k=2∨k=3∨k=4∨k=5∨k=6∨k=7∨k=8∨k=9∨k=10∨k=11:=by omega
  rcases hk' with rfl|rfl|rfl|rfl|rfl|rfl|rfl|rfl|rfl|rfl|rfl
  ·exact ck_1 _ _ _ _ _ _ _ _ _ _ _ _ _ hl
  ·exact ck_2 _ _ _ _ _ _ _ _ _ _ _ _ _ hl
  ·exact ck_3 _ _ _ _ _ _ _ _ _ _ _ _ _ hl
  ·exact ck_4 _ _ _ _ _ _ _ _ _ _ _ _ _ hl
  ·exact ck_5 _ _ _ _ _ _ _ _ _ _ _ _ _ hl
  ·exact ck_6 _ _ _ _ _ _ _ _ _ _ _ _ _ hl
  ·exact ck_7 _ _ _ _ _ _ _ _ _ _ _ _ _ F hl hs
  ·exact ck_8 _ _ _ _ _ _ _ _ _ _ _ _ _ hl
  ·exact ck_9 _ _ _ _ _ _ _ _ _ _ _ _ _ hl
  ·exact ck_10 _ _ _ _ _ _ _ _ _ _ _ _ _ hl
  ·exact ck_11 _ _ _ _ _ _ _ _ _ _ _ _ _ hl
def opLite (o:OpR):Bool:=decide (o.uid.size≤60)&&decide (o.card.size≤2000)
def lightB (q:Rq):Bool:=(decide (q.tenant.size≤60)&&decide (q.col.size≤60)&&decide (q.uid.size≤60)&&decide (q.card.size≤2000)&&decide (q.ops.length≤20))&&q.ops.all opLite
theorem light_lim {q:Rq} (h:lightB q=true):q.Lim∧q.Lite∧q.tenant.size≤60∧q.ops.length≤20:=by
 unfold lightB at h;simp only [Bool.and_eq_true,decide_eq_true_eq,List.all_eq_true] at h;obtain ⟨⟨⟨⟨⟨h1,h2⟩,h3⟩,h4⟩,h5⟩,h6⟩:=h;have h7:∀ o∈q.ops,o.uid.size≤60∧o.card.size≤2000:=fun o ho=>by
  have:=h6 o ho;unfold opLite at this;simpa only [Bool.and_eq_true,decide_eq_true_eq] using this
 exact ⟨⟨by omega,by omega,by omega,by omega,by omega,fun o ho=>by have:=h7 o ho;omega⟩,⟨h2,h3,h4,h7⟩,h1,h5⟩
theorem light_any (q:Rq) (A:Option Addr) (cp:Nat) (w:World) (F:Nat→Prop) (hs:Sl w F 5 A q.ops.length (q.ops.flatMap OpR.cells)) :
  Calls Tryz.prog 19 #[.agg (q.cells A q.ops.length cp)] w (BoolPu (lightB q) w):=by
 obtain ⟨R,hR⟩:∃ R,lightB q=R:=⟨_,rfl⟩;rw [hR];have HR:=hI hR;have Hs:=hI hs;obtain ⟨k,tenant,col,uid,card,⟨ck,cv⟩,ops,token,most,ticks⟩:=q;have hb:=Blk.new w 32 ((Rq.mk k tenant col uid card ⟨ck,cv⟩ ops token most ticks).cells A ops.length cp);have hc:=hb.cell;have Hb:=hI hb;have Hp:=hI ((Kept.refl (fun _=>False) w).alloc (.cells ((Rq.mk k tenant col uid card ⟨ck,cv⟩ ops token most ticks).cells A ops.length cp) 32))
 obtain ⟨n,hn⟩:∃ n,ops.length=n:=⟨_,rfl⟩;have Hn:=hI hn;simp only at Hs ⊢;rw [hn] at hc Hb Hp ⊢;obtain ⟨b1,hb1⟩:∃ b,decide ((60:Int)<(tenant.size:Int))=b:=⟨_,rfl⟩;obtain ⟨b2,hb2⟩:∃ b,decide ((60:Int)<(col.size:Int))=b:=⟨_,rfl⟩;obtain ⟨b3,hb3⟩:∃ b,decide ((60:Int)<(uid.size:Int))=b:=⟨_,rfl⟩;obtain ⟨b4,hb4⟩:∃ b,decide ((2000:Int)<(card.size:Int))=b:=⟨_,rfl⟩;obtain ⟨b5,hb5⟩:∃ b,decide ((20:Int)<(n:Int))=b:=⟨_,rfl⟩
 clear hR hb hs hn;refine calls_kn Tryz.func19 rfl Tryz.ntmps19 rfl ?_;refine gz0 ?_;refine gz10 ?_;generalize w.alloc _=W at *;generalize w.heap.size=g at *;have hs1:=hI (Hs.out.kept (S:=fun _=>False) Hp.out (fun _ _ _ h=>h));refine gz0 ?_;cases b1;rotate_left
 ·have hR:R=false:=by rw [←HR.out];unfold lightB;simp only [Bool.and_eq_false_iff,decide_eq_false_iff_not];have:=of_decide_eq_true hb1;omega
  have HR2:=hI hR;clear hR;refine gz67 ?_;refine gz0 ?_;refine KR.fin1 Tryz.results19 rfl ⟨by rw [HR2.out],Hp.out⟩
 refine gz0 ?_;cases b2;rotate_left
 ·have hR:R=false:=by rw [←HR.out];unfold lightB;simp only [Bool.and_eq_false_iff,decide_eq_false_iff_not];have:=of_decide_eq_true hb2;omega
  have HR2:=hI hR;clear hR;refine gz67 ?_;refine gz0 ?_;refine KR.fin1 Tryz.results19 rfl ⟨by rw [HR2.out],Hp.out⟩
 refine gz0 ?_;cases b3;rotate_left
 ·have hR:R=false:=by rw [←HR.out];unfold lightB;simp only [Bool.and_eq_false_iff,decide_eq_false_iff_not];have:=of_decide_eq_true hb3;omega
  have HR2:=hI hR;clear hR;refine gz67 ?_;refine gz0 ?_;refine KR.fin1 Tryz.results19 rfl ⟨by rw [HR2.out],Hp.out⟩
 refine gz0 ?_;cases b4;rotate_left
 ·have hR:R=false:=by rw [←HR.out];unfold lightB;simp only [Bool.and_eq_false_iff,decide_eq_false_iff_not];have:=of_decide_eq_true hb4;omega
  have HR2:=hI hR;clear hR;refine gz67 ?_;refine gz0 ?_;refine KR.fin1 Tryz.results19 rfl ⟨by rw [HR2.out],Hp.out⟩
 refine gz0 ?_;cases b5;rotate_left
 ·have hR:R=false:=by rw [←HR.out];unfold lightB;simp only [Bool.and_eq_false_iff,decide_eq_false_iff_not];have:=of_decide_eq_true hb5;have:=Hn.out;omega
  have HR2:=hI hR;clear hR;refine gz0 ?_;refine KR.fin1 Tryz.results19 rfl ⟨by rw [HR2.out],Hp.out⟩
 refine gz0 ?_;have hn20:n≤20:=by have:=of_decide_eq_false hb5;omega
 have hR:R=ops.all opLite:=by
  rw [←HR.out];unfold lightB;have h1:=of_decide_eq_false hb1;have h2:=of_decide_eq_false hb2;have h3:=of_decide_eq_false hb3;have h4:=of_decide_eq_false hb4;have h6:=Hn.out;simp only;rw [decide_eq_true (by omega),decide_eq_true (by omega),decide_eq_true (by omega),decide_eq_true (by omega),decide_eq_true (by omega)]
  rfl
 have HR2:=hI hR;clear hR;refine KW.loop (ι:=Nat) (fun i=>[(1,.pointer (some ⟨g,0,none⟩)),(3,.int .i64 (i:Int))]) (fun i w'=>w'=W∧i≤n∧∀ j,j<i→∀ o,ops[j]? = some o→opLite o=true) (fun i=>n-i) 0 ⟨rfl,Nat.zero_le _,fun j hj=>absurd hj (by omega)⟩ (kle_ok (by repeat' (first|exact trivial|refine ⟨rfl,?_⟩))) ?_
 rintro i w2 ⟨e2,hin,hdone⟩;obtain rfl:=e2.symm;have Hdone:=hI hdone;clear hdone e2
 by_cases hlt:i<n
 ·have hd:decide ((i:Int)<(n:Int))=true:=by simp;omega
  obtain ⟨o,ho⟩:∃ o,ops[i]? = some o:=⟨_,List.getElem?_eq_getElem (by rw [Hn.out];exact hlt)⟩
  obtain ⟨b,off,hA,_⟩:=hs1.out.2 (by rw [Hn.out];omega)
  subst hA;obtain ⟨c0,c1,c2,c3,c4⟩:=op_cells hs1.out ho;have Ho:=hI ho;clear ho;obtain ⟨t1,ht1⟩:∃ b,decide ((60:Int)<(o.uid.size:Int))=b:=⟨_,rfl⟩;obtain ⟨t2,ht2⟩:∃ b,decide ((2000:Int)<(o.card.size:Int))=b:=⟨_,rfl⟩;have hop:opLite o=(!t1 && !t2):=by unfold opLite;rw [←ht1,←ht2,Bool.eq_iff_iff];simp only [Bool.and_eq_true,decide_eq_true_eq,Bool.not_eq_true',decide_eq_false_iff_not];omega
  have Hop:=hI hop;clear hop;refine gz0 ?_;cases t1
  ·refine gz0 ?_
   cases t2
   ·refine gz0 ?_
    refine gz26 ?_;refine gz0 ?_;refine KE.rnd (i+1) (by repeat' (first|exact trivial|refine ⟨rfl,?_⟩)) ⟨rfl,by omega,fun j hj p hp=>?_⟩ (by omega)
    by_cases hji:j<i
    ·exact Hdone.out j hji p hp
    ·obtain rfl:j=i:=by omega
     have:=Ho.out;rw [hp] at this;injection this with this;rw [this];exact Hop.out
   ·refine gz0 ?_
    refine KR.fin1 Tryz.results19 rfl ⟨by rw [HR2.out,show ops.all opLite=false from List.all_eq_false.2 ⟨o,List.mem_of_getElem? Ho.out,by rw [Hop.out];simp⟩],Hp.out⟩
  ·refine gz0 ?_
   refine KR.fin1 Tryz.results19 rfl ⟨by rw [HR2.out,show ops.all opLite=false from List.all_eq_false.2 ⟨o,List.mem_of_getElem? Ho.out,by rw [Hop.out];simp⟩],Hp.out⟩
 have hd:decide ((i:Int)<(n:Int))=false:=by simp;omega
 have hall:ops.all opLite=true:=by
  rw [List.all_eq_true];intro o ho;obtain ⟨j,hj,e⟩:=List.getElem_of_mem ho;exact cz76
 have Hall:=hI hall;clear hall;refine gz0 ?_;refine KR.fin1 Tryz.results19 rfl ⟨by rw [HR2.out,Hall.out],Hp.out⟩
end
section
open Go.RowKit Go.PlainAid
theorem as_cells {w:World} {F:Nat→Prop} {b o n:Nat} {l:List AsA} (h:Sl w F 12 (some ⟨b,o,none⟩) n (l.flatMap AsA.cells)) {i:Nat} {e:AsA} (he:l[i]? = some e) :
  w.cell? ⟨b,o+i*12,none⟩=some (.string e.tenant)∧w.cell? ⟨b,o+i*12+1,none⟩=some (.int .i64 e.r.q.kind)∧w.cell? ⟨b,o+i*12+2,none⟩=some (.string e.r.q.tenant)∧w.cell? ⟨b,o+i*12+3,none⟩=some (.string e.r.q.col)∧w.cell? ⟨b,o+i*12+4,none⟩=some (.string e.r.q.uid)∧w.cell? ⟨b,o+i*12+5,none⟩=some (.string e.r.q.card)∧w.cell? ⟨b,o+i*12+6,none⟩=some (.int .i64 e.r.q.cond.kind)∧w.cell? ⟨b,o+i*12+7,none⟩=some (.int .i64 e.r.q.cond.version)∧w.cell? ⟨b,o+i*12+8,none⟩=some (.slice e.r.A e.r.q.ops.length e.r.c)∧w.cell? ⟨b,o+i*12+9,none⟩=some (.int .i64 e.r.q.token)∧w.cell? ⟨b,o+i*12+10,none⟩=some (.int .i64 e.r.q.most)∧w.cell? ⟨b,o+i*12+11,none⟩=some (.int .i64 e.r.q.ticks):=by
 have hi:=(List.getElem?_eq_some_iff.1 he).1;have hn:l.length=n:=by have:=h.1;rw [fm_length _ 12 AsA.cells_len] at this;omega
 have hc:=fun j hj=>sl_at AsA.cells_len h (by omega) he (j:=j) hj
 exact ⟨hc 0 (by omega),hc 1 (by omega),hc 2 (by omega),hc 3 (by omega),hc 4 (by omega),hc 5 (by omega),hc 6 (by omega),hc 7 (by omega),hc 8 (by omega),hc 9 (by omega),hc 10 (by omega),hc 11 (by omega)⟩
def asLite (a:AsA):Bool:=lightB a.r.q&&decide (a.tenant.size≤60)
def asksB (l:List AsA):Bool:=decide (l.length≤60)&&l.all asLite
theorem asks_any (l:List AsA) (A:Option Addr) (cp:Nat) (W w:World) (hpw:Pure W w) (hs:Sl W (fun b=>b<W.heap.size) 12 A l.length (l.flatMap AsA.cells)) (hok:∀ a∈l,a.Ok W) :
  Calls Tryz.prog 7 #[.slice A l.length cp] w (BoolPu (asksB l) w):=by
 obtain ⟨R,hR⟩:∃ R,asksB l=R:=⟨_,rfl⟩;rw [hR];have HR:=hI hR;have Hs:=hI hs;have Hpw0:=hI hpw;have Hok:=hI hok;obtain ⟨n,hn⟩:∃ n,l.length=n:=⟨_,rfl⟩;have Hn:=hI hn;rw [hn];obtain ⟨b1,hb1⟩:∃ b,decide ((60:Int)<(n:Int))=b:=⟨_,rfl⟩;clear hR hs hn hpw hok;refine calls_kn Tryz.func7 rfl Tryz.ntmps7 rfl ?_;refine gz0 ?_;cases b1;rotate_left
 ·have hR:R=false:=by rw [←HR.out];unfold asksB;simp only [Bool.and_eq_false_iff,decide_eq_false_iff_not];have:=of_decide_eq_true hb1;have:=Hn.out;omega
  have HR2:=hI hR;clear hR;refine gz0 ?_;refine KR.fin1 Tryz.results7 rfl ⟨by rw [HR2.out],Kept.refl _ _⟩
 refine gz0 ?_;have hn60:n≤60:=by have:=of_decide_eq_false hb1;omega
 have hR:R=l.all asLite:=by
  rw [←HR.out];unfold asksB;have h6:=Hn.out;rw [decide_eq_true (by omega)]
  rfl
 have HR2:=hI hR;clear hR;refine KW.loop (ι:=Nat) (fun i=>[(0,.slice A n cp),(3,.int .i64 (i:Int))]) (fun i w'=>Pure w w'∧i≤n∧∀ j,j<i→∀ o,l[j]? = some o→asLite o=true) (fun i=>n-i) 0 ⟨Kept.refl _ _,Nat.zero_le _,fun j hj=>absurd hj (by omega)⟩ (kle_ok (by repeat' (first|exact trivial|refine ⟨rfl,?_⟩))) ?_
 rintro i w2 ⟨hpw,hin,hdone⟩;have Hdone:=hI hdone;have Hpw:=hI hpw;have hs1:=hI (Hs.out.kept (S:=fun _=>False) (Hpw0.out.same hpw) (fun _ _ _ h=>h));clear hdone hpw
 by_cases hlt:i<n
 ·have hd:decide ((i:Int)<(n:Int))=true:=by simp;omega
  obtain ⟨o,ho⟩:∃ o,l[i]? = some o:=⟨_,List.getElem?_eq_getElem (by rw [Hn.out];exact hlt)⟩
  obtain ⟨b,off,hA,_⟩:=hs1.out.2 (by rw [Hn.out];omega)
  subst hA;obtain ⟨c0,c1,c2,c3,c4,c5,c6,c7,c8,c9,c10,c11⟩:=as_cells hs1.out ho;have hop:=Hok.out o (List.mem_of_getElem? ho);have CL:=hI (light_any o.r.q o.r.A o.r.c w2 _ (hop.2.ops.kept (S:=fun _=>False) (Hpw0.out.same Hpw.out) (fun _ _ _ h=>h)));have Ho:=hI ho;clear ho hop;obtain ⟨lb,hlb⟩:∃ b,lightB o.r.q=b:=⟨_,rfl⟩;rw [hlb] at CL;obtain ⟨t1,ht1⟩:∃ b,decide ((60:Int)<(o.tenant.size:Int))=b:=⟨_,rfl⟩
  have hop:asLite o=(lb && !t1):=by unfold asLite;rw [←ht1,hlb];congr 1;rw [Bool.eq_iff_iff];simp only [decide_eq_true_eq,Bool.not_eq_true',decide_eq_false_iff_not];omega
  have Hop:=hI hop;have Hlb:=hI hlb;clear hop hlb;refine gz0 ?_;refine KL.call rfl rfl rfl rfl rfl (by go_simp) CL.out ?_
  rintro e w3 ⟨rfl,hk3⟩;refine ⟨_,rfl,?_⟩;have Hpw3:=hI (Hpw.out.same hk3);obtain ⟨c0,_⟩:=as_cells (hs1.out.kept (S:=fun _=>False) hk3 (fun _ _ _ h=>h)) Ho.out;clear hk3;cases lb
  ·refine gz0 ?_
   refine KR.fin1 Tryz.results7 rfl ⟨by rw [HR2.out,show l.all asLite=false from List.all_eq_false.2 ⟨o,List.mem_of_getElem? Ho.out,by rw [Hop.out];simp⟩],Hpw3.out⟩
  ·refine gz0 ?_
   cases t1
   ·refine gz0 ?_
    refine gz26 ?_;refine gz0 ?_;refine KE.rnd (i+1) (by repeat' (first|exact trivial|refine ⟨rfl,?_⟩)) ⟨Hpw3.out,by omega,fun j hj p hp=>?_⟩ (by omega)
    by_cases hji:j<i
    ·exact Hdone.out j hji p hp
    ·obtain rfl:j=i:=by omega
     have:=Ho.out;rw [hp] at this;injection this with this;rw [this];exact Hop.out
   ·refine gz0 ?_
    refine KR.fin1 Tryz.results7 rfl ⟨by rw [HR2.out,show l.all asLite=false from List.all_eq_false.2 ⟨o,List.mem_of_getElem? Ho.out,by rw [Hop.out];simp⟩],Hpw3.out⟩
 have hd:decide ((i:Int)<(n:Int))=false:=by simp;omega
 have hall:l.all asLite=true:=by
  rw [List.all_eq_true];intro o ho;obtain ⟨j,hj,e⟩:=List.getElem_of_mem ho;exact cz76
 have Hall:=hI hall;clear hall;refine gz0 ?_;refine KR.fin1 Tryz.results7 rfl ⟨by rw [HR2.out,Hall.out],Hpw.out⟩
def mayB (a:AsA):Bool:=nameB a.tenant&&(decide (chkR a.r.q=0)&&(!decide (a.r.q.kind=1) && !decide (a.r.q.kind=11)))
abbrev AsA.row (a:AsA):Array Value:=#[.string a.tenant,.int .i64 a.r.q.kind,.string a.r.q.tenant,.string a.r.q.col,.string a.r.q.uid,.string a.r.q.card,.int .i64 a.r.q.cond.kind,.int .i64 a.r.q.cond.version,.slice a.r.A a.r.q.ops.length a.r.c,.int .i64 a.r.q.token,.int .i64 a.r.q.most,.int .i64 a.r.q.ticks]
theorem may_any (a:AsA) (w:World) (F:Nat→Prop) (ht:a.tenant.size≤maxLen) (hl:a.r.q.Lim) (hs:Sl w F 5 a.r.A a.r.q.ops.length (a.r.q.ops.flatMap OpR.cells)) :
  Calls Tryz.prog 10 #[.agg a.row] w (BoolPu (mayB a) w):=by
 obtain ⟨R,hR⟩:∃ R,mayB a=R:=⟨_,rfl⟩;rw [hR];have HR:=hI hR;have Hs:=hI hs;have Hl:=hI hl;have hb:=Blk.new w 39 a.row;have hc:=hb.cell;have Hb:=hI hb;have Hp:=hI ((Kept.refl (fun _=>False) w).alloc (.cells a.row 39));have CN:=hI (fun w=>ref_name a.tenant w ht);obtain ⟨n1,hn1⟩:∃ b,nameB a.tenant=b:=⟨_,rfl⟩;obtain ⟨z,hz⟩:∃ z,chkR a.r.q=z:=⟨_,rfl⟩;obtain ⟨zb,hzb⟩:∃ b,decide (z=0)=b:=⟨_,rfl⟩
 obtain ⟨k1,hk1⟩:∃ b,(!decide (a.r.q.kind=1))=b:=⟨_,rfl⟩;obtain ⟨k11,hk11⟩:∃ b,(!decide (a.r.q.kind=11))=b:=⟨_,rfl⟩;rw [hn1] at CN;have Hz:=hI hz;have Hn1:=hI hn1;clear hR hb hs hl ht hz hn1;refine calls_kn Tryz.func10 rfl Tryz.ntmps10 rfl ?_;refine gz0 ?_;refine gz10 ?_;generalize w.alloc _=W at *;generalize w.heap.size=g at *;refine gz0 ?_;refine KL.call rfl rfl rfl rfl rfl (by go_simp) (CN.out W) ?_
 rintro e w' ⟨rfl,rfl⟩;refine ⟨_,rfl,?_⟩;cases n1
 ·refine gz0 ?_
  refine KR.fin1 Tryz.results10 rfl ⟨by rw [←HR.out];unfold mayB;rw [Hn1.out];rfl,Hp.out⟩
 refine gz0 ?_;refine KL.call rfl rfl rfl rfl rfl (by go_simp) (ref_check a.r.q a.r.A a.r.c W F Hl.out (Hs.out.kept (S:=fun _=>False) Hp.out (fun _ _ _ h=>h))) ?_
 rintro e w2 ⟨rfl,hk2⟩;refine ⟨_,rfl,?_⟩;rw [Hz.out];have Hp2:=hI (Hp.out.same hk2);have hc2:=(Hb.out.kept hk2 (fun h=>h)).cell;clear hk2 hc;refine gz0 ?_;cases zb
 ·refine gz0 ?_
  refine KR.fin1 Tryz.results10 rfl ⟨by rw [←HR.out];unfold mayB;rw [Hn1.out,Hz.out,hzb];rfl,Hp2.out⟩
 refine gz0 ?_;cases k1
 ·refine gz0 ?_
  refine KR.fin1 Tryz.results10 rfl ⟨by rw [←HR.out];unfold mayB;rw [Hn1.out,Hz.out,hzb,hk1];rfl,Hp2.out⟩
 refine gz0 ?_;cases k11
 ·refine gz0 ?_
  refine KR.fin1 Tryz.results10 rfl ⟨by rw [←HR.out];unfold mayB;rw [Hn1.out,Hz.out,hzb,hk1,hk11];rfl,Hp2.out⟩
 refine gz0 ?_;refine KR.fin1 Tryz.results10 rfl ⟨by rw [←HR.out];unfold mayB;rw [Hn1.out,Hz.out,hzb,hk1,hk11];rfl,Hp2.out⟩
theorem writes_any (k:Int) (w:World):Calls Tryz.prog 55 #[.int .i64 k] w fun e w'=>e = .returned (.bool (writesB k))∧w'=w:=by
 obtain ⟨R,hR⟩:∃ R,writesB k=R:=⟨_,rfl⟩;rw [hR];have HR:=hI hR;obtain ⟨b2,hb2⟩:∃ b,decide (k=2)=b:=⟨_,rfl⟩;obtain ⟨b3,hb3⟩:∃ b,decide (k=3)=b:=⟨_,rfl⟩;obtain ⟨b4,hb4⟩:∃ b,decide (k=4)=b:=⟨_,rfl⟩;obtain ⟨b5,hb5⟩:∃ b,decide (k=5)=b:=⟨_,rfl⟩;obtain ⟨b7,hb7⟩:∃ b,decide (k=7)=b:=⟨_,rfl⟩;have hw:R=(b2||(b3||(b4||(b5||b7)))):=by
  rw [←HR.out,←hb2,←hb3,←hb4,←hb5,←hb7];unfold writesB;simp
 have Hw:=hI hw;clear hR hw;refine calls_kn Tryz.func55 rfl Tryz.ntmps55 rfl ?_;refine gz0 ?_;cases b2 <;> cases b3 <;> cases b4 <;> cases b5 <;> cases b7
 all_goals
  refine gz0 ?_;refine KR.fin1 Tryz.results55 rfl ⟨by rw [Hw.out];rfl,rfl⟩
end
section
open Go.RowKit Go.PlainAid
theorem co_mono {M N g:Nat} {x:Co} {w:World} {F:Nat→Prop} (h:(coC M g x).p w F) (hMN:M≤N):(coC N g x).p w F:=by
 obtain ⟨a,hl,hs⟩:=h;exact ⟨a,hl,Star.map (i:=2) hs rfl (Q:=bdC N x.cf.quota a.gb x.bg) (fun G ⟨bl,h1,h2,h3⟩=>⟨bl,Nat.le_trans h1 hMN,h2,h3⟩)⟩
def DoP (N g:Nat) (W w₀:World) (F:Nat→Prop) (Ps:List Ch) (D:Rs×Bool×Co) (e:Ending) (w':World):Prop :=
 ∃ (B:Option Addr) (c:Nat),e = .returned (.tuple #[.agg (rspA D.1.kind D.1.err D.1.token D.1.version D.1.card D.1.index D.1.more B D.1.items.length c),.bool D.2.1])∧Run w₀ F w' (coC (N+4) g D.2.2::oldC W::itC B D.1.items.length D.1.items::Ps)
section
variable {w₀ w W:World} {F:Nat→Prop} {Ps:List Ch} {P1 P2 P3 P4:Ch} {M N g n:Nat} {x:Co} {B:Option Addr} {l:List It}
theorem do_close0 (h:Run w₀ F w (coC M g x::oldC W::P1::P2::Ps)) (hM:M≤N+4):Run w₀ F w (coC (N+4) g x::oldC W::itC none 0 []::Ps):=by
 have h1:Run w₀ F w (coC M g x::oldC W::Ps):=(h.drop 2).drop 2;have h2:Run w₀ F w (coC (N+4) g x::oldC W::Ps):=h1.map 0 rfl (fun G h=>co_mono h hM);have h3:Run w₀ F w (itC none 0 []::coC (N+4) g x::oldC W::Ps):=h2.add (Kept.refl _ _) (Sl.nil _ _ _ _);exact h3.perm (List.perm_middle (l₁:=[coC (N+4) g x,oldC W])).symm
theorem do_close1 (h:Run w₀ F w (coC M g x::oldC W::itC B n l::P1::P2::Ps)) (hM:M≤N+4):Run w₀ F w (coC (N+4) g x::oldC W::itC B n l::Ps) :=
 Run.map ((h.drop 3).drop 3) 0 rfl (fun G h=>co_mono h hM)
theorem do_close2 (h:Run w₀ F w (P3::coC M g x::oldC W::itC B n l::P1::P2::Ps)) (hM:M≤N+4):Run w₀ F w (coC (N+4) g x::oldC W::itC B n l::Ps):=do_close1 (h.drop 0) hM
theorem do_perm (h:Run w₀ F w (P1::P2::P3::P4::Ps)):Run w₀ F w (P3::P4::P1::P2::Ps):=h.perm ((List.perm_append_comm (l₁:=[P1,P2]) (l₂:=[P3,P4])).append_right Ps)
end
theorem applyAll_snoc (id tk:Int) (o:OpR):∀ (l:List OpR) (x:Co),Co.applyAll id tk x (l++[o])=((Co.applyAll id tk x l).1&&((Co.applyAll id tk x l).2.apply id o tk).1,((Co.applyAll id tk x l).2.apply id o tk).2)
 | [],x=>by simp [Co.applyAll]
 | p::l,x=>by
  rw [List.cons_append];simp only [Co.applyAll];rw [applyAll_snoc id tk o l];simp [Bool.and_assoc]
theorem work_kind (x:Co) (id:Int) (q:Rq):(x.work id q).1.kind=q.kind:=by
 unfold Co.work;cases hx:x.at id with
 | none=>rfl
 | some p =>
  simp only
  split
  ·rfl
  ·split
   ·rename_i h3;unfold dropRs;split <;> exact h3.symm
   ·split
    ·rename_i h3;exact h3.symm
    ·split
     ·rename_i h3;exact h3.symm
     ·split
      ·rename_i h3;exact h3.symm
      ·split
       ·rename_i h3;unfold getRs;split <;> exact h3.symm
       ·split
        ·rename_i h3;exact h3.symm
        ·split
         ·rename_i h3;unfold waitRs;split <;> exact h3.symm
         ·rfl
theorem do_any (w₀ W w:World) (F:Nat→Prop) (N g k:Nat) (x:Co) (a:AsA) (Ps:List Ch) (hr:Run w₀ F w (coC N g x::oldC W::Ps)) (ha:a.Ok W) (ht:a.tenant.size≤60) (hq:a.r.q.Lite) (hn:a.r.q.ops.length≤1000) (hok:x.OkK k) (hk:k≤900) (hiv:x.Iv) (hN:N≤70000) :
  Calls Tryz.prog 12 #[pV g,.agg a.row] w (DoP N g W w₀ F Ps (x.doit ⟨a.tenant,a.r.q⟩)):=by
 obtain ⟨tenant,q,A,cp⟩:=a;simp only at ht hq hn;obtain ⟨D,hD⟩:∃ D,x.doit ⟨tenant,q⟩=D:=⟨_,rfl⟩;rw [hD];have HD:=hI hD;have Hok:=hI hok;have Hiv:=hI hiv;have Hq:=hI hq;have Ha:=hI ha;have Hn:=hI hn;have hr1:=(hr.addBlk (AsA.row ⟨tenant,q,A,cp⟩) 39).addBlk zR 45;have hr2:=hI (do_perm hr1);obtain ⟨k2,hk2⟩:∃ b,decide (q.kind=2)=b:=⟨_,rfl⟩;obtain ⟨k10,hk10⟩:∃ b,decide (q.kind=10)=b:=⟨_,rfl⟩
 obtain ⟨k7,hk7⟩:∃ b,decide (q.kind=7)=b:=⟨_,rfl⟩;clear hD hok hiv hq ha hn hr hr1;refine calls_kn Tryz.func12 rfl Tryz.ntmps12 rfl ?_;refine gz0 ?_;refine KL.makes (v:=.pointer (some ⟨World.heap w |>.size,0,none⟩)) rfl rfl rfl (fun ρ hρ=>by have e:=hρ (.tmp 1) _ rfl;simp only [execOp,e];go_simp;first|done|rfl) ?_
 generalize w.alloc _=w1 at *;generalize w.heap.size=g3 at *;refine KL.makes (v:=.pointer (some ⟨World.heap w1 |>.size,0,none⟩)) rfl rfl rfl (fun ρ hρ=>by simp only [execOp];go_simp;first|done|rfl) ?_
 simp only [zR] at hr2;generalize w1.alloc _=w2 at *;generalize w1.heap.size=g4 at *;have hc3:=(hr2.out.blk 3 rfl).cell;refine gz0 ?_;cases k2;rotate_left
 ·have CC:=hI (hr2.out.turn1 0 rfl (fun G hG hp=>co_create w2 G N g x tenant q.col hp (Hok.out.ok (by omega)) (by omega) (by omega) (by have:=Hq.out.col;omega)))
  have hd:x.doit ⟨tenant,q⟩=(⟨2,(x.create tenant q.col).1,(x.create tenant q.col).2.1,0,⟨#[]⟩,0,false,[]⟩,true,(x.create tenant q.col).2.2):=by unfold Co.doit;rw [if_pos (of_decide_eq_true hk2)]
  have Hd:=hI hd;clear hd;refine gz0 ?_;refine KL.call rfl rfl rfl rfl rfl (by go_simp) (CC.out) ?_
  rintro e w3 ⟨rfl,hr4⟩;refine ⟨_,rfl,?_⟩;refine KL.storeB rfl rfl rfl rfl rfl (hr4.blk 2 rfl) rfl (by kernel_rfl) (by kernel_rfl) ?_
  intro w5 hb5 hk5;have hr5:=hI (hr4.turn 2 rfl hb5 hk5);have Hb5:=hI hb5;clear hr4 hb5 hk5 CC;refine gz0 ?_;refine gz72 ?_;rw [←HD.out,Hd.out];exact ⟨none,0,rfl,do_close0 hr5.out (by omega)⟩
 refine gz0 ?_;cases k10;rotate_left
 ·have hes:x.es.length≤1000:=by have:=Hok.out.ln;omega
  have CC:=hI (co_list w2 _ N g x tenant (hr2.out.get (P:=coC N g x) 0 rfl) (by omega) hes Hiv.out.co_ix Hiv.out.ri Hiv.out.key)
  have hd:x.doit ⟨tenant,q⟩=(x.list tenant,true,x):=by unfold Co.doit;rw [if_neg (of_decide_eq_false hk2),if_pos (of_decide_eq_true hk10)]
  have Hd:=hI hd;clear hd hes;refine gz0 ?_;refine KL.call rfl rfl rfl rfl rfl (by go_simp) (CC.out) ?_
  rintro e w3 ⟨B,c,rfl,hsl,hp3⟩;refine ⟨_,rfl,?_⟩;have hr4:=hr2.out.add (Q:=itC B (x.list tenant).items.length (x.list tenant).items) hp3 hsl;refine KL.storeB rfl rfl rfl rfl rfl (hr4.blk 3 rfl) rfl (by kernel_rfl) (by kernel_rfl) ?_
  intro w5 hb5 hk5;have hr5:=hI (hr4.turn 3 rfl hb5 hk5);have Hb5:=hI hb5;clear hr4 hb5 hk5 CC hsl hp3;refine gz0 ?_;refine gz72 ?_;rw [←HD.out,Hd.out];exact ⟨B,c,rfl,do_close1 (Run.perm hr5.out (List.perm_middle (l₁:=[coC N g x,oldC W])).symm) (by omega)⟩
 refine gz0 ?_;have CF:=hI (show Calls Tryz.prog 13 _ w2 _ from co_find w2 _ N g x tenant q.col (hr2.out.get (P:=coC N g x) 0 rfl) (by omega) (by have:=Hq.out.col;omega))
 obtain ⟨id,hid⟩:∃ id,x.find tenant q.col=id:=⟨_,rfl⟩;rw [hid] at CF;have Hfi:=hI hid;clear hid;obtain ⟨ineg,hineg⟩:∃ b,decide (id<0)=b:=⟨_,rfl⟩;refine KL.call rfl rfl rfl rfl rfl (by go_simp) (CF.out) ?_
 rintro e w3 ⟨rfl,hk3⟩;refine ⟨_,rfl,?_⟩;have hr3:=hI (hr2.out.pure hk3);have hc3':=(hr3.out.blk 3 rfl).cell;clear hc3 hk3 CF hr2;refine gz0 ?_;cases ineg;rotate_left
 ·have hd:x.doit ⟨tenant,q⟩=(rsErr q.kind 4,true,x):=by unfold Co.doit;rw [if_neg (of_decide_eq_false hk2),if_neg (of_decide_eq_false hk10),if_pos (by simp only;rw [Hfi.out];exact of_decide_eq_true hineg)]
  have Hd:=hI hd;clear hd;refine gz0 ?_;refine KL.told (v:=.agg #[.int .i64 q.kind,.int .i64 4,.int .i64 0,.int .i64 0,.string ⟨#[]⟩,.int .i64 0,.bool false,.slice none 0 0]) rfl rfl rfl (fun ρ hρ=>by have e:=hρ (.tmp 41) _ rfl;have e':=hρ (.const (.int .i64 4)) _ rfl;simp only [execOp];go_simp;first|done|rfl) ?_
  refine KL.storeB rfl rfl rfl rfl rfl (hr3.out.blk 2 rfl) rfl (by kernel_rfl) (by kernel_rfl) ?_
  intro w5 hb5 hk5;have hr5:=hI (hr3.out.turn 2 rfl hb5 hk5);have Hb5:=hI hb5;clear hb5 hk5;refine gz0 ?_;refine gz72 ?_;rw [←HD.out,Hd.out];exact ⟨none,0,rfl,do_close0 hr5.out (by omega)⟩
 have hd:x.doit ⟨tenant,q⟩=x.doW id q:=by unfold Co.doit;rw [if_neg (of_decide_eq_false hk2),if_neg (of_decide_eq_false hk10)];simp only;rw [Hfi.out,if_neg (of_decide_eq_false hineg)]
 rw [HD.out] at hd;have Hd:=hI hd;clear hd HD Hfi;refine gz0 ?_;refine KL.call rfl rfl rfl rfl rfl (by go_simp) (writes_any q.kind w3) ?_
 rintro e w4 ⟨rfl,e4⟩;refine ⟨_,rfl,?_⟩;obtain rfl:=e4.symm;clear e4;obtain ⟨wr,hwr⟩:∃ b,writesB q.kind=b:=⟨_,rfl⟩;rw [hwr];have Hwr:=hI hwr;clear hwr;obtain ⟨lk,hlk⟩:∃ b,(x.lock id 5 wr).1=b:=⟨_,rfl⟩;obtain ⟨x1,hx1⟩:∃ y,(x.lock id 5 wr).2=y:=⟨_,rfl⟩;have CL:=hr3.out.turn1 0 rfl (fun G hG hp=>co_lock w3 G N g x id 5 wr hp (fun p hp=>by have:=(Hok.out.pl p hp).2.1;omega))
 have hok1:=Hok.out.lock id 5 wr;have hiv1:=Hiv.out.lock id 5 wr;rw [hlk,hx1] at CL;rw [hx1] at hok1 hiv1;have CL:=hI CL;have Hok1:=hI hok1;have Hiv1:=hI hiv1;have Hlk:=hI hlk;have Hx1:=hI hx1;clear hok1 hiv1 hlk hx1;refine gz0 ?_;refine KL.call rfl rfl rfl rfl rfl (by go_simp) (CL.out) ?_
 rintro e w4 ⟨rfl,hr4⟩;refine ⟨_,rfl,?_⟩;have hc4:=(hr4.blk 3 rfl).cell;have CW:=Run.work (q:=q) (x':=(x1.work id q).2) (r:=(x1.work id q).1) hr4 (fun G a' hl h=>co_work w4 G N g a' x1 id q A q.ops.length cp (oldC W) hl h (Hok1.out.ok (by omega)) (by omega) (by have:=Hq.out.card;omega) Hn.out Ha.out.2.lc (fun o ho=>by have:=(Hq.out.ops o ho).2;omega) Hiv1.out.ut Ha.out.2.fit.2.2.2.2.2.2.2.2.2.1.2 (fun w G h=>old_sl h Ha.out.2.ops))
 have hok2:=okk_work Hok1.out Hq.out id;obtain ⟨⟨rk,err,tok,ver,card,ix,more,items⟩,hrr⟩:∃ r,(x1.work id q).1=r:=⟨_,rfl⟩;obtain ⟨x2,hx2⟩:∃ y,(x1.work id q).2=y:=⟨_,rfl⟩;rw [hrr,hx2] at CW;rw [hx2] at hok2;have CW:=hI CW;have Hok2:=hI hok2;have Hrr:=hI hrr;have Hx2:=hI hx2;clear hr4 hok2 hrr hx2 hc3' hr3 CL;refine gz0 ?_;refine gz35 ?_;rintro e w5 ⟨B,c,rfl,hr5⟩;refine ⟨_,rfl,?_⟩
 simp only at hr5;have Hr5:=hI hr5;clear hr5 CW hc4;refine gz0 ?_;have hr6:=Hr5.out.addBlk zR 45;refine KL.makes (v:=.pointer (some ⟨World.heap w5 |>.size,0,none⟩)) rfl rfl rfl (fun ρ hρ=>by simp only [execOp];go_simp;first|done|rfl) ?_
 simp only [zR] at hr6;generalize w5.alloc _=w6 at *;generalize w5.heap.size=g9 at *;refine KL.storeB rfl rfl rfl rfl rfl (hr6.blk 0 rfl) rfl (by kernel_rfl) (by kernel_rfl) ?_
 intro w7 hb7 hk7';have hr7:=hr6.turn 0 rfl hb7 hk7';have hc9:=hb7.cell;have hf9:=hb7.frozen;have hc3:=(hr7.blk 5 rfl).cell;have Hr7:=hI hr7;clear hr6 hb7 hk7' hr7 Hr5;obtain ⟨e0,he0⟩:∃ b,decide (err=0)=b:=⟨_,rfl⟩;refine gz0 ?_;cases k7
 ·have hmid:x1.mid id q=(true,x2):=by unfold Co.mid;rw [if_neg (by rintro ⟨h,_⟩;exact of_decide_eq_false hk7 h),Hx2.out]
  have Hmid:=hI hmid;clear hmid;have Hok3:=hI (Hok2.out);have Hr8:Hid (Run w₀ F w7 (blkC g9 45 (rspA q.kind err tok ver card ix more none 0 0)::coC (N+2) g x2::oldC W::itC B items.length items::blkC g4 45 zR::blkC g3 39 (AsA.row ⟨tenant,q,A,cp⟩)::Ps)):=Hr7;obtain ⟨mb,hmb⟩:∃ b,true=b:=⟨true,rfl⟩;rw [hmb] at Hmid;have Hokv:=hI (show lk=(lk&&mb) by rw [←hmb];simp)
  clear hmb;clear hc9 hf9 hc3;have hcr:=(Hr8.out.blk 0 rfl).cell;have hfr:=(Hr8.out.blk 0 rfl).frozen;refine gz0 ?_;refine gz46 ?_;have hr9:=Hr8.out.set 0 rfl 7 (.slice B items.length c);obtain ⟨wA,hwA⟩:∃ y,World.setCell w7 ⟨g9,7,none⟩ (.slice B items.length c)=y:=⟨_,rfl⟩;rw [hwA] at hr9 ⊢;have CU:=hI (hr9.turn1 1 rfl (fun G hG hp=>co_unlock wA G (N+2) g x2 id 5 wr hp (fun p hp=>by have:=(Hok3.out.pl p hp).2.1;omega) (by have:=Hok3.out.ln;omega)))
  have hok4:=Hok3.out.unlock id 5 wr;obtain ⟨x4,hx4⟩:∃ y,Co.unlock x2 id 5 wr=y:=⟨_,rfl⟩;rw [hx4] at CU hok4;have Hx4:=hI hx4;have Hok4:=hI hok4;clear hr9 hwA hcr hfr hok4 hx4;refine gz0 ?_;refine KL.call rfl rfl rfl rfl rfl (by go_simp) (CU.out) ?_
  rintro e wB ⟨rfl,hrB⟩;refine ⟨_,rfl,?_⟩;have hrd:=hrB.drew;have hb9:=hrd.blk 0 rfl;refine gz0 ?_;refine gz52 ?_;clear hrB CU;generalize wB.drew=wC at *;refine gz57 ?_;obtain ⟨hz,hhz⟩:∃ z,x4.held id 5=z:=⟨_,rfl⟩;obtain ⟨zb,hzb⟩:∃ b,decide (hz=0)=b:=⟨_,rfl⟩;have hdw:x.doW id q=(⟨rk,err,tok,ver,card,ix,more,items⟩,((lk&&mb)&&decide (hz=0)),x4):=by
   unfold Co.doW;rw [Hwr.out,Hlk.out,Hx1.out,Hrr.out,Hmid.out];simp only;rw [Hx4.out,hhz]
  have hrk:rk=q.kind:=by have:=work_kind x1 id q;rw [Hrr.out] at this;exact this
  rw [←Hokv.out,hzb] at hdw;rw [←Hd.out] at hdw;have Hdw:=hI hdw;have CH:=co_held wC _ (N+2) g x4 id 5 (hrd.get (P:=coC (N+2) g x4) 1 rfl) (fun p hp=>by have:=(Hok4.out.pl p hp).2.1;omega)
  unfold Reads at CH;rw [hhz] at CH;have CH:=hI CH;have Hrd:=hI hrd;have Hb9:=hI hb9;clear hdw hrd hb9 hhz;refine gz7 ?_;cases lk
  ·refine gz7 ?_
   refine KS.storeB (by decide) rfl rfl rfl rfl rfl (Hrd.out.blk 4 rfl) rfl (by kernel_rfl) (by kernel_rfl) (fun wF hbF hkF=>⟨(Hrd.out.turn 4 rfl hbF hkF).blk 0 rfl,?_⟩)
   have Hrf:=hI (Hrd.out.turn 4 rfl hbF hkF);have HbF:=hI hbF;clear hbF hkF;refine gz7 ?_;refine gz0 ?_;refine gz36 ?_;rw [Hdw.out];subst hrk;exact cz65
  ·refine gz7 ?_
   refine KS.call (by decide) rfl rfl rfl rfl rfl (by go_simp) CH.out ?_
   rintro e wE ⟨rfl,hkE⟩;refine ⟨_,rfl,Hb9.out.kept hkE (fun h=>h),?_⟩;have HrE:=hI (Hrd.out.pure hkE);clear hkE;refine gz7 ?_;refine KS.storeB (by decide) rfl rfl rfl rfl rfl (HrE.out.blk 4 rfl) rfl (by kernel_rfl) (by kernel_rfl) (fun wF hbF hkF=>⟨(HrE.out.turn 4 rfl hbF hkF).blk 0 rfl,?_⟩)
   have Hrf:=hI (HrE.out.turn 4 rfl hbF hkF);have HbF:=hI hbF;clear hbF hkF;refine gz7 ?_;refine gz0 ?_;refine gz36 ?_;rw [Hdw.out];subst hrk;exact cz65
 ·refine gz0 ?_
  cases e0
  ·have hmid:x1.mid id q=(true,x2):=by unfold Co.mid;rw [if_neg (by rintro ⟨_,h⟩;rw [Hrr.out] at h;exact of_decide_eq_false he0 h),Hx2.out]
   have Hmid:=hI hmid;clear hmid;have Hok3:=hI (Hok2.out);have Hr8:Hid (Run w₀ F w7 (blkC g9 45 (rspA q.kind err tok ver card ix more none 0 0)::coC (N+2) g x2::oldC W::itC B items.length items::blkC g4 45 zR::blkC g3 39 (AsA.row ⟨tenant,q,A,cp⟩)::Ps)):=Hr7;obtain ⟨mb,hmb⟩:∃ b,true=b:=⟨true,rfl⟩;rw [hmb] at Hmid;have Hokv:=hI (show lk=(lk&&mb) by rw [←hmb];simp)
   clear hmb;clear hc9 hf9 hc3;have hcr:=(Hr8.out.blk 0 rfl).cell;have hfr:=(Hr8.out.blk 0 rfl).frozen;refine gz0 ?_;refine gz46 ?_;have hr9:=Hr8.out.set 0 rfl 7 (.slice B items.length c);obtain ⟨wA,hwA⟩:∃ y,World.setCell w7 ⟨g9,7,none⟩ (.slice B items.length c)=y:=⟨_,rfl⟩;rw [hwA] at hr9 ⊢;have CU:=hI (hr9.turn1 1 rfl (fun G hG hp=>co_unlock wA G (N+2) g x2 id 5 wr hp (fun p hp=>by have:=(Hok3.out.pl p hp).2.1;omega) (by have:=Hok3.out.ln;omega)))
   have hok4:=Hok3.out.unlock id 5 wr;obtain ⟨x4,hx4⟩:∃ y,Co.unlock x2 id 5 wr=y:=⟨_,rfl⟩;rw [hx4] at CU hok4;have Hx4:=hI hx4;have Hok4:=hI hok4;clear hr9 hwA hcr hfr hok4 hx4;refine gz0 ?_;refine KL.call rfl rfl rfl rfl rfl (by go_simp) (CU.out) ?_
   rintro e wB ⟨rfl,hrB⟩;refine ⟨_,rfl,?_⟩;have hrd:=hrB.drew;have hb9:=hrd.blk 0 rfl;refine gz0 ?_;refine gz52 ?_;clear hrB CU;generalize wB.drew=wC at *;refine gz57 ?_;obtain ⟨hz,hhz⟩:∃ z,x4.held id 5=z:=⟨_,rfl⟩;obtain ⟨zb,hzb⟩:∃ b,decide (hz=0)=b:=⟨_,rfl⟩;have hdw:x.doW id q=(⟨rk,err,tok,ver,card,ix,more,items⟩,((lk&&mb)&&decide (hz=0)),x4):=by
    unfold Co.doW;rw [Hwr.out,Hlk.out,Hx1.out,Hrr.out,Hmid.out];simp only;rw [Hx4.out,hhz]
   have hrk:rk=q.kind:=by have:=work_kind x1 id q;rw [Hrr.out] at this;exact this
   rw [←Hokv.out,hzb] at hdw;rw [←Hd.out] at hdw;have Hdw:=hI hdw;have CH:=co_held wC _ (N+2) g x4 id 5 (hrd.get (P:=coC (N+2) g x4) 1 rfl) (fun p hp=>by have:=(Hok4.out.pl p hp).2.1;omega)
   unfold Reads at CH;rw [hhz] at CH;have CH:=hI CH;have Hrd:=hI hrd;have Hb9:=hI hb9;clear hdw hrd hb9 hhz;refine gz7 ?_;cases lk
   ·refine gz7 ?_
    refine KS.storeB (by decide) rfl rfl rfl rfl rfl (Hrd.out.blk 4 rfl) rfl (by kernel_rfl) (by kernel_rfl) (fun wF hbF hkF=>⟨(Hrd.out.turn 4 rfl hbF hkF).blk 0 rfl,?_⟩)
    have Hrf:=hI (Hrd.out.turn 4 rfl hbF hkF);have HbF:=hI hbF;clear hbF hkF;refine gz7 ?_;refine gz0 ?_;refine gz36 ?_;rw [Hdw.out];subst hrk;exact cz65
   ·refine gz7 ?_
    refine KS.call (by decide) rfl rfl rfl rfl rfl (by go_simp) CH.out ?_
    rintro e wE ⟨rfl,hkE⟩;refine ⟨_,rfl,Hb9.out.kept hkE (fun h=>h),?_⟩;have HrE:=hI (Hrd.out.pure hkE);clear hkE;refine gz7 ?_;refine KS.storeB (by decide) rfl rfl rfl rfl rfl (HrE.out.blk 4 rfl) rfl (by kernel_rfl) (by kernel_rfl) (fun wF hbF hkF=>⟨(HrE.out.turn 4 rfl hbF hkF).blk 0 rfl,?_⟩)
    have Hrf:=hI (HrE.out.turn 4 rfl hbF hkF);have HbF:=hI hbF;clear hbF hkF;refine gz7 ?_;refine gz0 ?_;refine gz36 ?_;rw [Hdw.out];subst hrk;exact cz65
  ·have hmid:x1.mid id q=Co.applyAll id tok x2 q.ops:=by
    unfold Co.mid;rw [if_pos ⟨of_decide_eq_true hk7,by rw [Hrr.out];exact of_decide_eq_true he0⟩,Hrr.out,Hx2.out]
   have Hmid0:=hI hmid;clear hmid;refine gz0 ?_;refine KW.loop (ι:=Nat×Bool) (fun p=>[(0,pV g),(3,.pointer (some ⟨g3,0,none⟩)),(4,.pointer (some ⟨g4,0,none⟩)),(6,.int .i64 id),(7,.bool wr),(8,.bool p.2),(9,.pointer (some ⟨g9,0,none⟩)),(10,.slice B items.length c),(11,.int .i64 (p.1:Int))]) (fun p w'=>p.1≤q.ops.length∧p.2=(lk&&(Co.applyAll id tok x2 (q.ops.take p.1)).1)∧Run w₀ F w' (blkC g9 45 (rspA q.kind err tok ver card ix more none 0 0)::coC (N+2) g (Co.applyAll id tok x2 (q.ops.take p.1)).2::oldC W::itC B items.length items::blkC g4 45 zR::blkC g3 39 (AsA.row ⟨tenant,q,A,cp⟩)::Ps)) (fun p=>q.ops.length-p.1) (0,lk) ⟨Nat.zero_le _,by simp [Co.applyAll],Hr7.out⟩ (kle_ok (by repeat' (first|exact trivial|refine ⟨?_,?_⟩|rfl))) ?_
   rintro ⟨i,bi⟩ w8 ⟨hin,hbi,hrw⟩;simp only at hin hbi hrw;obtain ⟨⟨ab,xi⟩,hxi⟩:∃ p,Co.applyAll id tok x2 (q.ops.take i)=p:=⟨_,rfl⟩;rw [hxi] at hbi hrw;have hoki:xi.OkK (k+1):=by
    have:=okk_all id tok (q.ops.take i) Hok2.out (fun o ho=>by have:=(Hq.out.ops o (List.mem_of_mem_take ho)).2;omega)
    rw [hxi] at this;exact this
   have Hoki:=hI hoki;have Hxi:=hI hxi;have Hbi:=hI hbi;have Hrw:=hI hrw;have hcq:=(hrw.blk 5 rfl).cell;have hcr:=(hrw.blk 0 rfl).cell;clear hoki hxi hbi hrw hc9 hf9 hc3
   by_cases hlt:i<q.ops.length
   ·have hd:decide ((i:Int)<(q.ops.length:Int))=true:=by simp;omega
    obtain ⟨o,ho⟩:∃ o,q.ops[i]? = some o:=⟨_,List.getElem?_eq_getElem hlt⟩;obtain ⟨b,off,hA,_⟩:=Ha.out.2.ops.2 (by simp only;omega)
    simp only at hA;subst hA;have Ho:=hI ho;clear ho;refine gz0 ?_;have hrd:=Hrw.out.drew;refine KW.regionS (fun _=>True) [10] [] (by kernel_rfl) (by kernel_rfl) (by kernel_rfl) trivial ?_
    clear hcq hcr;generalize w8.drew=w9 at *;have hcq:=(hrd.blk 5 rfl).cell;have hcr:=(hrd.blk 0 rfl).cell;obtain ⟨c0,c1,c2,c3,c4⟩:=op_cells (old_sl (hrd.get (P:=oldC W) 2 rfl) Ha.out.2.ops) Ho.out;obtain ⟨ap,hap⟩:∃ b,(xi.apply id o tok).1=b:=⟨_,rfl⟩;have CA:=hrd.turn1 1 rfl (fun G hG hp=>co_apply w9 G (N+2) g xi id tok o hp (Hoki.out.ok (by omega)) (by have:=(Hq.out.ops o (List.mem_of_getElem? Ho.out)).2;omega))
    rw [hap] at CA;have CA:=hI CA;have hnx:Co.applyAll id tok x2 (q.ops.take (i+1))=(ab&&ap,(xi.apply id o tok).2):=by
     rw [List.take_add_one,Ho.out];show Co.applyAll id tok x2 (q.ops.take i++[o])=_;rw [applyAll_snoc,Hxi.out,hap]
    have Hnx:=hI hnx;clear hnx hap hrd;refine gz3 ?_;refine KS.call (by decide) rfl rfl rfl rfl rfl (by go_simp) CA.out ?_
    rintro e w10 ⟨rfl,hr10⟩;refine ⟨_,rfl,trivial,?_⟩;have Hr10:=hI hr10;clear hr10 CA c0 c1 c2 c3 c4 hcq hcr;cases ap
    ·refine gz3 ?_
     refine gz0 ?_;refine KL.add ((i+1:Nat):Int) rfl rfl rfl rfl rfl rfl (by have:=Hn.out;omega) (by omega) ?_
     refine gz0 ?_;refine KE.rnd (i+1,false) (by repeat' (first|exact trivial|refine ⟨rfl,?_⟩)) ⟨hlt,by rw [Hnx.out];simp,by rw [Hnx.out];exact Hr10.out⟩ (by show q.ops.length-(i+1)<q.ops.length-i;omega)
    ·refine gz3 ?_
     refine gz0 ?_;refine KL.add ((i+1:Nat):Int) rfl rfl rfl rfl rfl rfl (by have:=Hn.out;omega) (by omega) ?_
     refine gz0 ?_;refine KE.rnd (i+1,bi) (by repeat' (first|exact trivial|refine ⟨rfl,?_⟩)) ⟨hlt,by rw [Hnx.out];show bi=_;rw [Hbi.out];simp,by rw [Hnx.out];exact Hr10.out⟩ (by show q.ops.length-(i+1)<q.ops.length-i;omega)
   have hd:decide ((i:Int)<(q.ops.length:Int))=false:=by simp;omega
   have hfull:q.ops.take i=q.ops:=List.take_of_length_le (by omega)
   rw [hfull] at Hxi;have hmid:x1.mid id q=(ab,xi):=by rw [Hmid0.out,Hxi.out]
   have Hmid:=hI hmid;clear hmid hfull;have Hok3:=Hoki;have Hr8:=Hrw;obtain ⟨mb,hmb⟩:∃ b,ab=b:=⟨_,rfl⟩;rw [hmb] at Hmid;have Hokv:=hI (show bi=(lk&&mb) by rw [←hmb];exact Hbi.out)
   clear Hbi hmb;refine gz0 ?_;clear hcq hcr hd;have hcr:=(Hr8.out.blk 0 rfl).cell;have hfr:=(Hr8.out.blk 0 rfl).frozen;refine gz0 ?_;refine KL.stores (w':=World.setCell w8 ⟨g9,7,none⟩ (.slice B items.length c)) rfl rfl (fun ρ hρ=>by have e1:=hρ (.tmp 95) _ rfl;have e2:=hρ (.tmp 94) _ rfl;simp only [execOp,e1,e2];go_simp;first|done|rfl) ?_
   have hr9:=Hr8.out.set 0 rfl 7 (.slice B items.length c);obtain ⟨wA,hwA⟩:∃ y,World.setCell w8 ⟨g9,7,none⟩ (.slice B items.length c)=y:=⟨_,rfl⟩;rw [hwA] at hr9 ⊢;have CU:=hI (hr9.turn1 1 rfl (fun G hG hp=>co_unlock wA G (N+2) g xi id 5 wr hp (fun p hp=>by have:=(Hok3.out.pl p hp).2.1;omega) (by have:=Hok3.out.ln;omega)))
   have hok4:=Hok3.out.unlock id 5 wr;obtain ⟨x4,hx4⟩:∃ y,Co.unlock xi id 5 wr=y:=⟨_,rfl⟩;rw [hx4] at CU hok4;have Hx4:=hI hx4;have Hok4:=hI hok4;clear hr9 hwA hcr hfr hok4 hx4;refine gz0 ?_;refine KL.call rfl rfl rfl rfl rfl (by go_simp) (CU.out) ?_
   rintro e wB ⟨rfl,hrB⟩;refine ⟨_,rfl,?_⟩;have hrd:=hrB.drew;have hb9:=hrd.blk 0 rfl;refine gz0 ?_;refine gz52 ?_;clear hrB CU;generalize wB.drew=wC at *;refine gz57 ?_;obtain ⟨hz,hhz⟩:∃ z,x4.held id 5=z:=⟨_,rfl⟩;obtain ⟨zb,hzb⟩:∃ b,decide (hz=0)=b:=⟨_,rfl⟩;have hdw:x.doW id q=(⟨rk,err,tok,ver,card,ix,more,items⟩,((lk&&mb)&&decide (hz=0)),x4):=by
    unfold Co.doW;rw [Hwr.out,Hlk.out,Hx1.out,Hrr.out,Hmid.out];simp only;rw [Hx4.out,hhz]
   have hrk:rk=q.kind:=by have:=work_kind x1 id q;rw [Hrr.out] at this;exact this
   rw [←Hokv.out,hzb] at hdw;rw [←Hd.out] at hdw;have Hdw:=hI hdw;have CH:=co_held wC _ (N+2) g x4 id 5 (hrd.get (P:=coC (N+2) g x4) 1 rfl) (fun p hp=>by have:=(Hok4.out.pl p hp).2.1;omega)
   unfold Reads at CH;rw [hhz] at CH;have CH:=hI CH;have Hrd:=hI hrd;have Hb9:=hI hb9;clear hdw hrd hb9 hhz;refine gz7 ?_;cases bi
   ·refine gz7 ?_
    refine KS.storeB (by decide) rfl rfl rfl rfl rfl (Hrd.out.blk 4 rfl) rfl (by kernel_rfl) (by kernel_rfl) (fun wF hbF hkF=>⟨(Hrd.out.turn 4 rfl hbF hkF).blk 0 rfl,?_⟩)
    have Hrf:=hI (Hrd.out.turn 4 rfl hbF hkF);have HbF:=hI hbF;clear hbF hkF;refine gz7 ?_;refine gz0 ?_;refine gz36 ?_;rw [Hdw.out];subst hrk;exact cz65
   ·refine gz7 ?_
    refine KS.call (by decide) rfl rfl rfl rfl rfl (by go_simp) CH.out ?_
    rintro e wE ⟨rfl,hkE⟩;refine ⟨_,rfl,Hb9.out.kept hkE (fun h=>h),?_⟩;have HrE:=hI (Hrd.out.pure hkE);clear hkE;refine gz7 ?_;refine KS.storeB (by decide) rfl rfl rfl rfl rfl (HrE.out.blk 4 rfl) rfl (by kernel_rfl) (by kernel_rfl) (fun wF hbF hkF=>⟨(HrE.out.turn 4 rfl hbF hkF).blk 0 rfl,?_⟩)
    have Hrf:=hI (HrE.out.turn 4 rfl hbF hkF);have HbF:=hI hbF;clear hbF hkF;refine gz7 ?_;refine gz0 ?_;refine gz36 ?_;rw [Hdw.out];subst hrk;exact cz65
end
section
open Go.RowKit Go.PlainAid
theorem quota_ineq {q:Qt} (h:q.okB=true):(1≤q.cols∧q.cols≤8)∧(1≤q.cards∧q.cards≤16)∧(1≤q.bytes∧q.bytes≤1048576)∧(1≤q.log∧q.log≤64):=q.okB_iff.1 h
theorem conf_ineq {c:Cf} (h:c.okB=true):((1≤c.conns∧c.conns≤12)∧0≤c.start∧(20006≤c.room∧c.room≤40000)∧1≤c.shards∧c.shards≤16)∧c.quota.okB=true:=by
 unfold Cf.okB at h;simp only [Bool.and_eq_true,decide_eq_true_eq] at h;exact ⟨by omega,h.2⟩
theorem quota_any (q:Qt) (w:World):Calls Tryz.prog 48 #[q.val] w (IntP (if q.okB=true then 0 else 12) w):=by
 obtain ⟨R,hR⟩:∃ R:Int,(if q.okB=true then 0 else 12)=R:=⟨_,rfl⟩;rw [hR];have HR:=hI hR;unfold Qt.val;have hb:=Blk.new w 23 #[.int .i64 q.cols,.int .i64 q.cards,.int .i64 q.bytes,.int .i64 q.log];have hc:=hb.cell;have Hp:=hI ((Kept.refl (fun _=>False) w).alloc (.cells #[.int .i64 q.cols,.int .i64 q.cards,.int .i64 q.bytes,.int .i64 q.log] 23));obtain ⟨b1,hb1⟩:∃ b,decide (q.cols<1)=b:=⟨_,rfl⟩
 obtain ⟨b2,hb2⟩:∃ b,decide (8<q.cols)=b:=⟨_,rfl⟩;obtain ⟨b3,hb3⟩:∃ b,decide (q.cards<1)=b:=⟨_,rfl⟩;obtain ⟨b4,hb4⟩:∃ b,decide (16<q.cards)=b:=⟨_,rfl⟩;obtain ⟨b5,hb5⟩:∃ b,decide (q.bytes<1)=b:=⟨_,rfl⟩;obtain ⟨b6,hb6⟩:∃ b,decide (1048576<q.bytes)=b:=⟨_,rfl⟩;obtain ⟨b7,hb7⟩:∃ b,decide (q.log<1)=b:=⟨_,rfl⟩;obtain ⟨b8,hb8⟩:∃ b,decide (64<q.log)=b:=⟨_,rfl⟩;clear hR hb;refine calls_kn Tryz.func48 rfl Tryz.ntmps48 rfl ?_
 refine gz0 ?_;refine gz10 ?_;generalize w.alloc _=W at *;generalize w.heap.size=g at *;refine gz0 ?_;cases b1;rotate_left
 ·have hR:R=12:=by rw [←HR.out,if_neg (fun h=>by have h:=quota_ineq h;have:=of_decide_eq_true hb1;omega)]
  have HR2:=hI hR;clear hR;refine gz30 ?_;refine gz0 ?_;refine KR.fin1 Tryz.results48 rfl ⟨by rw [HR2.out],Hp.out⟩
 refine gz0 ?_;cases b2;rotate_left
 ·have hR:R=12:=by rw [←HR.out,if_neg (fun h=>by have h:=quota_ineq h;have:=of_decide_eq_true hb2;omega)]
  have HR2:=hI hR;clear hR;refine gz30 ?_;refine gz0 ?_;refine KR.fin1 Tryz.results48 rfl ⟨by rw [HR2.out],Hp.out⟩
 refine gz0 ?_;cases b3;rotate_left
 ·have hR:R=12:=by rw [←HR.out,if_neg (fun h=>by have h:=quota_ineq h;have:=of_decide_eq_true hb3;omega)]
  have HR2:=hI hR;clear hR;refine gz30 ?_;refine gz0 ?_;refine KR.fin1 Tryz.results48 rfl ⟨by rw [HR2.out],Hp.out⟩
 refine gz0 ?_;cases b4;rotate_left
 ·have hR:R=12:=by rw [←HR.out,if_neg (fun h=>by have h:=quota_ineq h;have:=of_decide_eq_true hb4;omega)]
  have HR2:=hI hR;clear hR;refine gz30 ?_;refine gz0 ?_;refine KR.fin1 Tryz.results48 rfl ⟨by rw [HR2.out],Hp.out⟩
 refine gz0 ?_;cases b5;rotate_left
 ·have hR:R=12:=by rw [←HR.out,if_neg (fun h=>by have h:=quota_ineq h;have:=of_decide_eq_true hb5;omega)]
  have HR2:=hI hR;clear hR;refine gz30 ?_;refine gz0 ?_;refine KR.fin1 Tryz.results48 rfl ⟨by rw [HR2.out],Hp.out⟩
 refine gz0 ?_;cases b6;rotate_left
 ·have hR:R=12:=by rw [←HR.out,if_neg (fun h=>by have h:=quota_ineq h;have:=of_decide_eq_true hb6;omega)]
  have HR2:=hI hR;clear hR;refine gz30 ?_;refine gz0 ?_;refine KR.fin1 Tryz.results48 rfl ⟨by rw [HR2.out],Hp.out⟩
 refine gz0 ?_;cases b7;rotate_left
 ·have hR:R=12:=by rw [←HR.out,if_neg (fun h=>by have h:=quota_ineq h;have:=of_decide_eq_true hb7;omega)]
  have HR2:=hI hR;clear hR;refine gz30 ?_;refine gz0 ?_;refine KR.fin1 Tryz.results48 rfl ⟨by rw [HR2.out],Hp.out⟩
 refine gz0 ?_;cases b8;rotate_left
 ·have hR:R=12:=by rw [←HR.out,if_neg (fun h=>by have h:=quota_ineq h;have:=of_decide_eq_true hb8;omega)]
  have HR2:=hI hR;clear hR;refine gz30 ?_;refine gz0 ?_;refine KR.fin1 Tryz.results48 rfl ⟨by rw [HR2.out],Hp.out⟩
 refine gz0 ?_;have hR:R=0:=by
  rw [←HR.out,if_pos];rw [Qt.okB_iff];unfold Qt.Ok;have h1:=of_decide_eq_false hb1;have h2:=of_decide_eq_false hb2;have h3:=of_decide_eq_false hb3;have h4:=of_decide_eq_false hb4;have h5:=of_decide_eq_false hb5;have h6:=of_decide_eq_false hb6;have h7:=of_decide_eq_false hb7;have h8:=of_decide_eq_false hb8;omega
 refine KR.fin1 Tryz.results48 rfl ⟨by rw [hR],Hp.out⟩
theorem refconf_any (c:Cf) (w:World):Calls Tryz.prog 9 #[c.val] w (IntP (if c.okB=true then 0 else 12) w):=by
 obtain ⟨R,hR⟩:∃ R:Int,(if c.okB=true then 0 else 12)=R:=⟨_,rfl⟩;rw [hR];have HR:=hI hR;unfold Cf.val Cf.cells;have hb:=Blk.new w 25 #[.int .i64 c.conns,.int .i64 c.start,.int .i64 c.room,.int .i64 c.shards,.int .i64 c.quota.cols,.int .i64 c.quota.cards,.int .i64 c.quota.bytes,.int .i64 c.quota.log];have hc:=hb.cell;have Hp:=hI ((Kept.refl (fun _=>False) w).alloc (.cells #[.int .i64 c.conns,.int .i64 c.start,.int .i64 c.room,.int .i64 c.shards,.int .i64 c.quota.cols,.int .i64 c.quota.cards,.int .i64 c.quota.bytes,.int .i64 c.quota.log] 25))
 obtain ⟨b1,hb1⟩:∃ b,decide (c.conns<1)=b:=⟨_,rfl⟩;obtain ⟨b2,hb2⟩:∃ b,decide (12<c.conns)=b:=⟨_,rfl⟩;obtain ⟨b3,hb3⟩:∃ b,decide (c.start<0)=b:=⟨_,rfl⟩;obtain ⟨b4,hb4⟩:∃ b,decide (c.room<20006)=b:=⟨_,rfl⟩;obtain ⟨b5,hb5⟩:∃ b,decide (40000<c.room)=b:=⟨_,rfl⟩;obtain ⟨b6,hb6⟩:∃ b,decide (c.shards<1)=b:=⟨_,rfl⟩;obtain ⟨b7,hb7⟩:∃ b,decide (16<c.shards)=b:=⟨_,rfl⟩;clear hR hb;refine calls_kn Tryz.func9 rfl Tryz.ntmps9 rfl ?_
 refine gz0 ?_;refine gz10 ?_;generalize w.alloc _=W at *;generalize w.heap.size=g at *;refine gz0 ?_;cases b1;rotate_left
 ·have hR:R=12:=by rw [←HR.out,if_neg (fun h=>by have h:=conf_ineq h;have:=of_decide_eq_true hb1;omega)]
  have HR2:=hI hR;clear hR;refine gz38 ?_;refine gz0 ?_;refine KR.fin1 Tryz.results9 rfl ⟨by rw [HR2.out],Hp.out⟩
 refine gz0 ?_;cases b2;rotate_left
 ·have hR:R=12:=by rw [←HR.out,if_neg (fun h=>by have h:=conf_ineq h;have:=of_decide_eq_true hb2;omega)]
  have HR2:=hI hR;clear hR;refine gz38 ?_;refine gz0 ?_;refine KR.fin1 Tryz.results9 rfl ⟨by rw [HR2.out],Hp.out⟩
 refine gz0 ?_;cases b3;rotate_left
 ·have hR:R=12:=by rw [←HR.out,if_neg (fun h=>by have h:=conf_ineq h;have:=of_decide_eq_true hb3;omega)]
  have HR2:=hI hR;clear hR;refine gz38 ?_;refine gz0 ?_;refine KR.fin1 Tryz.results9 rfl ⟨by rw [HR2.out],Hp.out⟩
 refine gz0 ?_;cases b4;rotate_left
 ·have hR:R=12:=by rw [←HR.out,if_neg (fun h=>by have h:=conf_ineq h;have:=of_decide_eq_true hb4;omega)]
  have HR2:=hI hR;clear hR;refine gz38 ?_;refine gz0 ?_;refine KR.fin1 Tryz.results9 rfl ⟨by rw [HR2.out],Hp.out⟩
 refine gz0 ?_;cases b5;rotate_left
 ·have hR:R=12:=by rw [←HR.out,if_neg (fun h=>by have h:=conf_ineq h;have:=of_decide_eq_true hb5;omega)]
  have HR2:=hI hR;clear hR;refine gz38 ?_;refine gz0 ?_;refine KR.fin1 Tryz.results9 rfl ⟨by rw [HR2.out],Hp.out⟩
 refine gz0 ?_;cases b6;rotate_left
 ·have hR:R=12:=by rw [←HR.out,if_neg (fun h=>by have h:=conf_ineq h;have:=of_decide_eq_true hb6;omega)]
  have HR2:=hI hR;clear hR;refine gz38 ?_;refine gz0 ?_;refine KR.fin1 Tryz.results9 rfl ⟨by rw [HR2.out],Hp.out⟩
 refine gz0 ?_;cases b7;rotate_left
 ·have hR:R=12:=by rw [←HR.out,if_neg (fun h=>by have h:=conf_ineq h;have:=of_decide_eq_true hb7;omega)]
  have HR2:=hI hR;clear hR;refine gz38 ?_;refine gz0 ?_;refine KR.fin1 Tryz.results9 rfl ⟨by rw [HR2.out],Hp.out⟩
 refine gz0 ?_;have hR:R=if c.quota.okB=true then 0 else 12:=by
  rw [←HR.out];have h1:=of_decide_eq_false hb1;have h2:=of_decide_eq_false hb2;have h3:=of_decide_eq_false hb3;have h4:=of_decide_eq_false hb4;have h5:=of_decide_eq_false hb5;have h6:=of_decide_eq_false hb6;have h7:=of_decide_eq_false hb7;unfold Cf.okB;rw [decide_eq_true (by omega),decide_eq_true (by omega),decide_eq_true (by omega),decide_eq_true (by omega),decide_eq_true (by omega),decide_eq_true (by omega),decide_eq_true (by omega)]
  simp
 have HR2:=hI hR;clear hR;refine KL.call rfl rfl rfl rfl rfl (by go_simp) (quota_any c.quota W) ?_
 rintro e w2 ⟨rfl,hk2⟩;refine ⟨_,rfl,?_⟩;have Hp2:=hI (Hp.out.same hk2);clear hk2;refine gz0 ?_;refine KR.fin1 Tryz.results9 rfl ⟨by rw [HR2.out],Hp2.out⟩
def opFew (o:OpR):Bool:=decide (o.uid.size≤60)&&decide (o.card.size≤1000)
def fewB (l:List OpR):Bool:=decide (l.length≤20)&&l.all opFew
theorem few_any (l:List OpR) (A:Option Addr) (cp:Nat) (w:World) (F:Nat→Prop) (hs:Sl w F 5 A l.length (l.flatMap OpR.cells)) :
  Calls Tryz.prog 8 #[.slice A l.length cp] w fun e w'=>e = .returned (.bool (fewB l))∧w'=w:=by
 obtain ⟨R,hR⟩:∃ R,fewB l=R:=⟨_,rfl⟩;rw [hR];have HR:=hI hR;have Hs:=hI hs;obtain ⟨n,hn⟩:∃ n,l.length=n:=⟨_,rfl⟩;have Hn:=hI hn;rw [hn];obtain ⟨b1,hb1⟩:∃ b,decide ((20:Int)<(n:Int))=b:=⟨_,rfl⟩;clear hR hs hn;refine calls_kn Tryz.func8 rfl Tryz.ntmps8 rfl ?_;refine gz0 ?_;cases b1;rotate_left
 ·have hR:R=false:=by rw [←HR.out];unfold fewB;simp only [Bool.and_eq_false_iff,decide_eq_false_iff_not];have:=of_decide_eq_true hb1;have:=Hn.out;omega
  have HR2:=hI hR;clear hR;refine gz0 ?_;refine KR.fin1 Tryz.results8 rfl ⟨by rw [HR2.out],rfl⟩
 refine gz0 ?_;have hn60:n≤20:=by have:=of_decide_eq_false hb1;omega
 have hR:R=l.all opFew:=by
  rw [←HR.out];unfold fewB;have h6:=Hn.out;rw [decide_eq_true (by omega)]
  rfl
 have HR2:=hI hR;clear hR;refine KW.loop (ι:=Nat) (fun i=>[(0,.slice A n cp),(3,.int .i64 (i:Int))]) (fun i w'=>w'=w∧i≤n∧∀ j,j<i→∀ o,l[j]? = some o→opFew o=true) (fun i=>n-i) 0 ⟨rfl,Nat.zero_le _,fun j hj=>absurd hj (by omega)⟩ (kle_ok (by repeat' (first|exact trivial|refine ⟨rfl,?_⟩))) ?_
 rintro i w2 ⟨e2,hin,hdone⟩;obtain rfl:=e2.symm;have Hdone:=hI hdone;clear hdone e2
 by_cases hlt:i<n
 ·have hd:decide ((i:Int)<(n:Int))=true:=by simp;omega
  obtain ⟨o,ho⟩:∃ o,l[i]? = some o:=⟨_,List.getElem?_eq_getElem (by rw [Hn.out];exact hlt)⟩
  obtain ⟨b,off,hA,_⟩:=Hs.out.2 (by rw [Hn.out];omega)
  subst hA;obtain ⟨c0,c1,c2,c3,c4⟩:=op_cells Hs.out ho;have Ho:=hI ho;clear ho;obtain ⟨t1,ht1⟩:∃ b,decide ((60:Int)<(o.uid.size:Int))=b:=⟨_,rfl⟩;obtain ⟨t2,ht2⟩:∃ b,decide ((1000:Int)<(o.card.size:Int))=b:=⟨_,rfl⟩;have hop:opFew o=(!t1 && !t2):=by unfold opFew;rw [←ht1,←ht2,Bool.eq_iff_iff];simp only [Bool.and_eq_true,decide_eq_true_eq,Bool.not_eq_true',decide_eq_false_iff_not];omega
  have Hop:=hI hop;clear hop;refine gz0 ?_;cases t1
  ·refine gz0 ?_
   cases t2
   ·refine gz0 ?_
    refine gz26 ?_;refine gz0 ?_;refine KE.rnd (i+1) (by repeat' (first|exact trivial|refine ⟨rfl,?_⟩)) ⟨rfl,by omega,fun j hj p hp=>?_⟩ (by omega)
    by_cases hji:j<i
    ·exact Hdone.out j hji p hp
    ·obtain rfl:j=i:=by omega
     have:=Ho.out;rw [hp] at this;injection this with this;rw [this];exact Hop.out
   ·refine gz0 ?_
    refine KR.fin1 Tryz.results8 rfl ⟨by rw [HR2.out,show l.all opFew=false from List.all_eq_false.2 ⟨o,List.mem_of_getElem? Ho.out,by rw [Hop.out];simp⟩],rfl⟩
  ·refine gz0 ?_
   refine KR.fin1 Tryz.results8 rfl ⟨by rw [HR2.out,show l.all opFew=false from List.all_eq_false.2 ⟨o,List.mem_of_getElem? Ho.out,by rw [Hop.out];simp⟩],rfl⟩
 have hd:decide ((i:Int)<(n:Int))=false:=by simp;omega
 have hall:l.all opFew=true:=by
  rw [List.all_eq_true];intro o ho;obtain ⟨j,hj,e⟩:=List.getElem_of_mem ho;exact cz76
 have Hall:=hI hall;clear hall;refine gz0 ?_;refine KR.fin1 Tryz.results8 rfl ⟨by rw [HR2.out,Hall.out],rfl⟩
end
section
open Go.RowKit Go.PlainAid
def TruW (w:World) (e:Ending) (w':World):Prop:=e = .returned (.bool true)∧Pure w w'
theorem Co.Hm.mono {x:Co} {c:Cf} {k j:Nat} {B C:Int} (h:x.Hm c k B) (hk:k≤j) (hB:B≤C):x.Hm c j C:=⟨h.ok.mono hk,h.iv,h.cf,by have:=h.ct;omega,h.fr,h.lt⟩
theorem asks_lite {l:List AsA} (h:asksB l=true):l.length≤60∧∀ a∈l,a.r.q.Lim∧a.r.q.Lite∧a.r.q.ops.length≤20∧a.tenant.size≤60:=by
 unfold asksB at h;simp only [Bool.and_eq_true,decide_eq_true_eq,List.all_eq_true] at h;refine ⟨h.1,fun a ha=>?_⟩;have h2:=h.2 a ha;unfold asLite at h2;simp only [Bool.and_eq_true,decide_eq_true_eq] at h2;obtain ⟨l1,l2,l3,l4⟩:=light_lim h2.1;exact ⟨l1,l2,l4,h2.2⟩
def AsI (W:World) (c:Cf) (l:List AsA) (g:Nat) (Ps:List Ch) (i:Nat) (w:World):Prop :=
 i≤l.length∧∃ (N:Nat) (x:Co),N≤4*i∧x.Hm c i (c.start+i)∧Run W (fun b=>b<W.heap.size) w (coC N g x::oldC W::Ps)
section
variable {W w:World} {c:Cf} {l:List AsA} {g i:Nat} {Ps:List Ch} {o:AsA}
theorem AsI.cells (h:AsI W c l g Ps i w) {A:Option Addr} (hs:Sl W (fun b=>b<W.heap.size) 12 A l.length (l.flatMap AsA.cells)):∃ F,Sl w F 12 A l.length (l.flatMap AsA.cells):=by
 obtain ⟨_,N,x,_,_,hr⟩:=h;exact ⟨_,old_sl (hr.get (P:=oldC W) 1 rfl) hs⟩
theorem AsI.ops (h:AsI W c l g Ps i w) (ho:o.Ok W):∃ F,Sl w F 5 o.r.A o.r.q.ops.length (o.r.q.ops.flatMap OpR.cells):=by
 obtain ⟨_,N,x,_,_,hr⟩:=h;exact ⟨_,old_sl (hr.get (P:=oldC W) 1 rfl) ho.2.ops⟩
theorem AsI.pure {w':World} (h:AsI W c l g Ps i w) (hk:Pure w w'):AsI W c l g Ps i w':=by
 obtain ⟨h1,N,x,h2,h3,hr⟩:=h;exact ⟨h1,N,x,h2,h3,hr.pure hk⟩
theorem AsI.next (h:AsI W c l g Ps i w) (hi:i<l.length):AsI W c l g Ps (i+1) w:=by
 obtain ⟨h1,N,x,h2,h3,hr⟩:=h;exact ⟨hi,N,x,by omega,h3.mono (Nat.le_succ _) (by omega),hr⟩
theorem AsI.do (h:AsI W c l g Ps i w) (hi:i<l.length) (hl:l.length≤60) (ho:o.Ok W) (ht:o.tenant.size≤60) (hq:o.r.q.Lite) (hn:o.r.q.ops.length≤20) :
  Calls Tryz.prog 12 #[pV g,.agg o.row] w fun e w'=>∃ v,e = .returned v∧AsI W c l g Ps (i+1) w':=by
 obtain ⟨h1,N,x,h2,h3,hr⟩:=h;refine (do_any W W w _ N g i x o Ps hr ho ht hq (by omega) h3.ok (by omega) h3.iv (by omega)).mono ?_
 rintro e w' ⟨B,cp,rfl,hr2⟩;exact ⟨_,rfl,hi,N+4,_,by omega,(h3.doit ⟨o.tenant,o.r.q⟩ ht hq).mono (Nat.le_refl _) (by omega),hr2.drop 2⟩
end
end
section
open Go.RowKit Go.PlainAid
section
variable (x:Co) (id:Int) (n u:ByteArray) (ops:List OpR)
theorem wait_same:(x.work id (waitQ n)).2=x:=by
 cases hx:x.at id with
 | none=>rw [work_none hx]
 | some p =>
  cases ha:p.alive with
  | false=>rw [work_dead hx ha]
  | true=>rw [work_wait hx ha]
theorem delta_same:(x.work id (deltaQ n)).2=x:=by
 cases hx:x.at id with
 | none=>rw [work_none hx]
 | some p =>
  cases ha:p.alive with
  | false=>rw [work_dead hx ha]
  | true=>rw [work_delta hx ha]
theorem batch_items:(x.work id (batchQ n ops)).1.items=[]:=by
 cases hx:x.at id with
 | none=>rw [work_none hx];rfl
 | some p =>
  cases ha:p.alive with
  | false=>rw [work_dead hx ha];rfl
  | true=>rw [work_batch hx ha];rfl
theorem batch_bad (h:¬(x.work id (batchQ n ops)).1.err=0):(x.work id (batchQ n ops)).2.counter=x.counter∧(x.work id (batchQ n ops)).1.token=0∧(x.work id (batchQ n ops)).1.version=0:=by
 cases hx:x.at id with
 | none=>rw [work_none hx];exact ⟨rfl,rfl,rfl⟩
 | some p =>
  cases ha:p.alive with
  | false=>rw [work_dead hx ha];exact ⟨rfl,rfl,rfl⟩
  | true =>
   rw [work_batch hx ha] at h ⊢;have h':¬(wrErr x p ops).1=0:=h;refine ⟨?_,?_,?_⟩
   ·unfold wrCo;rw [if_neg h']
   ·show (if (wrErr x p ops).1=0 then x.counter+1 else 0)=0;rw [if_neg h']
   ·rfl
theorem batch_some (h:(x.work id (batchQ n ops)).1.err=0):∃ (k:Nat) (p:Pl),id=(k:Int)∧x.pls[k]? = some p∧p.alive=true∧(wrErr x p ops).1=0:=by
 cases hx:x.at id with
 | none=>rw [work_none hx] at h;exact absurd h (by show ¬(4:Int)=0;decide)
 | some p =>
  obtain ⟨k,rfl,hp⟩:=at_nat hx;cases ha:p.alive with
  | false=>rw [work_dead hx ha] at h;exact absurd h (by show ¬(4:Int)=0;decide)
  | true =>
   rw [work_batch hx ha] at h;exact ⟨k,p,rfl,hp,ha,h⟩
end
theorem page_col {p q:Pl} (h:q.col=p.col) (tk most:Int):deltaRs q tk most=deltaRs p tk most:=by unfold deltaRs;rw [h]
theorem wait_col {p q:Pl} (h:q.col=p.col) (tk:Int):waitRs q tk=waitRs p tk:=by unfold waitRs;rw [h]
theorem it_cells4 {w:World} {F:Nat→Prop} {b o m:Nat} {l:List It} (h:Sl w F 4 (some ⟨b,o,none⟩) m (itc l)) {i:Nat} {e:It} (he:l[i]? = some e) :
  w.cell? ⟨b,o+i*4,none⟩=some (.string e.uid)∧w.cell? ⟨b,o+i*4+1,none⟩=some (.int .i64 e.ver)∧w.cell? ⟨b,o+i*4+2,none⟩=some (.bool e.gone)∧w.cell? ⟨b,o+i*4+3,none⟩=some (.string e.card):=by
 have hi:=(List.getElem?_eq_some_iff.1 he).1;have hn:l.length=m:=by have:=h.1;rw [itc_length] at this;omega
 have hc:=fun j hj=>sl_at (f:=It.cells) (fun _=>rfl) h (by omega) he (j:=j) hj
 exact ⟨hc 0 (by omega),hc 1 (by omega),hc 2 (by omega),hc 3 (by omega)⟩
theorem may_ops {t n:ByteArray} {ops:List OpR} {A:Option Addr} {c:Nat} (h:mayB ⟨t,⟨batchQ n ops,A,c⟩⟩=true):ops≠[]:=by
 rintro rfl;unfold mayB at h;simp only [Bool.and_eq_true,decide_eq_true_eq] at h;have h2:=h.2.1;unfold chkR at h2;rw [if_neg (by show ¬((7:Int)<1∨11<(7:Int));omega)] at h2
 split at h2
 ·cases h2
 ·split at h2
  ·cases h2
  ·split at h2
   ·cases h2
   ·split at h2
    ·cases h2
    ·split at h2
     ·cases h2
     ·split at h2
      ·cases h2
      ·rw [if_pos (.inl ⟨rfl,.inl (by show (0:Nat)<1;omega)⟩)] at h2
       cases h2
theorem page_len (c:Cl) (tk most:Int):(c.page tk most).items.length≤max c.cards.length c.log.length:=by
 have h:=foldl_len_le c tk;unfold Cl.page
 split
 ·simp
 ·split
  ·exact h
  ·simp only [List.length_take];omega
theorem PR.add {P:Program} {k:Kn} {w:World} {o:Oper} {x y:Operand} {ty ty':TypeId} {a b:Int} (c:Int) (ho:o.op = .binOp .add ty x y ty') (hx:knX k x=some (.int .i64 a)) (hy:knX k y=some (.int .i64 b)) (hb : -9223372036854775808≤c∧c≤9223372036854775807) (hc:a+b=c):PR P k w o (.int .i64 c) :=
 PR.bop ho hx hy (by
  subst hc;simp only [eqGuard,binOp,Op.intArith,Sem.run_bind];have:=IntWalk.i64_in (a+b) hb;rw [this];rfl)
end
section
open Go.RowKit Go.PlainAid
theorem drawn_any (c:Cf) (l:List AsA) (A:Option Addr) (cpl:Nat) (t n:ByteArray) (ops:List OpR) (oA:Option Addr) (oc:Nat) (W:World) (hs:Sl W (fun b=>b<W.heap.size) 12 A l.length (l.flatMap AsA.cells)) (hok:∀ a∈l,a.Ok W) (hos:Sl W (fun b=>b<W.heap.size) 5 oA ops.length (ops.flatMap OpR.cells)) (hoc:ops.length≤oc) (htm:t.size≤maxLen) (hcs:c.start≤maxTok) :
  Calls Tryz.prog 3 #[c.val,.slice A l.length cpl,.string t,.string n,.slice oA ops.length oc] W (TruW W):=by
 have Hs:=Lib.hid hs;have Hok:=Lib.hid hok;have Hos:=Lib.hid hos;have Hoc:=Lib.hid hoc;have Hcs:=Lib.hid hcs;have Htm:=Lib.hid htm;have hr0:=(Run.start (F:=fun _=>False) (w:=W) (Ps:=[]) trivial).addBlk #[.int .i64 c.conns,.int .i64 c.start,.int .i64 c.room,.int .i64 c.shards,.int .i64 c.quota.cols,.int .i64 c.quota.cards,.int .i64 c.quota.bytes,.int .i64 c.quota.log] 25;show Calls Tryz.prog 3 #[.agg #[.int .i64 c.conns,.int .i64 c.start,.int .i64 c.room,.int .i64 c.shards,.int .i64 c.quota.cols,.int .i64 c.quota.cards,.int .i64 c.quota.bytes,.int .i64 c.quota.log],.slice A l.length cpl,.string t,.string n,.slice oA ops.length oc] W (TruW W)
 obtain ⟨la,hla⟩:∃ b,asksB l=b:=⟨_,rfl⟩;obtain ⟨fb,hfb⟩:∃ b,fewB ops=b:=⟨_,rfl⟩;obtain ⟨b1,hb1⟩:∃ b,decide ((60:Int)<(t.size:Int))=b:=⟨_,rfl⟩;obtain ⟨b2,hb2⟩:∃ b,decide ((60:Int)<(n.size:Int))=b:=⟨_,rfl⟩;obtain ⟨okb,hokb⟩:∃ b,c.okB=b:=⟨_,rfl⟩;obtain ⟨mm,hmm⟩:∃ b,mayB ⟨t,⟨batchQ n ops,oA,oc⟩⟩=b:=⟨_,rfl⟩;have CA:=Lib.hid (fun w h=>asks_any l A cpl W w h hs hok);rw [hla] at CA;have CW:=Lib.hid (fun w F=>few_any ops oA oc w F)
 rw [hfb] at CW;have CC:=Lib.hid (refconf_any c);rw [hokb] at CC;have CM:=Lib.hid (fun w F h=>may_any ⟨t,⟨batchQ n ops,oA,oc⟩⟩ w F htm h);rw [hmm] at CM;have HLA:=Lib.hid hla;have HFB:=Lib.hid hfb;have HOK:=Lib.hid hokb;have HMM:=Lib.hid hmm;clear hs hok hos hoc hcs htm hla hfb hokb hmm;refine calls_kn Tryz.func3 rfl Tryz.ntmps3 rfl ?_;refine gz0 ?_;refine KL.makes (v:=.pointer (some ⟨World.heap W |>.size,0,none⟩)) rfl rfl rfl (fun ρ hρ=>by have e:=hρ (.tmp 0) _ rfl;simp only [execOp,e];go_simp;first|done|rfl) ?_
 generalize W.alloc _=w1 at *;have Hr1:=Lib.hid hr0;clear hr0;refine gz0 ?_;refine KL.call rfl rfl rfl rfl rfl (by go_simp) (first27 w1) ?_
 rintro e w2 ⟨rfl,hk2⟩;refine ⟨_,rfl,?_⟩;have Hr2:=Lib.hid (Hr1.out.pure hk2);clear hk2 Hr1;refine gz0 ?_;refine KL.told (v:=.agg #[.int .i64 7,.string ⟨#[]⟩,.string n,.string ⟨#[]⟩,.string ⟨#[]⟩,.int .i64 0,.int .i64 0,.slice oA ops.length oc,.int .i64 0,.int .i64 0,.int .i64 0]) rfl rfl rfl (fun ρ hρ=>by have e:=hρ (.tmp 35) _ rfl;have e2:=hρ (.tmp 36) _ rfl;have e':=hρ (.const (.int .i64 7)) _ rfl;simp only [execOp];go_simp;first|done|rfl) ?_
 have hr3:=Hr2.out.addBlk #[.int .i64 0,.string ⟨#[]⟩,.string ⟨#[]⟩,.string ⟨#[]⟩,.string ⟨#[]⟩,.int .i64 0,.int .i64 0,.slice none 0 0,.int .i64 0,.int .i64 0,.int .i64 0] 32;refine gz64 ?_;generalize w2.alloc _=w3 at *;generalize w2.heap.size=g11 at *;refine KL.storeB rfl rfl rfl rfl rfl (hr3.blk 0 rfl) rfl (by kernel_rfl) (by kernel_rfl) ?_
 intro w4 hb4 hk4;have hr4:=hr3.turn 0 rfl hb4 hk4;have Hr4:=Lib.hid hr4;clear hr3 hr4 hb4 hk4 Hr2;refine gz0 ?_;refine KL.call rfl rfl rfl rfl rfl (by go_simp) (CA.out w4 Hr4.out.pureOf) ?_
 rintro e w5 ⟨rfl,hk5⟩;refine ⟨_,rfl,?_⟩;have Hr5:=Lib.hid (Hr4.out.pure hk5);clear hk5 Hr4 CA;have hc6:=(Hr5.out.blk 1 rfl).cell;have hc11:=(Hr5.out.blk 0 rfl).cell;cases la
 ·refine gz47 ?_
  refine gz0 ?_;refine gz74 ?_;rintro e wz ⟨rfl,hkz⟩;refine ⟨_,rfl,?_⟩;refine gz0 ?_;refine KR.fin1 Tryz.results3 rfl ⟨rfl,Hr5.out.pureOf.same hkz⟩
 refine gz0 ?_;refine KL.call rfl rfl rfl rfl rfl (by go_simp) (CW.out w5 _ (Hos.out.kept (S:=fun _=>False) Hr5.out.pureOf (fun _ _ _ h=>h))) ?_
 rintro e w6 ⟨rfl,e6⟩;refine ⟨_,rfl,?_⟩;obtain rfl:=e6.symm;clear e6 CW;cases fb
 ·refine gz47 ?_
  refine gz0 ?_;refine gz74 ?_;rintro e wz ⟨rfl,hkz⟩;refine ⟨_,rfl,?_⟩;refine gz0 ?_;refine KR.fin1 Tryz.results3 rfl ⟨rfl,Hr5.out.pureOf.same hkz⟩
 refine gz0 ?_;cases b1;rotate_left
 ·refine gz47 ?_
  refine gz0 ?_;refine gz74 ?_;rintro e wz ⟨rfl,hkz⟩;refine ⟨_,rfl,?_⟩;refine gz0 ?_;refine KR.fin1 Tryz.results3 rfl ⟨rfl,Hr5.out.pureOf.same hkz⟩
 refine gz0 ?_;cases b2;rotate_left
 ·refine gz47 ?_
  refine gz0 ?_;refine gz74 ?_;rintro e wz ⟨rfl,hkz⟩;refine ⟨_,rfl,?_⟩;refine gz0 ?_;refine KR.fin1 Tryz.results3 rfl ⟨rfl,Hr5.out.pureOf.same hkz⟩
 refine gz0 ?_;refine KL.call rfl rfl rfl rfl rfl (by go_simp) (CC.out w5) ?_
 rintro e w6 ⟨rfl,hk6⟩;refine ⟨_,rfl,?_⟩;have Hr6:=Lib.hid (Hr5.out.pure hk6);clear hk6 Hr5 CC hc6 hc11;have hc6:=(Hr6.out.blk 1 rfl).cell;have hc11:=(Hr6.out.blk 0 rfl).cell;cases okb
 ·refine gz47 ?_
  refine gz0 ?_;refine KL.call rfl rfl rfl rfl rfl (by go_simp) (first27 w6) ?_
  rintro e wz ⟨rfl,hkz⟩;refine ⟨_,rfl,?_⟩;refine gz0 ?_;refine KR.fin1 Tryz.results3 rfl ⟨rfl,Hr6.out.pureOf.same hkz⟩
 refine gz0 ?_;have hfew:ops.length≤20∧∀ o∈ops,o.uid.size≤60∧o.card.size≤1000:=by
  have h:=HFB.out;unfold fewB at h;simp only [Bool.and_eq_true,decide_eq_true_eq,List.all_eq_true] at h;refine ⟨h.1,fun o ho=>?_⟩;have h2:=h.2 o ho;unfold opFew at h2;simpa only [Bool.and_eq_true,decide_eq_true_eq] using h2
 have Hfew:=Lib.hid hfew;clear hfew;have hsz:t.size≤60∧n.size≤60:=by have:=of_decide_eq_false hb1;have:=of_decide_eq_false hb2;omega
 have Hsz:=Lib.hid hsz;clear hsz hb1 hb2;have hbl:(batchQ n ops).Lim:=⟨Nat.zero_le _,by show n.size≤_;have:=Hsz.out.2;omega,Nat.zero_le _,Nat.zero_le _,by show ops.length≤_;have:=Hfew.out.1;omega,fun o ho=>by have:=Hfew.out.2 o ho;omega⟩
 have hbl2:(batchQ n ops).Lite:=⟨Hsz.out.2,Nat.zero_le _,Nat.zero_le _,fun o ho=>by have:=Hfew.out.2 o ho;omega⟩
 have Hbl:=Lib.hid hbl;have Hbl2:=Lib.hid hbl2;clear hbl hbl2;refine KL.told (v:=.agg #[.string t,.int .i64 7,.string ⟨#[]⟩,.string n,.string ⟨#[]⟩,.string ⟨#[]⟩,.int .i64 0,.int .i64 0,.slice oA ops.length oc,.int .i64 0,.int .i64 0,.int .i64 0]) rfl rfl rfl (fun ρ hρ=>by have e:=hρ (.tmp 62) _ rfl;have e2:=hρ (.tmp 63) _ rfl;simp only [execOp];go_simp;first|done|rfl) ?_
 refine KL.call rfl rfl rfl rfl rfl (by go_simp) (CM.out w6 _ Hbl.out (Hos.out.kept (S:=fun _=>False) Hr6.out.pureOf (fun _ _ _ h=>h))) ?_
 rintro e w7 ⟨rfl,hk7⟩;refine ⟨_,rfl,?_⟩;have Hr7:=Lib.hid (Hr6.out.pure hk7);clear hk7 Hr6 CM hc6 hc11;have hc6:=(Hr7.out.blk 1 rfl).cell;cases mm
 ·refine gz47 ?_
  refine gz0 ?_;refine KL.call rfl rfl rfl rfl rfl (by go_simp) (first27 w7) ?_
  rintro e wz ⟨rfl,hkz⟩;refine ⟨_,rfl,?_⟩;refine gz0 ?_;refine KR.fin1 Tryz.results3 rfl ⟨rfl,Hr7.out.pureOf.same hkz⟩
 refine gz0 ?_;refine KL.call rfl rfl rfl rfl rfl (by go_simp) ((co_new1 c w7 HOK.out)) ?_
 rintro e w8 ⟨g,rfl,hm8,hp8⟩;refine ⟨_,rfl,?_⟩;have hr8:=Run.perm (Run.old (((Hr7.out.add (Q:=coC 0 g (Co.new c)) hp8 hm8).drop 2))) (List.Perm.swap _ _ _);have HI0:Hid (AsI W c l g [blkC g11 32 ((batchQ n ops).cells oA ops.length oc)] 0 w8):=Lib.hid ⟨Nat.zero_le _,0,Co.new c,Nat.le_refl _,(Co.Hm.new HOK.out Hcs.out).mono (Nat.le_refl _) (by omega),hr8⟩
 have Hla:=Lib.hid (asks_lite HLA.out);clear hr8 hm8 hp8 Hr7 hc6;refine gz0 ?_;refine KL.bop (v:=.bool false) rfl rfl rfl rfl rfl rfl (by go_simp;first|done|rfl) ?_
 refine gz0 ?_;refine KW.loop (ι:=Nat) (fun i=>[(1,.slice A l.length cpl),(2,.string t),(3,.string n),(4,.slice oA ops.length oc),(11,.pointer (some ⟨g11,0,none⟩)),(12,pV g),(14,.int .i64 (i:Int))]) (fun i w'=>AsI W c l g [blkC g11 32 ((batchQ n ops).cells oA ops.length oc)] i w') (fun i=>l.length-i) 0 HI0.out (kle_ok (by repeat' (first|exact trivial|refine ⟨rfl,?_⟩))) ?_
 rintro i w9 hI;have HI:=Lib.hid hI;obtain ⟨F9,hs9⟩:=hI.cells Hs.out;have Hs9:=Lib.hid hs9;clear hI hs9
 by_cases hlt:i<l.length
 ·have hd:decide ((i:Int)<(l.length:Int))=true:=by simp;omega
  obtain ⟨o,ho⟩:∃ o,l[i]? = some o:=⟨_,List.getElem?_eq_getElem hlt⟩;obtain ⟨b,off,hA,_⟩:=Hs.out.2 (by omega)
  subst hA;obtain ⟨c0,c1,c2,c3,c4,c5,c6,c7,c8,c9,c10,c11⟩:=as_cells Hs9.out ho;have hmem:=List.mem_of_getElem? ho;have Hlo:=Lib.hid (Hla.out.2 o hmem);have Hoo:=Lib.hid (Hok.out o hmem);have Ho:=Lib.hid ho;clear ho hmem;obtain ⟨F10,hsq⟩:=HI.out.ops Hoo.out;have CM:=Lib.hid (may_any o w9 F10 (by have:=Hlo.out.2.2.2;unfold maxLen;omega) Hlo.out.1 hsq)
  obtain ⟨mb,hmb⟩:∃ b,mayB o=b:=⟨_,rfl⟩;rw [hmb] at CM;clear hsq hmb;refine gz0 ?_;refine KL.call rfl rfl rfl rfl rfl (by go_simp) (CM.out) ?_
  rintro e w10 ⟨rfl,hk10⟩;refine ⟨_,rfl,?_⟩;have HI10:=Lib.hid (HI.out.pure hk10);clear c0 c1 c2 c3 c4 c5 c6 c7 c8 c9 c10 c11 CM;obtain ⟨c0,c1,c2,c3,c4,c5,c6,c7,c8,c9,c10,c11⟩:=as_cells (Hs9.out.kept (S:=fun _=>False) hk10 (fun _ _ _ h=>h)) Ho.out;clear hk10;cases mb
  ·refine gz0 ?_
   refine KL.add ((i+1:Nat):Int) rfl rfl rfl rfl rfl rfl (by have:=Hla.out.1;omega) (by omega) ?_
   refine gz0 ?_;refine KE.rnd (i+1) (by repeat' (first|exact trivial|refine ⟨rfl,?_⟩)) (HI10.out.next hlt) (by omega)
  ·refine gz0 ?_
   have CD:=Lib.hid (HI10.out.do hlt Hla.out.1 Hoo.out Hlo.out.2.2.2 Hlo.out.2.1 Hlo.out.2.2.1);refine KL.call rfl rfl rfl rfl rfl (by go_simp) (CD.out) ?_
   rintro e w11 ⟨v11,rfl,hI11⟩;refine ⟨_,rfl,?_⟩;have HI11:=Lib.hid hI11;clear hI11 c0 c1 c2 c3 c4 c5 c6 c7 c8 c9 c10 c11 CD;refine gz0 ?_;refine KL.add ((i+1:Nat):Int) rfl rfl rfl rfl rfl rfl (by have:=Hla.out.1;omega) (by omega) ?_
   refine gz0 ?_;refine KE.rnd (i+1) (by repeat' (first|exact trivial|refine ⟨rfl,?_⟩)) HI11.out (by omega)
 have hd:decide ((i:Int)<(l.length:Int))=false:=by simp;omega
 refine gz0 ?_;have hil:i=l.length:=by have:=HI.out.1;omega
 obtain ⟨_,N,x,hN,hm,hr⟩:=HI.out;have Hm:=Lib.hid hm;have Hr:=Lib.hid hr;have hN2:N≤240:=by have:=Hla.out.1;omega
 have hi60:i≤60:=by have:=Hla.out.1;omega
 clear hm hr HI HI0 Hs9 hN hil;have CF:=Lib.hid (show Calls Tryz.prog 13 _ w9 _ from co_find w9 _ N g x t n (Hr.out.get (P:=coC N g x) 0 rfl) (by have:=Hsz.out.1;omega) (by have:=Hsz.out.2;omega))
 obtain ⟨id,hid⟩:∃ id,x.find t n=id:=⟨_,rfl⟩;rw [hid] at CF;have Hfi:=Lib.hid hid;clear hid;refine KL.call rfl rfl rfl rfl rfl (by go_simp) (CF.out) ?_
 rintro e w10 ⟨rfl,hkx⟩;refine ⟨_,rfl,?_⟩;have Hr':=Lib.hid (Hr.out.pure hkx);clear Hr hkx;have Hr:=Hr';clear Hr';clear CF;refine gz0 ?_;refine KL.told (v:=.agg #[.int .i64 9,.string ⟨#[]⟩,.string n,.string ⟨#[]⟩,.string ⟨#[]⟩,.int .i64 0,.int .i64 0,.slice none 0 0,.int .i64 0,.int .i64 0,.int .i64 0]) rfl rfl rfl (fun ρ hρ=>by have e:=hρ (.tmp 104) _ rfl;have e':=hρ (.const (.int .i64 9)) _ rfl;simp only [execOp];go_simp;first|done|rfl) ?_
 have CW:=Run.work (q:=waitQ n) (r:=(x.work id (waitQ n)).1) (x':=(x.work id (waitQ n)).2) Hr.out (fun G a' hl h=>co_work w10 G N g a' x id (waitQ n) none 0 0 (oldC W) hl h (Hm.out.ok.ok (by omega)) (by omega) (Nat.zero_le _) (by omega) (by omega) (fun o ho=>by cases ho) Hm.out.iv.ut (by show (0:Int)≤_;omega) (fun w G h=>Sl.nil _ _ _ _))
 obtain ⟨r1,hr1⟩:∃ r,(x.work id (waitQ n)).1=r:=⟨_,rfl⟩;rw [wait_same,hr1] at CW;have CW:=Lib.hid CW;have Hr1:=Lib.hid hr1;clear hr1;refine gz0 ?_;refine gz35 ?_;rintro e w11 ⟨B11,c11,rfl,hr11⟩;refine ⟨_,rfl,?_⟩;have Hr':Hid (Run W (fun b=>b<W.heap.size) w11 [coC (N+2) g x,oldC W,blkC g11 32 ((batchQ n ops).cells oA ops.length oc)]):=Lib.hid (hr11.drop 2);clear hr11 CW Hr;have Hr:=Hr';clear Hr';refine gz0 ?_
 have hra:=Hr.out.addBlk zR 45;simp only [zR] at hra;refine KL.makes (v:=.pointer (some ⟨World.heap w11 |>.size,0,none⟩)) rfl rfl rfl (fun ρ hρ=>by simp only [execOp];go_simp;first|done|rfl) ?_
 generalize World.alloc w11 _=w12 at *;generalize (World.heap w11).size=g16 at *;refine gz25 ?_;intro w13 hbx hkx;have hrb:=hra.turn 0 rfl hbx hkx;have Hr':=Lib.hid (Run.perm hrb (List.perm_middle (l₁:=[_,_])).symm);clear Hr hra hbx hkx hrb;have Hr:=Hr';clear Hr';refine gz0 ?_;refine KL.told (v:=.agg #[.int .i64 8,.string ⟨#[]⟩,.string n,.string ⟨#[]⟩,.string ⟨#[]⟩,.int .i64 0,.int .i64 0,.slice none 0 0,.int .i64 0,.int .i64 1,.int .i64 0]) rfl rfl rfl (fun ρ hρ=>by have e:=hρ (.tmp 112) _ rfl;have e':=hρ (.const (.int .i64 8)) _ rfl;have e'':=hρ (.const (.int .i64 1)) _ rfl;simp only [execOp];go_simp;first|done|rfl) ?_
 have CW:=Run.work (q:=deltaQ n) (r:=(x.work id (deltaQ n)).1) (x':=(x.work id (deltaQ n)).2) Hr.out (fun G a' hl h=>co_work w13 G (N+2) g a' x id (deltaQ n) none 0 0 (oldC W) hl h (Hm.out.ok.ok (by omega)) (by omega) (Nat.zero_le _) (by omega) (by omega) (fun o ho=>by cases ho) Hm.out.iv.ut (by show (1:Int)≤_;omega) (fun w G h=>Sl.nil _ _ _ _))
 obtain ⟨r2,hr2⟩:∃ r,(x.work id (deltaQ n)).1=r:=⟨_,rfl⟩;rw [delta_same,hr2] at CW;have CW:=Lib.hid CW;have Hr2:=Lib.hid hr2;clear hr2;refine gz0 ?_;refine gz35 ?_;rintro e w14 ⟨B14,c14,rfl,hr14⟩;refine ⟨_,rfl,?_⟩;have Hr':Hid (Run W (fun b=>b<W.heap.size) w14 [coC (N+4) g x,oldC W,itC B14 r2.items.length r2.items,blkC g16 45 (rspA 9 r1.err r1.token r1.version r1.card r1.index r1.more none 0 0),blkC g11 32 ((batchQ n ops).cells oA ops.length oc)]):=Lib.hid hr14
 clear hr14 CW Hr;have Hr:=Hr';clear Hr';refine gz0 ?_;have hra:=Hr.out.addBlk zR 45;simp only [zR] at hra;refine KL.makes (v:=.pointer (some ⟨World.heap w14 |>.size,0,none⟩)) rfl rfl rfl (fun ρ hρ=>by simp only [execOp];go_simp;first|done|rfl) ?_
 generalize World.alloc w14 _=w15 at *;generalize (World.heap w14).size=g18 at *;refine gz25 ?_;intro w16 hbx hkx;have hrb:=hra.turn 0 rfl hbx hkx;have Hr':=Lib.hid (Run.perm hrb (List.perm_middle (l₁:=[_,_])).symm);clear Hr hra hbx hkx hrb;have Hr:=Hr';clear Hr';refine gz0 ?_;have CT:=Lib.hid (co_counter w16 _ (N+4) g x (Hr.out.get (P:=coC (N+4) g x) 0 rfl));refine KL.call rfl rfl rfl rfl rfl (by go_simp) (CT.out) ?_
 rintro e w17 ⟨rfl,e17⟩;refine ⟨_,rfl,?_⟩;obtain rfl:=e17.symm;clear e17 CT;have hc11:=(Hr.out.blk 5 rfl).cell;refine gz0 ?_;have CW:=Run.work (q:=batchQ n ops) (r:=(x.work id (batchQ n ops)).1) (x':=(x.work id (batchQ n ops)).2) Hr.out (fun G a' hl h=>co_work w16 G (N+4) g a' x id (batchQ n ops) oA ops.length oc (oldC W) hl h (Hm.out.ok.ok (by omega)) (by omega) (Nat.zero_le _) (by have:=Hfew.out.1;omega) Hoc.out (fun o ho=>by have:=(Hfew.out.2 o ho).2;omega) Hm.out.iv.ut (by show (0:Int)≤_;omega) (fun w G h=>old_sl h Hos.out))
 have hit:=batch_items x id n ops;have hkd:=work_kind x id (batchQ n ops);have hok1:=okk_work Hm.out.ok Hbl2.out id;have hiv1:=iv_work Hm.out.iv Hbl2.out id;obtain ⟨⟨rk,err,tok,ver,card,ix,more,items⟩,hrr⟩:∃ r,(x.work id (batchQ n ops)).1=r:=⟨_,rfl⟩;obtain ⟨x1,hx1⟩:∃ y,(x.work id (batchQ n ops)).2=y:=⟨_,rfl⟩;rw [hrr] at hit hkd CW;rw [hx1] at hok1 hiv1 CW;simp only at hit hkd;subst hit;have hkd:rk=7:=hkd
 subst hkd;have CW:=Lib.hid CW;have Hrr:=Lib.hid hrr;have Hx1:=Lib.hid hx1;have Hok1:=Lib.hid hok1;have Hiv1:=Lib.hid hiv1;clear hrr hx1 hok1 hiv1;refine gz35 ?_;rintro e w17 ⟨B17,c17,rfl,hr17⟩;refine ⟨_,rfl,?_⟩;have Hr':Hid (Run W (fun b=>b<W.heap.size) w17 [coC (N+6) g x1,oldC W,blkC g18 45 (rspA 8 r2.err r2.token r2.version r2.card r2.index r2.more none 0 0),itC B14 r2.items.length r2.items,blkC g16 45 (rspA 9 r1.err r1.token r1.version r1.card r1.index r1.more none 0 0),blkC g11 32 ((batchQ n ops).cells oA ops.length oc)]):=Lib.hid (hr17.drop 2)
 clear hr17 CW Hr hc11;have Hr:=Hr';clear Hr';refine gz0 ?_;have hra:=Hr.out.addBlk zR 45;simp only [zR] at hra;refine KL.makes (v:=.pointer (some ⟨World.heap w17 |>.size,0,none⟩)) rfl rfl rfl (fun ρ hρ=>by simp only [execOp];go_simp;first|done|rfl) ?_
 generalize World.alloc w17 _=w18 at *;generalize (World.heap w17).size=g21 at *;refine gz25 ?_;intro w19 hbx hkx;have hrb:=hra.turn 0 rfl hbx hkx;have Hr':=Lib.hid (Run.perm hrb (List.perm_middle (l₁:=[_,_])).symm);clear Hr hra hbx hkx hrb;have Hr:=Hr';clear Hr';have hc21:=(Hr.out.blk 2 rfl).cell;obtain ⟨e0,he0⟩:∃ b,(!decide (err=0))=b:=⟨_,rfl⟩;refine gz0 ?_;cases e0;rotate_left
 ·have hbad:=batch_bad x id n ops (by rw [Hrr.out];simpa using he0)
  rw [Hrr.out,Hx1.out] at hbad;simp only at hbad;obtain ⟨hb1,rfl,rfl⟩:=hbad;have CT:=Lib.hid (co_counter w19 _ (N+6) g x1 (Hr.out.get (P:=coC (N+6) g x1) 0 rfl));rw [hb1] at CT;have hcc:decide (x.counter=x.counter)=true:=by simp
  clear hb1;refine gz0 ?_;refine KL.call rfl rfl rfl rfl rfl (by go_simp) (CT.out) ?_
  rintro e w20 ⟨rfl,e20⟩;refine ⟨_,rfl,?_⟩;obtain rfl:=e20.symm;clear e20 CT;refine gz0 ?_;refine KR.fin1 Tryz.results3 rfl ⟨rfl,Hr.out.old_pure (i:=1) rfl⟩
 refine gz0 ?_;have herr:err=0:=by simpa using he0
 subst herr;obtain ⟨j,p,hij,hp,ha,hwe⟩:=batch_some x id n ops (by rw [Hrr.out])
 subst hij;have hnm:nameB t=true∧nameB n=true:=by
  refine Decidable.byContradiction (fun hb=>?_);have h1:=Co.find_bad (x:=x) hb;rw [Hfi.out] at h1;omega
 obtain ⟨j',p',hf',hp',_,hpt,hpn⟩:=Hm.out.iv.find_nat hnm.1 hnm.2 (by rw [Hfi.out];omega)
 rw [Hfi.out] at hf';obtain rfl:j=j':=by omega
 rw [hp] at hp';injection hp' with hp';subst hp';subst hpt;obtain ⟨x1',p1,D⟩:=drawn_yes Hm.out hp ha hpn hwe;have hwk:=D.wk;have hR:=Hrr.out;rw [hwk] at hR;have hX:=Hx1.out;rw [hwk] at hX;have hX:x1'=x1:=hX;subst hX;have hR:(⟨7,0,x.counter+1,0,⟨#[]⟩,0,false,[]⟩:Rs)=⟨7,0,tok,ver,card,ix,more,[]⟩:=hR;injection hR with _ _ h3 h4 h5 h6 h7 _;subst h3 h4 h5 h6 h7;have HD:=Lib.hid D;have Hp:=Lib.hid hp;have Ha:=Lib.hid ha
 have Hpn:=Lib.hid hpn;clear hwk hX hnm hf' hp ha hwe D he0 hpn;have hcb : -9223372036854775808≤x.counter+1∧x.counter+1≤9223372036854775807:=by
  have h1:=Hok1.out.ct;have h2:=HD.out.ct;have h3:=Hm.out.ok.ct;unfold maxTok at h1;omega
 have Hcb:=Lib.hid hcb;clear hcb hc21;have hrd:=Hr.out.drew;refine KW.regionS (fun y=>y=w19.drew) [7] [0,1,2,3,4,5,6,8,9,10,11,12,13,14,15,16,17,18,19,20,21] (by kernel_rfl) (by kernel_rfl) (by kernel_rfl) rfl ?_
 generalize w19.drew=w20 at *;have Hr':=Lib.hid hrd;clear Hr hrd;have Hr:=Hr';clear Hr';have hc21:=(Hr.out.blk 2 rfl).cell;have heq:(!decide (x.counter+1=x.counter+1))=false:=by simp
 have CT:=Lib.hid (co_counter w20 _ (N+6) g x1' (Hr.out.get (P:=coC (N+6) g x1') 0 rfl));rw [HD.out.ct] at CT
 repeat (first|refine KS.skip rfl rfl rfl ?_|refine KS.free (by decide) rfl rfl (fun y hy=>by subst hy;exact PR.evc rfl rfl (by with_reducible assumption)) rfl ?_|refine KS.free (by decide) rfl rfl (fun y hy=>PR.ev rfl) rfl ?_|refine KS.free (by decide) rfl rfl (fun y hy=>by subst hy;exact PR.fa rfl rfl (by go_simp;first|done|rfl)) rfl ?_|refine KS.free (by decide) rfl rfl (fun y hy=>by subst hy;exact PR.ld rfl rfl (by go_simp;first|done|rfl)) rfl ?_|refine KS.nil ?_)
 refine KS.free (by decide) rfl rfl (fun y hy=>PR.add (x.counter+1) rfl rfl rfl Hcb.out rfl) rfl ?_
 repeat (first|refine KS.skip rfl rfl rfl ?_|refine KS.free (by decide) rfl rfl (fun y hy=>by subst hy;exact PR.evc rfl rfl (by with_reducible assumption)) rfl ?_|refine KS.free (by decide) rfl rfl (fun y hy=>PR.ev rfl) rfl ?_|refine KS.free (by decide) rfl rfl (fun y hy=>by subst hy;exact PR.fa rfl rfl (by go_simp;first|done|rfl)) rfl ?_|refine KS.free (by decide) rfl rfl (fun y hy=>by subst hy;exact PR.ld rfl rfl (by go_simp;first|done|rfl)) rfl ?_|refine KS.nil ?_)
 refine KS.call (by decide) rfl rfl rfl rfl rfl (by go_simp) CT.out ?_
 rintro e w21 ⟨rfl,e21⟩;refine ⟨_,rfl,e21,?_⟩;obtain rfl:=e21.symm;clear e21 CT
 repeat (first|refine KS.skip rfl rfl rfl ?_|refine KS.free (by decide) rfl rfl (fun y hy=>by subst hy;exact PR.evc rfl rfl (by with_reducible assumption)) rfl ?_|refine KS.free (by decide) rfl rfl (fun y hy=>PR.ev rfl) rfl ?_|refine KS.free (by decide) rfl rfl (fun y hy=>by subst hy;exact PR.fa rfl rfl (by go_simp;first|done|rfl)) rfl ?_|refine KS.free (by decide) rfl rfl (fun y hy=>by subst hy;exact PR.ld rfl rfl (by go_simp;first|done|rfl)) rfl ?_|refine KS.nil ?_)
 refine gz0 ?_;have hw1:x1'.work j (waitQ n)=(r1,x1'):=by rw [work_wait (by rw [nat_at];exact HD.out.at1) HD.out.al,wait_col HD.out.col,←Hr1.out,work_wait (by rw [nat_at];exact Hp.out) Ha.out]
 have hd1:x1'.work j (deltaQ n)=(r2,x1'):=by rw [work_delta (by rw [nat_at];exact HD.out.at1) HD.out.al,page_col HD.out.col,←Hr2.out,work_delta (by rw [nat_at];exact Hp.out) Ha.out]
 have hl2:r2.items.length≤1000000:=by
  rw [←Hr2.out,work_delta (by rw [nat_at];exact Hp.out) Ha.out]
  have h1:=page_len p.col 0 1;have h2:=(Hm.out.ok.pl p (List.mem_of_getElem? Hp.out)).1;show (p.col.page 0 1).items.length≤_;have h3:=h2.lg;have h4:=h2.cm;omega
 have Hw1:=Lib.hid hw1;have Hd1:=Lib.hid hd1;have Hl2:=Lib.hid hl2;clear hw1 hd1 hl2;refine KL.told (v:=.agg #[.int .i64 9,.string ⟨#[]⟩,.string n,.string ⟨#[]⟩,.string ⟨#[]⟩,.int .i64 0,.int .i64 0,.slice none 0 0,.int .i64 0,.int .i64 0,.int .i64 0]) rfl rfl rfl (fun ρ hρ=>by have e:=hρ (.tmp 176) _ rfl;have e':=hρ (.const (.int .i64 9)) _ rfl;simp only [execOp];go_simp;first|done|rfl) ?_
 have CW:=Run.work (q:=waitQ n) (r:=(x1'.work j (waitQ n)).1) (x':=(x1'.work j (waitQ n)).2) Hr.out (fun G a' hl h=>co_work w20 G (N+6) g a' x1' j (waitQ n) none 0 0 (oldC W) hl h (Hok1.out.ok (by omega)) (by omega) (Nat.zero_le _) (by omega) (by omega) (fun o ho=>by cases ho) Hiv1.out.ut (by show (0:Int)≤_;omega) (fun w G h=>Sl.nil _ _ _ _))
 rw [Hw1.out] at CW;have CW:=Lib.hid CW;clear hc21 heq;refine gz0 ?_;refine gz35 ?_;rintro e w21 ⟨B21,c21,rfl,hr21⟩;refine ⟨_,rfl,?_⟩;have Hr':=Lib.hid (hr21.drop 2);clear hr21 CW Hr;have Hr:=Hr';clear Hr';refine gz0 ?_;have hra:=Hr.out.addBlk zR 45;simp only [zR] at hra;refine KL.makes (v:=.pointer (some ⟨World.heap w21 |>.size,0,none⟩)) rfl rfl rfl (fun ρ hρ=>by simp only [execOp];go_simp;first|done|rfl) ?_
 generalize World.alloc w21 _=w22 at *;generalize (World.heap w21).size=g23 at *;refine gz25 ?_;intro w23 hbx hkx;have hrb:=hra.turn 0 rfl hbx hkx;have Hr':=Lib.hid (Run.perm hrb (List.perm_middle (l₁:=[_,_])).symm);clear Hr hra hbx hkx hrb;have Hr:=Hr';clear Hr';refine gz0 ?_;refine KL.told (v:=.agg #[.int .i64 8,.string ⟨#[]⟩,.string n,.string ⟨#[]⟩,.string ⟨#[]⟩,.int .i64 0,.int .i64 0,.slice none 0 0,.int .i64 0,.int .i64 1,.int .i64 0]) rfl rfl rfl (fun ρ hρ=>by have e:=hρ (.tmp 184) _ rfl;have e':=hρ (.const (.int .i64 8)) _ rfl;have e'':=hρ (.const (.int .i64 1)) _ rfl;simp only [execOp];go_simp;first|done|rfl) ?_
 have CW:=Run.work (q:=deltaQ n) (r:=(x1'.work j (deltaQ n)).1) (x':=(x1'.work j (deltaQ n)).2) Hr.out (fun G a' hl h=>co_work w23 G (N+6+2) g a' x1' j (deltaQ n) none 0 0 (oldC W) hl h (Hok1.out.ok (by omega)) (by omega) (Nat.zero_le _) (by omega) (by omega) (fun o ho=>by cases ho) Hiv1.out.ut (by show (1:Int)≤_;omega) (fun w G h=>Sl.nil _ _ _ _))
 rw [Hd1.out] at CW;have CW:=Lib.hid CW;refine gz0 ?_;refine gz35 ?_;rintro e w24 ⟨B24,c24,rfl,hr24⟩;refine ⟨_,rfl,?_⟩;have Hr':=Lib.hid hr24;clear hr24 CW Hr;have Hr:=Hr';clear Hr';refine gz0 ?_;have hra:=Hr.out.addBlk zR 45;simp only [zR] at hra;refine KL.makes (v:=.pointer (some ⟨World.heap w24 |>.size,0,none⟩)) rfl rfl rfl (fun ρ hρ=>by simp only [execOp];go_simp;first|done|rfl) ?_
 generalize World.alloc w24 _=w25 at *;generalize (World.heap w24).size=g25 at *;refine gz25 ?_;intro w26 hbx hkx;have hrb:=hra.turn 0 rfl hbx hkx;have Hr':=Lib.hid (Run.perm hrb (List.perm_middle (l₁:=[_,_])).symm);clear Hr hra hbx hkx hrb;have Hr:=Hr';clear Hr';have CI:=items_any B14 r2.items.length c14 r2.items B24 r2.items.length c24 r2.items w26 _ _ (Hr.out.get 7 rfl) (Hr.out.get 3 rfl) Hl2.out Hl2.out
 rw [show decide (r2.items=r2.items)=true by simp] at CI
 have CI:=Lib.hid CI;have hc23:=(Hr.out.blk 4 rfl).cell;have hc16:=(Hr.out.blk 8 rfl).cell;have heq:(!decide (r1.token=r1.token))=false:=by simp
 refine gz0 ?_;refine KL.call rfl rfl rfl rfl rfl (by go_simp) (CI.out) ?_
 rintro e w27 ⟨rfl,m27,e27⟩;refine ⟨_,rfl,?_⟩;have Hr':Hid (Run W (fun b=>b<W.heap.size) w27 _):=Lib.hid (e27 ▸ Hr.out.drewN m27);clear Hr e27 hc23 hc16 CI heq;have Hr:=Hr';clear Hr';obtain ⟨LL,hLL⟩:∃ r,x1'.list p.tenant=r:=⟨_,rfl⟩;have hli:=HD.out.li;have hL1:(x1'.list p.tenant).items.length≤1000:=by
  have h1:=Hok1.out.ln;unfold Co.list
  split
  ·show ((unE x1'.es _).map _).length≤_
   rw [List.length_map];unfold unE;rw [List.length_map];exact Nat.le_trans (List.length_filter_le _ _) (by omega)
  ·exact Nat.zero_le _
 have CL:=co_list w27 _ _ g x1' p.tenant (Hr.out.get (P:=coC _ g x1') 0 rfl) (by have:=Hsz.out.1;omega) (by have:=Hok1.out.ln;omega) Hiv1.out.co_ix Hiv1.out.ri Hiv1.out.key
 rw [hLL] at CL hli hL1;obtain ⟨lk,lerr,ltok,lver,lcard,lix,lmore,L⟩:=LL;simp only at hli hL1;have CL:=Lib.hid CL;have HL1:=Lib.hid hL1;obtain ⟨lf,hlf⟩:∃ f:It→Bool,f=(fun it=>decide (it.uid=n)&&decide (it.ver=x.counter+1)):=⟨_,rfl⟩;rw [←hlf] at hli;have Hli:=Lib.hid hli;have Hlf:=Lib.hid hlf;clear hli hL1 hLL hlf;refine gz0 ?_;refine KL.call rfl rfl rfl rfl rfl (by go_simp) (CL.out) ?_
 rintro e w28 ⟨B28,c28,rfl,hsl28,hp28⟩;refine ⟨_,rfl,?_⟩;have Hr':=Lib.hid (Run.perm (Hr.out.add (Q:=itC B28 L.length L) hp28 hsl28) (List.perm_middle (l₁:=[_,_])).symm);clear Hr CL hp28 hsl28;have Hr:=Hr';clear Hr';refine gz0 ?_;have hra:=Hr.out.addBlk zR 45;simp only [zR] at hra;refine KL.makes (v:=.pointer (some ⟨World.heap w28 |>.size,0,none⟩)) rfl rfl rfl (fun ρ hρ=>by simp only [execOp];go_simp;first|done|rfl) ?_
 generalize World.alloc w28 _=w29 at *;generalize (World.heap w28).size=g28 at *;refine gz25 ?_;intro w30 hbx hkx;have hrb:=hra.turn 0 rfl hbx hkx;have Hr':=Lib.hid (Run.perm hrb (List.perm_middle (l₁:=[_,_])).symm);clear Hr hra hbx hkx hrb;have Hr:=Hr';clear Hr';refine gz0 ?_;refine KW.loop (ι:=Nat×Bool) (fun q=>[(3,.string n),(4,.slice oA ops.length oc),(12,pV g),(15,.int .i64 (j:Int)),(21,.pointer (some ⟨g21,0,none⟩)),(23,.pointer (some ⟨g23,0,none⟩)),(27,.bool q.2),(28,.pointer (some ⟨g28,0,none⟩)),(29,.int .i64 (q.1:Int))]) (fun q w'=>q.1≤L.length∧q.2=(L.take q.1).any lf∧Run W (fun b=>b<W.heap.size) w' [coC (N+6+2+2) g x1',oldC W,blkC g28 45 (rspA lk lerr ltok lver lcard lix lmore B28 L.length c28),itC B28 L.length L,blkC g23 45 (rspA 9 r1.err r1.token r1.version r1.card r1.index r1.more none 0 0),blkC g21 45 (rspA 7 0 (x.counter+1) 0 ⟨#[]⟩ 0 false none 0 0)]) (fun q=>L.length-q.1) (0,false) ⟨Nat.zero_le _,rfl,?_⟩ (kle_ok (by repeat' (first|exact trivial|refine ⟨rfl,?_⟩))) ?_
 ·exact Run.drop (Run.drop (Run.drop (Run.drop (Run.drop (Run.drop Hr.out 4) 4) 6) 6) 6) 6
 rintro ⟨i,tb⟩ w31 ⟨hin,htb,hrw⟩;simp only at hin htb hrw;have Htb:=Lib.hid htb;have Hr':=Lib.hid hrw;clear htb hrw Hr;have Hr:=Hr';clear Hr';have hcl:=(Hr.out.blk 2 rfl).cell;have hc21:=(Hr.out.blk 5 rfl).cell
 by_cases hlt:i<L.length
 ·have hd:decide ((i:Int)<(L.length:Int))=true:=by simp;omega
  obtain ⟨it,hit⟩:∃ o,L[i]? = some o:=⟨_,List.getElem?_eq_getElem hlt⟩;have hsl:Sl w31 _ 4 B28 L.length (itc L):=Hr.out.get (P:=itC B28 L.length L) 3 rfl;obtain ⟨b,off,hA,_⟩:=hsl.2 (by omega)
  subst hA;have Hit:=Lib.hid hit;clear hit hsl;refine gz0 ?_;have hrd:=Hr.out.drew;refine gz66 ?_;clear hcl hc21;generalize w31.drew=w32 at *;have hcl:=(hrd.blk 2 rfl).cell;have hc21:=(hrd.blk 5 rfl).cell;obtain ⟨d0,d1,d2,d3⟩:=it_cells4 (hrd.get (P:=itC (some ⟨b,off,none⟩) L.length L) 3 rfl) Hit.out;have Hrd:=Lib.hid hrd;clear hrd;obtain ⟨u1,hu1⟩:∃ b,decide (it.uid=n)=b:=⟨_,rfl⟩;obtain ⟨u2,hu2⟩:∃ b,decide (it.ver=x.counter+1)=b:=⟨_,rfl⟩
  have hnx:(L.take (i+1)).any lf=(tb||(u1&&u2)):=by
   rw [List.take_add_one,Hit.out,List.any_append,←Htb.out,←hu1,←hu2,Hlf.out];simp
  have Hnx:=Lib.hid hnx;clear hnx;cases tb
  ·cases u1
   ·refine gz3 ?_
    refine gz0 ?_;refine gz51 ?_;refine gz0 ?_;refine KE.rnd (i+1,false) (by repeat' (first|exact trivial|refine ⟨rfl,?_⟩)) ⟨hlt,Hnx.out.symm,Hrd.out⟩ (by show L.length-(i+1)<L.length-i;omega)
   ·cases u2
    ·refine gz3 ?_
     refine gz0 ?_;refine gz51 ?_;refine gz0 ?_;refine KE.rnd (i+1,false) (by repeat' (first|exact trivial|refine ⟨rfl,?_⟩)) ⟨hlt,Hnx.out.symm,Hrd.out⟩ (by show L.length-(i+1)<L.length-i;omega)
    ·refine gz3 ?_
     refine gz0 ?_;refine gz51 ?_;refine gz0 ?_;refine KE.rnd (i+1,true) (by repeat' (first|exact trivial|refine ⟨rfl,?_⟩)) ⟨hlt,Hnx.out.symm,Hrd.out⟩ (by show L.length-(i+1)<L.length-i;omega)
  ·refine gz3 ?_
   refine gz0 ?_;refine gz51 ?_;refine gz0 ?_;refine KE.rnd (i+1,true) (by repeat' (first|exact trivial|refine ⟨rfl,?_⟩)) ⟨hlt,Hnx.out.symm,Hrd.out⟩ (by show L.length-(i+1)<L.length-i;omega)
 have hd:decide ((i:Int)<(L.length:Int))=false:=by simp;omega
 have htt:tb=true:=by rw [Htb.out,List.take_of_length_le (by omega)];exact Hli.out
 subst htt;refine gz0 ?_;obtain ⟨y,hy⟩:∃ y:Nat→Co,∀ i,y i=x1'.put j p1 (applyL p.col (ops.take i) (x.counter+1)):=⟨_,fun _=>rfl⟩;have hy0:y 0=x1':=by rw [hy];show x1'.put j p1 p.col=x1';rw [←HD.out.col];exact put_self HD.out.at1
 have hap:∀ i o,ops[i]? = some o→(y i).apply j o (x.counter+1)=(true,y (i+1)):=fun i o ho=>by rw [hy,hy];exact HD.out.ap i o ho
 have hgt:∀ i o,ops[i]? = some o→(y (i+1)).work j (getQ n o.uid)=(if o.del=true then rsErr 6 4 else ⟨6,0,0,x.counter+1,o.card,0,false,[]⟩,y (i+1)):=fun i o ho=>by rw [hy];exact HD.out.gt i o ho
 have hwt:(y ops.length).work j (waitQ n)=(⟨9,0,x.counter+1,0,⟨#[]⟩,0,false,[]⟩,y ops.length):=by
  have e:applyL p.col (ops.take ops.length) (x.counter+1)=applyL p.col ops (x.counter+1):=by rw [List.take_length]
  rw [hy,e];exact HD.out.wt (may_ops HMM.out)
 have Hy0:=Lib.hid hy0;have Hap:=Lib.hid hap;have Hgt:=Lib.hid hgt;have Hwt:=Lib.hid hwt;clear hy hy0 hap hgt hwt hcl hc21 hd Hlf Hli HL1 Htb;refine KW.loop (ι:=Nat) (fun i=>[(3,.string n),(4,.slice oA ops.length oc),(12,pV g),(15,.int .i64 (j:Int)),(21,.pointer (some ⟨g21,0,none⟩)),(23,.pointer (some ⟨g23,0,none⟩)),(27,.bool true),(30,.int .i64 (i:Int))]) (fun i w'=>i≤ops.length∧(∃ k,(y i).OkK k∧k≤1000)∧(y i).Iv∧Run W (fun b=>b<W.heap.size) w' [coC (N+10+2*i) g (y i),oldC W,blkC g23 45 (rspA 9 r1.err r1.token r1.version r1.card r1.index r1.more none 0 0),blkC g21 45 (rspA 7 0 (x.counter+1) 0 ⟨#[]⟩ 0 false none 0 0)]) (fun i=>ops.length-i) 0 ⟨Nat.zero_le _,⟨_,Hy0.out.symm ▸ Hok1.out,by omega⟩,Hy0.out.symm ▸ Hiv1.out,Hy0.out.symm ▸ (Run.drop (Run.drop Hr.out 2) 2)⟩ (kle_ok (by repeat' (first|exact trivial|refine ⟨rfl,?_⟩))) ?_
 rintro i w33 ⟨hin,⟨k,hok,hk1⟩,hiv,hrw⟩;have Hok:=Lib.hid hok;have Hiv:=Lib.hid hiv;have Hr':=Lib.hid hrw;clear hok hiv hrw Hr;have Hr:=Hr';clear Hr'
 by_cases hlt:i<ops.length
 ·have hd:decide ((i:Int)<(ops.length:Int))=true:=by simp;omega
  obtain ⟨o,ho⟩:∃ o,ops[i]? = some o:=⟨_,List.getElem?_eq_getElem hlt⟩;obtain ⟨b,off,hA,_⟩:=Hos.out.2 (by omega)
  subst hA;have hoc:=Hfew.out.2 o (List.mem_of_getElem? ho);have hapi:=Hap.out i o ho;have hgti:=Hgt.out i o ho;have hoki:(y (i+1)).OkK k:=by
   have h:=Hok.out.apply (j:Int) o (x.counter+1) (by omega)
   rw [hapi] at h;exact h
  have hivi:(y (i+1)).Iv:=by
   have h:=Hiv.out.apply (j:Int) o (x.counter+1) (by omega)
   rw [hapi] at h;exact h
  have Ho:=Lib.hid ho;have Hgti:=Lib.hid hgti;have Hoki:=Lib.hid hoki;have Hivi:=Lib.hid hivi;have Hoc1:=Lib.hid hoc;clear ho hgti hoki hivi hoc;refine gz0 ?_;have hrd:=Hr.out.drew;refine KW.regionS (fun _=>True) [8] [] (by kernel_rfl) (by kernel_rfl) (by kernel_rfl) trivial ?_
  generalize w33.drew=w34 at *;have hc21:=(hrd.blk 3 rfl).cell;obtain ⟨c0,c1,c2,c3,c4⟩:=op_cells (old_sl (hrd.get (P:=oldC W) 1 rfl) Hos.out) Ho.out;have CA:=hrd.turn1 0 rfl (fun G hG hp=>co_apply w34 G (N+10+2*i) g (y i) j (x.counter+1) o hp (Hok.out.ok (by omega)) (by have:=Hoc1.out;omega))
  rw [hapi] at CA;have CA:=Lib.hid CA;clear hrd hapi;refine gz3 ?_;refine KS.call (by decide) rfl rfl rfl rfl rfl (by go_simp) CA.out ?_
  rintro e w35 ⟨rfl,hr35⟩;refine ⟨_,rfl,trivial,?_⟩;have Hr':Hid (Run W (fun b=>b<W.heap.size) w35 [coC (N+10+2*i) g (y (i+1)),oldC W,blkC g23 45 (rspA 9 r1.err r1.token r1.version r1.card r1.index r1.more none 0 0),blkC g21 45 (rspA 7 0 (x.counter+1) 0 ⟨#[]⟩ 0 false none 0 0)]):=Lib.hid hr35;clear hr35 CA c0 c1 c2 c3 c4 hc21 Hr;have Hr:=Hr';clear Hr';refine gz3 ?_;obtain ⟨c0,c1,c2,c3,c4⟩:=op_cells (old_sl (Hr.out.get (P:=oldC W) 1 rfl) Hos.out) Ho.out
  refine gz0 ?_;refine KL.told (v:=.agg #[.int .i64 6,.string ⟨#[]⟩,.string n,.string o.uid,.string ⟨#[]⟩,.int .i64 0,.int .i64 0,.slice none 0 0,.int .i64 0,.int .i64 0,.int .i64 0]) rfl rfl rfl (fun ρ hρ=>by have e:=hρ (.tmp 251) _ rfl;have e2:=hρ (.tmp 256) _ rfl;have e':=hρ (.const (.int .i64 6)) _ rfl;simp only [execOp];go_simp;first|done|rfl) ?_
  have CW:=Run.work (q:=getQ n o.uid) (r:=((y (i+1)).work j (getQ n o.uid)).1) (x':=((y (i+1)).work j (getQ n o.uid)).2) Hr.out (fun G a' hl h=>co_work w35 G (N+10+2*i) g a' (y (i+1)) j (getQ n o.uid) none 0 0 (oldC W) hl h (Hoki.out.ok (by omega)) (by have:=Hfew.out.1;omega) (Nat.zero_le _) (by omega) (by omega) (fun o ho=>by cases ho) Hivi.out.ut (by show (0:Int)≤_;omega) (fun w G h=>Sl.nil _ _ _ _))
  rw [Hgti.out] at CW;have CW:=Lib.hid CW;clear c0 c1 c2 c3 c4;refine gz0 ?_;obtain ⟨od,hod⟩:∃ b,o.del=b:=⟨_,rfl⟩;rw [hod] at CW;have Hod:=Lib.hid hod;clear hod;have heq:(!decide (x.counter+1=x.counter+1))=false:=by simp
  have heq2:(!decide (o.card=o.card))=false:=by simp
  cases od
  ·refine gz35 ?_
   rintro e w36 ⟨B36,c36,rfl,hr36⟩;refine ⟨_,rfl,?_⟩;have Hr':Hid (Run W (fun b=>b<W.heap.size) w36 [coC (N+10+2*i+2) g (y (i+1)),oldC W,blkC g23 45 (rspA 9 r1.err r1.token r1.version r1.card r1.index r1.more none 0 0),blkC g21 45 (rspA 7 0 (x.counter+1) 0 ⟨#[]⟩ 0 false none 0 0)]):=Lib.hid (hr36.drop 2);clear hr36 CW Hr;have Hr:=Hr';clear Hr';refine gz0 ?_;have hra:=Hr.out.addBlk zR 45;simp only [zR] at hra
   refine gz63 ?_;generalize World.alloc w36 _=w37 at *;generalize (World.heap w36).size=g31 at *;refine gz25 ?_;intro w38 hbx hkx;have hrb:=hra.turn 0 rfl hbx hkx;have Hr':=Lib.hid (Run.perm hrb (List.perm_middle (l₁:=[_,_])).symm);clear Hr hra hbx hkx hrb;have Hr:=Hr';clear Hr';refine gz0 ?_;have hrd:=Hr.out.drew;refine gz66 ?_;generalize w38.drew=w39 at *;have hc31:=(hrd.blk 2 rfl).cell;have hc21:=(hrd.blk 4 rfl).cell
   obtain ⟨c0,c1,c2,c3,c4⟩:=op_cells (old_sl (hrd.get (P:=oldC W) 1 rfl) Hos.out) Ho.out;rw [Hod.out] at c0;have Hrd:=Lib.hid (Run.drop hrd 2);clear hrd;refine gz3 ?_;refine KS.pr (by decide) rfl rfl (PR.bop (v:=.bool false) rfl rfl rfl (by go_simp;first|done|rfl)) rfl ?_
   refine gz3 ?_;refine gz0 ?_;refine KL.add ((i+1:Nat):Int) rfl rfl rfl rfl rfl rfl (by have:=Hfew.out.1;omega) (by omega) ?_
   refine gz0 ?_;refine KE.rnd (i+1) (by repeat' (first|exact trivial|refine ⟨rfl,?_⟩)) ⟨hlt,⟨k,Hoki.out,hk1⟩,Hivi.out,?_⟩ (by omega)
   rw [show N+10+2*(i+1)=N+10+2*i+2 by omega]
   exact Hrd.out
  ·refine gz35 ?_
   rintro e w36 ⟨B36,c36,rfl,hr36⟩;refine ⟨_,rfl,?_⟩;have Hr':Hid (Run W (fun b=>b<W.heap.size) w36 [coC (N+10+2*i+2) g (y (i+1)),oldC W,blkC g23 45 (rspA 9 r1.err r1.token r1.version r1.card r1.index r1.more none 0 0),blkC g21 45 (rspA 7 0 (x.counter+1) 0 ⟨#[]⟩ 0 false none 0 0)]):=Lib.hid (hr36.drop 2);clear hr36 CW Hr;have Hr:=Hr';clear Hr';refine gz0 ?_;have hra:=Hr.out.addBlk zR 45;simp only [zR] at hra
   refine gz63 ?_;generalize World.alloc w36 _=w37 at *;generalize (World.heap w36).size=g31 at *;refine gz25 ?_;intro w38 hbx hkx;have hrb:=hra.turn 0 rfl hbx hkx;have Hr':=Lib.hid (Run.perm hrb (List.perm_middle (l₁:=[_,_])).symm);clear Hr hra hbx hkx hrb;have Hr:=Hr';clear Hr';refine gz0 ?_;have hrd:=Hr.out.drew;refine gz66 ?_;generalize w38.drew=w39 at *;have hc31:=(hrd.blk 2 rfl).cell;have hc21:=(hrd.blk 4 rfl).cell
   obtain ⟨c0,c1,c2,c3,c4⟩:=op_cells (old_sl (hrd.get (P:=oldC W) 1 rfl) Hos.out) Ho.out;rw [Hod.out] at c0;have Hrd:=Lib.hid (Run.drop hrd 2);clear hrd;refine gz3 ?_;refine KS.pr (by decide) rfl rfl (PR.bop (v:=.bool false) rfl rfl rfl (by go_simp;first|done|rfl)) rfl ?_
   refine gz3 ?_;refine gz0 ?_;refine KL.add ((i+1:Nat):Int) rfl rfl rfl rfl rfl rfl (by have:=Hfew.out.1;omega) (by omega) ?_
   refine gz0 ?_;refine KE.rnd (i+1) (by repeat' (first|exact trivial|refine ⟨rfl,?_⟩)) ⟨hlt,⟨k,Hoki.out,hk1⟩,Hivi.out,?_⟩ (by omega)
   rw [show N+10+2*(i+1)=N+10+2*i+2 by omega]
   exact Hrd.out
 have hd:decide ((i:Int)<(ops.length:Int))=false:=by simp;omega
 obtain rfl:i=ops.length:=by omega
 refine gz0 ?_;refine KL.told (v:=.agg #[.int .i64 9,.string ⟨#[]⟩,.string n,.string ⟨#[]⟩,.string ⟨#[]⟩,.int .i64 0,.int .i64 0,.slice none 0 0,.int .i64 0,.int .i64 0,.int .i64 0]) rfl rfl rfl (fun ρ hρ=>by have e:=hρ (.tmp 298) _ rfl;have e':=hρ (.const (.int .i64 9)) _ rfl;simp only [execOp];go_simp;first|done|rfl) ?_
 have CW:=Run.work (q:=waitQ n) (r:=((y ops.length).work j (waitQ n)).1) (x':=((y ops.length).work j (waitQ n)).2) Hr.out (fun G a' hl h=>co_work w33 G (N+10+2*ops.length) g a' (y ops.length) j (waitQ n) none 0 0 (oldC W) hl h (Hok.out.ok (by omega)) (by have:=Hfew.out.1;omega) (Nat.zero_le _) (by omega) (by omega) (fun o ho=>by cases ho) Hiv.out.ut (by show (0:Int)≤_;omega) (fun w G h=>Sl.nil _ _ _ _))
 rw [Hwt.out] at CW;have CW:=Lib.hid CW;refine gz0 ?_;refine gz35 ?_;rintro e w34 ⟨B34,c34,rfl,hr34⟩;refine ⟨_,rfl,?_⟩;have Hr':=Lib.hid hr34;clear hr34 CW Hr;have Hr:=Hr';clear Hr';refine gz0 ?_;refine KL.storeB rfl rfl rfl rfl rfl (Hr.out.blk 3 rfl) rfl (by kernel_rfl) (by kernel_rfl) ?_
 intro w35 hb35 hk35;have hr35:=Hr.out.turn 3 rfl hb35 hk35;have hc23:=(hr35.blk 3 rfl).cell;have hc21:=(hr35.blk 4 rfl).cell;have heq:decide (x.counter+1=x.counter+1)=true:=by simp
 have Hr':=Lib.hid hr35;clear hr35 hb35 hk35 Hr;refine gz0 ?_;refine KR.fin1 Tryz.results3 rfl ⟨rfl,Hr'.out.old_pure (i:=1) rfl⟩
end
section
open Go.RowKit Go.PlainAid
end
section
open Go.RowKit Go.PlainAid
section
variable {H:Type} {enc:TypeId×Value→H} {W:World}
theorem open_quota {cs:List Value} (h:Tr enc Tryz.prog W 23 cs):∃ z:Qt,cs=[.int .i64 z.cols,.int .i64 z.cards,.int .i64 z.bytes,.int .i64 z.log]:=by
 obtain ⟨hl,hf⟩:=h.fields Tryz.underlying23;obtain ⟨a,e0,b0⟩:=(hf 0 _ rfl).int Tryz.underlying3;obtain ⟨b,e1,b1⟩:=(hf 1 _ rfl).int Tryz.underlying3;obtain ⟨c,e2,b2⟩:=(hf 2 _ rfl).int Tryz.underlying3;obtain ⟨d,e3,b3⟩:=(hf 3 _ rfl).int Tryz.underlying3;have hl:cs.length=4:=hl;have h1:=pcs_zero (cs:=cs) (ks:=[1,1,1,1]) hl;simp only [pcs] at h1;refine ⟨⟨a,b,c,d⟩,?_⟩;rw [h1];have e0:(cs.drop 0).take 1=_:=e0
 have e1:(cs.drop (0+1)).take 1=_:=e1;have e2:(cs.drop (0+1+1)).take 1=_:=e2;have e3:(cs.drop (0+1+1+1)).take 1=_:=e3;rw [e0,e1,e2,e3];rfl
theorem open_confV {r0:Reach} {b0:Nat} {v:Value} {d:DataW H} {p:List MemPlace} (hv:Value.okWide Tryz.prog W r0 b0 25 v) (h:DataW.Trod enc Tryz.prog W 0 (fun _=>true) true 25 v d p) :
  ∃ c:Cf,v=c.val∧c.start≤maxTok:=by
 obtain ⟨cs,rfl,ht⟩:=Tr.struct Tryz.underlying25 hv h;obtain ⟨hl,hf⟩:=ht.fields Tryz.underlying25;obtain ⟨a0,e0,b0⟩:=(hf 0 _ rfl).int Tryz.underlying3;obtain ⟨a1,e1,b1⟩:=(hf 1 _ rfl).int Tryz.underlying2;obtain ⟨a2,e2,b2⟩:=(hf 2 _ rfl).int Tryz.underlying3;obtain ⟨a3,e3,b3⟩:=(hf 3 _ rfl).int Tryz.underlying3;obtain ⟨a4,e4⟩:=open_quota (hf 4 _ rfl);have hl:cs.toList.length=8:=hl;have h1:=pcs_zero (cs:=cs.toList) (ks:=[1,1,1,1,4]) hl
 simp only [pcs] at h1;refine ⟨⟨a0,a1,a2,a3,a4⟩,?_,b1.2⟩;unfold Cf.val
 congr 1
 refine Array.toList_inj.1 ?_;rw [h1];have e0:(cs.toList.drop 0).take 1=_:=e0;have e1:(cs.toList.drop (0+1)).take 1=_:=e1;have e2:(cs.toList.drop (0+1+1)).take 1=_:=e2;have e3:(cs.toList.drop (0+1+1+1)).take 1=_:=e3;have e4:(cs.toList.drop (0+1+1+1+1)).take 4=_:=e4;rw [e0,e1,e2,e3,e4];rfl
end
end
section
open Go.RowKit Go.PlainAid
theorem coreDrawn_top (c:Cf) (A:Option Addr) (cpl:Nat) (l:List AsA) (t n:ByteArray) (oA:Option Addr) (oc:Nat) (ops:List OpR) (W:World) (hc:c.start≤maxTok) (hs:Sl W (Lt W) 12 A l.length (l.flatMap AsA.cells)) (_:l.length≤cpl) (_:cpl≤maxLen) (hok:∀ a∈l,a.Ok W) (ht:t.size≤maxLen) (_:n.size≤maxLen) (hos:Sl W (Lt W) 5 oA ops.length (ops.flatMap OpR.cells)) (hoc:ops.length≤oc) (_:oc≤maxLen) (_:∀ o∈ops,o.Fits) :
  Calls Tryz.prog 3 #[c.val,.slice A l.length cpl,.string t,.string n,.slice oA ops.length oc] W (TruW W):=drawn_any c l A cpl t n ops oA oc W hs hok hos hoc ht hc
end
end Go.Proofs.YtjfpfeapbcjioaaGreat
