/-
  The texts of this claim, put together: CoKE, CoX, CoV, CoDP, CoDQ, CoDR, CoDS.
-/
import Derived.LoopTactic
import Derived.Deep.QuietTactic
import Derived.BigQuiet
import Derived.Test.YtjfpfeapbcjioaaGreatZCoM
import Derived.Test.YtjfpfeapbcjioaaGreatZClQ
import Derived.Test.YtjfpfeapbcjioaaGreatZId
set_option linter.unusedSimpArgs false
set_option linter.unusedVariables false
set_option maxHeartbeats 12800000
set_option maxRecDepth 100000
namespace Go.Proofs.YtjfpfeapbcjioaaGreat
section
open Go.RowKit
def deltaRs (p:Pl) (token most:Int):Rs:=⟨8,(p.col.page token most).err,(p.col.page token most).token,0,⟨#[]⟩,0,(p.col.page token most).more,(p.col.page token most).items⟩
theorem co_work_delta (w:World) (F:Nat→Prop) (N g:Nat) (a:CA) (x:Co) (id:Int) (p:Pl) (q:Rq) (A:Option Addr) (m cp:Nat) (OC:Ch) (hl:a.ps.length=x.pls.length) (h:Star w F [starC (coL N g a x x.pls.length),OC]) (hx:x.at id=some p) (hp:p.alive=true) (hok:x.Ok) (hut:∀ y∈p.col.log,y.uid.size≤1000000) (hmo:q.most≤9223372036854775807) (hkind:q.kind=8) :
  Calls Tryz.prog 14 #[pV g,.int .i64 id,.agg (q.cells A m cp)] w (WkP N g OC w F q (deltaRs p q.token q.most) x):=by
 have hpo:=(hok.pl p (Co.at_mem hx)).1;have Hpo:=hI hpo;have Hut:=hI hut;clear hok hut hpo;have hr0:=wk_start w F N g x.pls.length a x q A m cp OC h;obtain ⟨k,pa,rfl,hpk,hq,hv⟩:=at_some hl hx;have HV:=hI hv;have Hr0:=hI hr0;have Hl:=hI hl;obtain ⟨kind,tenant,col,uid,card,⟨ck,cv⟩,ops,token,most,ticks⟩:=q;simp only at *;have Hpk:=hI hpk;have Hq:=hI hq;have Hp:=hI hp
 subst hkind;clear hr0 hx hl h hv hpk hq hp;have hc0:=(Hr0.out.blk 1 rfl).cell;go_enter Tryz.func14,Tryz.ntmps14;go_wp2_with (with_reducible refine stop_store (ty:=45) ?_);refine unheld ?_;refine gz14 ?_;intro w1 hb1 hk1;have hr1:=Hr0.out.turn 0 rfl hb1 hk1;have Hr1:Hid (Run w F w1 [rsqB (w.heap.size+1) 8 0 0 0,rqB w.heap.size ⟨8,tenant,col,uid,card,⟨ck,cv⟩,ops,token,most,ticks⟩ A m cp,starC (coL N g a x x.pls.length),OC]):=hI hr1
 have hin1:Star w1 (fun b=>F b∨w.heap.size≤b) (coL N g a x x.pls.length):=Hr1.out.get (P:=starC (coL N g a x x.pls.length)) 2 rfl;have CA:=co_at w1 w1 _ N g a x x.pls.length (k:Int) (Run.start hin1) Hl.out;rw [HV.out] at CA;have CA:=hI CA;clear hr1 hb1 hk1 hc0 hin1;go_wp2_with fail;refine (CA.out).mono ?_;rintro e w2 ⟨rfl,e2⟩;obtain rfl:=e2.symm;have hst1:Star w1 (fun b=>F b∨w.heap.size≤b) (coL N g a x x.pls.length):=Hr1.out.get (P:=starC (coL N g a x x.pls.length)) 2 rfl
 have hcp:=(pl_blk (Run.start hst1) Hq.out Hpk.out).cell;rw [Hp.out] at hcp;have hcq:=(Hr1.out.blk 1 rfl).cell;have CP:=cl_page w1.drew _ pa.gc p.col token most (Star.get (P:=clC pa.gc p.col) (pl_get ((Run.start hst1).drew) Hq.out Hpk.out) 1 rfl) Hpo.out Hut.out hmo;unfold deltaRs;simp only;obtain ⟨pg,hpg⟩:∃ pg,p.col.page token most=pg:=⟨_,rfl⟩;rw [hpg] at CP;have CP:=hI CP;have Hpg:=hI hpg
 clear hst1 hpg;go_wp2;refine wp_region_seq [8,16,18,20] [12,13] (by kernel_rfl) (by kernel_rfl) (by kernel_rfl) ?_
 refine gz4 ?_;refine gz2 ?_
 with_reducible refine seq_move (by decide) (fun K hK=>?_)
 go_simp;refine up_enter ((CP.out).mono ?_);rintro e w2 ⟨B,cq,rfl,hs2,hk2⟩;have hr2:=(Hr1.out.drew.add (Q:=itC B pg.items.length pg.items) hk2 hs2).perm (List.perm_append_singleton (itC B pg.items.length pg.items) [_,_,_,_]).symm;have hca:=(hr2.blk 0 rfl).cell;have hfa:=(hr2.blk 0 rfl).frozen;have Hr2:=hI hr2;refine ⟨_,rfl,hK _ _ ?_⟩;clear hK K CP hs2 hk2 hr2 hcp hcq;refine gz2 ?_;refine gz4 ?_
 refine gz2 ?_
 with_reducible refine seq_move (by decide) (fun K hK=>?_)
 go_simp;refine up_skip (hK _ _ ?_);clear hK K;refine gz2 ?_
 with_reducible refine seq_move (by decide) (fun K hK=>?_)
 go_simp;refine up_skip (hK _ _ ?_);clear hK K;refine gz2 ?_
 with_reducible refine seq_move (by decide) (fun K hK=>?_)
 go_simp;refine up_skip (hK _ _ ?_);clear hK K;refine gz13 ?_;have Hr5:=hI (((Hr2.out.set 0 rfl 2 (.int .i64 pg.token)).set 0 rfl 6 (.bool pg.more)).set 0 rfl 1 (.int .i64 pg.err));go_wp2_with (with_reducible refine stop_store (ty:=45) ?_);refine unheld ?_;refine gz18 ?_;intro w9 hb9 hk9;have hr9:=Hr5.out.turn 0 rfl hb9 hk9;have Hb9:=hI hb9;have Hr9:=hI hr9;clear hb9 hk9 hr9 hca hfa
 repeat go_step
 refine gz16 ?_;have hD:deltaRs p token most=⟨8,pg.err,pg.token,0,⟨#[]⟩,0,pg.more,pg.items⟩:=by unfold deltaRs;rw [Hpg.out]
 rw [hD];exact ⟨B,cq,rfl,wk_close (M:=N) Hl.out (by omega) Hr9.out⟩
end
section
open Go.RowKit
def Co.work (x:Co) (id:Int) (q:Rq):Rs×Co :=
 match x.at id with
 | none=>(rsErr q.kind 4,x)
 | some p =>
  if p.alive=false then (rsErr q.kind 4,x)
  else if q.kind=3 then (dropRs x,dropCo x id p)
  else if q.kind=4 then (wrRs 4 x p [⟨false,q.uid,q.card,q.cond⟩] true,wrCo x id p [⟨false,q.uid,q.card,q.cond⟩] true)
  else if q.kind=5 then (wrRs 5 x p [⟨true,q.uid,⟨#[]⟩,q.cond⟩] false,wrCo x id p [⟨true,q.uid,⟨#[]⟩,q.cond⟩] true)
  else if q.kind=7 then (wrRs 7 x p q.ops false,wrCo x id p q.ops false)
  else if q.kind=6 then (getRs p q.uid,x)
  else if q.kind=8 then (deltaRs p q.token q.most,x)
  else if q.kind=9 then (waitRs p q.token,x)
  else (rsErr q.kind 10,x)
theorem co_work (w:World) (F:Nat→Prop) (N g:Nat) (a:CA) (x:Co) (id:Int) (q:Rq) (A:Option Addr) (m cp:Nat) (OC:Ch) (hl:a.ps.length=x.pls.length) (h:Star w F [starC (coL N g a x x.pls.length),OC]) (hok:x.Ok) (hN:N≤80000) (hcard:q.card.size≤1000000) (hm:m≤1000) (hmc:m≤cp) (hcards:∀ o∈q.ops,o.card.size≤1000000) (hut:∀ p∈x.pls,∀ y∈p.col.log,y.uid.size≤1000000) (hmo:q.most≤9223372036854775807) (hOC:∀ w G,OC.p w G→Sl w G 5 A m (q.ops.flatMap OpR.cells)) :
  Calls Tryz.prog 14 #[pV g,.int .i64 id,.agg (q.cells A m cp)] w (WkP N g OC w F q (x.work id q).1 (x.work id q).2):=by
 unfold Co.work;cases hx:x.at id with
 | none=>exact co_work_none w F N g a x id q A m cp OC hl h hx
 | some p =>
  simp only
  by_cases hp:p.alive=false
  ·rw [if_pos hp];exact co_work_dead w F N g a x id p q A m cp OC hl h hx hp
  ·rw [if_neg hp]
   have hp:p.alive=true:=by simpa using hp
   by_cases h3:q.kind=3
   ·rw [if_pos h3];exact co_work_drop w F N g a x id p q A m cp OC hl h hx hp hok hN h3
   ·rw [if_neg h3]
    by_cases h4:q.kind=4
    ·rw [if_pos h4];exact co_work_put w F N g a x id p q A m cp OC hl h hx hp hok hN hcard h4
    ·rw [if_neg h4]
     by_cases h5:q.kind=5
     ·rw [if_pos h5];exact co_work_del w F N g a x id p q A m cp OC hl h hx hp hok hN h5
     ·rw [if_neg h5]
      by_cases h7:q.kind=7
      ·rw [if_pos h7];exact co_work_batch w F N g a x id p q A m cp OC hl h hx hp hok hN hm hmc hcards h7 hOC
      ·rw [if_neg h7]
       by_cases h6:q.kind=6
       ·rw [if_pos h6];exact co_work_get w F N g a x id p q A m cp OC hl h hx hp h6
       ·rw [if_neg h6]
        by_cases h8:q.kind=8
        ·rw [if_pos h8];exact co_work_delta w F N g a x id p q A m cp OC hl h hx hp hok (hut p (Co.at_mem hx)) hmo h8
        ·rw [if_neg h8]
         by_cases h9:q.kind=9
         ·rw [if_pos h9];exact co_work_wait w F N g a x id p q A m cp OC hl h hx hp h9
         ·rw [if_neg h9]
          exact co_work_other w F N g a x id p q A m cp OC hl h hx hp (by simpa using h3) (by simpa using h4) (by simpa using h5) (by simpa using h6) (by simpa using h7) (by simpa using h8) (by simpa using h9)
theorem wrCo_okK {x:Co} {k:Nat} (h:x.OkK k) {id:Int} {p:Pl} (hp:p∈x.pls) (ops:List OpR) (now:Bool) (ho:∀ o∈ops,o.card.size≤1000000):(wrCo x id p ops now).OkK k:=by
 unfold wrCo
 split
 ·rename_i he
  exact h.write hp ops now ho (wrErr_max he)
 ·exact h
theorem Co.OkK.work {x:Co} {k:Nat} (h:x.OkK k) (id:Int) (q:Rq) (hc:q.card.size≤1000000) (hcs:∀ o∈q.ops,o.card.size≤1000000):(x.work id q).2.OkK k:=by
 unfold Co.work;cases hx:x.at id with
 | none=>exact h
 | some p =>
  have hm:=Co.at_mem hx;simp only
  split
  ·exact h
  ·split
   ·unfold dropCo
    split
    ·exact h
    ·rename_i hct;exact h.drop hm hct
   ·split
    ·exact wrCo_okK h hm _ _ (fun o ho=>by rw [List.mem_singleton.1 ho];exact hc)
    ·split
     ·exact wrCo_okK h hm _ _ (fun o ho=>by rw [List.mem_singleton.1 ho];exact Nat.zero_le _)
     ·split
      ·exact wrCo_okK h hm _ _ hcs
      ·split
       ·exact h
       ·split
        ·exact h
        ·split <;> exact h
end
section
open Go.RowKit Go.PlainAid
theorem nat_at (x:Co) (k:Nat):x.at (k:Int)=x.pls[k]?:=by unfold Co.at;rw [if_pos (by omega)];rfl
theorem at_nat {x:Co} {id:Int} {p:Pl} (h:x.at id=some p):∃ k:Nat,id=k∧x.pls[k]? = some p:=by
 unfold Co.at at h
 split at h
 ·rename_i h0
  obtain ⟨k,rfl⟩:=Int.eq_ofNat_of_zero_le h0;exact ⟨k,rfl,h⟩
 ·cases h
theorem at_neg (x:Co) {id:Int} (h:id<0):x.at id=none:=by unfold Co.at;rw [if_neg (by omega)]
theorem noslash {s:ByteArray} (h:nameB s=true):∀ b∈kb s,b≠47:=by
 unfold nameB at h;have h:=of_decide_eq_true h;intro b hb e;obtain ⟨k,hk,hkb⟩:=List.getElem_of_mem hb;have hks:k<s.size:=by simpa [kb] using hk
 have h1:=h.2.2.2.2.2 k hks;have h2:bt s k=47:=by
  unfold bt;rw [dif_pos hks];have:s[k]'hks=b:=by rw [←hkb];simp [kb];rfl
  rw [this,e];rfl
 rw [h2] at h1
 revert h1
 decide
theorem cut_eq:∀ (a c:List UInt8) {b d:List UInt8},(∀ x∈a,x≠47)→(∀ x∈c,x≠47)→a++47::b=c++47::d→a=c∧b=d
 | [],[],_,_,_,_,h=>by simpa using h
 | [],y::c,_,_,_,h2,h=>by
  simp only [List.nil_append,List.cons_append,List.cons.injEq] at h;exact absurd h.1.symm (h2 y List.mem_cons_self)
 | x::a,[],_,_,h1,_,h=>by
  simp only [List.nil_append,List.cons_append,List.cons.injEq] at h;exact absurd h.1 (h1 x List.mem_cons_self)
 | x::a,y::c,b,d,h1,h2,h=>by
  simp only [List.cons_append,List.cons.injEq] at h;obtain ⟨e,h⟩:=h;have:=cut_eq a c (fun x hx=>h1 x (List.mem_cons_of_mem _ hx)) (fun x hx=>h2 x (List.mem_cons_of_mem _ hx)) h;exact ⟨by rw [e,this.1],this.2⟩
theorem key_data {a b:ByteArray} (ha:nameB a=true) (hb:nameB b=true):kb (keyB a b)=kb a++47::kb b:=by
 unfold keyB;rw [ha,hb];simp [kb]
theorem keys_same {a b c d:ByteArray} (ha:nameB a=true) (hb:nameB b=true) (hc:nameB c=true) (hd:nameB d=true) (h:keyB a b=keyB c d):a=c∧b=d:=by
 have h1:=congrArg kb h;rw [key_data ha hb,key_data hc hd] at h1;have h2:=cut_eq _ _ (noslash ha) (noslash hc) h1;exact ⟨kb_inj.1 h2.1,kb_inj.1 h2.2⟩
structure Co.Iv (x:Co):Prop where
 ri:Rises x.es
 ix:∀ e∈x.es,∃ p,x.at e.2=some p∧p.alive=true∧keyB p.tenant p.name=e.1
 al:∀ (i:Nat) (p:Pl),x.pls[i]? = some p→p.alive=true→valAt x.es (kb (keyB p.tenant p.name))=some (i:Int)
 nm:∀ p∈x.pls,nameB p.tenant=true∧nameB p.name=true
 ut:∀ p∈x.pls,∀ y∈p.col.log,y.uid.size≤1000000
theorem Co.Iv.new (c:Cf):(Co.new c).Iv:=⟨List.Pairwise.nil,(fun e h=>by cases h),(fun i p h=>by simp [Co.new] at h),(fun p h=>by cases h),(fun p h=>by cases h)⟩
section
variable {x:Co} {k:Nat} {p q:Pl} {t n:ByteArray}
theorem Co.Iv.find_nat (h:x.Iv) (ht:nameB t=true) (hn:nameB n=true) (h0:¬x.find t n = -1):∃ (k:Nat) (p:Pl),x.find t n=k∧x.pls[k]? = some p∧p.alive=true∧p.tenant=t∧p.name=n:=by
 unfold Co.find at h0 ⊢;rw [ht,hn] at h0 ⊢;simp only [Bool.and_self,if_true] at h0 ⊢;unfold fdE at h0 ⊢;cases hv:valAt x.es (kb (keyB t n)) with
 | none=>rw [hv] at h0;exact absurd rfl h0
 | some v =>
  obtain ⟨p,h1,h2,h3⟩:=h.ix _ ((val_iff h.ri (keyB t n) v).1 hv);obtain ⟨k,hk,hp⟩:=at_nat h1;have hm:=h.nm p (List.mem_of_getElem? hp);obtain ⟨e1,e2⟩:=keys_same hm.1 hm.2 ht hn h3;exact ⟨k,p,hk,hp,h2,e1,e2⟩
theorem Co.find_bad (h:¬(nameB t=true∧nameB n=true)):x.find t n = -1:=by
 unfold Co.find;rw [if_neg (by simpa using h)]
theorem Co.Iv.set (h:x.Iv) (hp:x.pls[k]? = some p) (ht:q.tenant=p.tenant) (hn:q.name=p.name) (ha:q.alive=p.alive) (hu:∀ y∈q.col.log,y.uid.size≤1000000):({ x with pls:=x.pls.set k q }:Co).Iv:=by
 have hk:=(List.getElem?_eq_some_iff.1 hp).1;have hget:∀ (j:Nat) (r:Pl),(x.pls.set k q)[j]? = some r→∃ r':Pl,x.pls[j]? = some r'∧r.tenant=r'.tenant∧r.name=r'.name∧r.alive=r'.alive:=fun j r hr=>by
  rw [List.getElem?_set] at hr
  split at hr
  ·rename_i e
   subst e
   first|rw [if_pos hk] at hr|skip
   injection hr with hr
   subst hr;exact ⟨p,hp,ht,hn,ha⟩
  ·exact ⟨r,hr,rfl,rfl,rfl⟩
 refine ⟨h.ri,fun e he=>?_,fun i r hr hra=>?_,fun r hr=>?_,fun r hr=>?_⟩
 ·obtain ⟨r,h1,h2,h3⟩:=h.ix e he
  obtain ⟨j,hj,hr⟩:=at_nat h1;rw [hj];show ∃ p,Co.at _ (j:Int)=some p∧_;rw [nat_at];show ∃ p,(x.pls.set k q)[j]? = some p∧_;rw [List.getElem?_set]
  by_cases hkj:k=j
  ·subst hkj
   rw [if_pos rfl,if_pos hk];rw [hp] at hr;injection hr with hr;subst hr;exact ⟨q,rfl,by rw [ha];exact h2,by rw [ht,hn];exact h3⟩
  ·rw [if_neg hkj]
   exact ⟨r,hr,h2,h3⟩
 ·obtain ⟨r',h1,h2,h3,h4⟩:=hget i r hr
  rw [h2,h3];exact h.al i r' h1 (by rw [←h4];exact hra)
 ·rcases List.mem_or_eq_of_mem_set hr with hr|rfl
  ·exact h.nm r hr
  ·rw [ht,hn];exact h.nm p (List.mem_of_getElem? hp)
 ·rcases List.mem_or_eq_of_mem_set hr with hr|rfl
  ·exact h.ut r hr
  ·exact hu
theorem Co.Iv.beside (h:x.Iv) {y:Co} (h1:y.pls=x.pls) (h2:y.es=x.es):y.Iv:=by
 have hat:∀ id,y.at id=x.at id:=fun id=>by unfold Co.at;rw [h1]
 exact ⟨h2 ▸ h.ri,fun e he=>by rw [hat];exact h.ix e (h2 ▸ he),fun i p hp ha=>by rw [h2];exact h.al i p (h1 ▸ hp) ha,fun p hp=>h.nm p (h1 ▸ hp),fun p hp=>h.ut p (h1 ▸ hp)⟩
theorem mayNew_zero (h:x.mayNew t n=0):nameB t=true∧nameB n=true∧fdE x.es (keyB t n)<0∧(x.bg t).cols<x.cf.quota.cols∧x.counter≠maxTok:=by
 unfold Co.mayNew at h
 split at h
 ·cases h
 ·rename_i h1
  split at h
  ·cases h
  ·split at h
   ·cases h
   ·split at h
    ·cases h
    ·have h1:(nameB t&&nameB n)=true:=Decidable.not_not.1 h1
     rw [Bool.and_eq_true] at h1;exact ⟨h1.1,h1.2,by omega,by omega,by assumption⟩
theorem fd_none {es:Es} {key:ByteArray} (hp:∀ e∈es,0≤e.2) (hr:Rises es) (h:fdE es key<0):valAt es (kb key)=none:=by
 unfold fdE at h;cases hv:valAt es (kb key) with
 | none=>rfl
 | some v =>
  rw [hv] at h;have:=hp _ ((val_iff hr key v).1 hv);simp only [fdV] at h;simp only at this;omega
theorem Co.Iv.pos (h:x.Iv):∀ e∈x.es,0≤e.2:=fun e he=>by
 obtain ⟨p,h1,_⟩:=h.ix e he;obtain ⟨k,hk,_⟩:=at_nat h1;omega
theorem Co.Iv.create (h:x.Iv) (t n:ByteArray):(x.create t n).2.2.Iv:=by
 unfold Co.create
 split
 ·exact h
 ·rename_i hm
  have hm:x.mayNew t n=0:=Decidable.not_not.1 hm;obtain ⟨ht,hn,hf,_,_⟩:=mayNew_zero hm;have hv:=fd_none h.pos h.ri hf;have hhas:has x.es (kb (keyB t n))=false:=by rw [has_val,hv];rfl
  have he:(addE x.es (keyB t n) x.pls.length).2=putE x.es (keyB t n) (x.pls.length:Int):=by
   unfold addE;rw [if_neg (by omega)]
  have hpp:=put_perm (es:=x.es) (k:=keyB t n) ((x.pls.length:Int)) hhas;have hri:=rises_put h.ri (keyB t n) ((x.pls.length:Int));rw [he];refine ⟨hri,fun e hm=>?_,fun i r hr ha=>?_,fun r hr=>?_,fun r hr=>?_⟩
  ·rcases List.mem_cons.1 (hpp.mem_iff.1 hm) with rfl|hm
   ·show ∃ p,Co.at _ ((x.pls.length:Nat):Int)=some p∧_
    rw [nat_at];exact ⟨⟨t,n,Cl.new (x.counter+1) x.cf.quota.cards x.cf.quota.log,Lk.none,true,x.counter+1⟩,by simp,rfl,rfl⟩
   ·obtain ⟨p,h1,h2,h3⟩:=h.ix e hm
    obtain ⟨j,hj,hp⟩:=at_nat h1;refine ⟨p,?_,h2,h3⟩;rw [hj,nat_at];show (x.pls++_)[j]? = some p;rw [List.getElem?_append_left (List.getElem?_eq_some_iff.1 hp).1];exact hp
  ·show valAt (putE x.es (keyB t n) (x.pls.length:Int)) _=_
   rw [val_iff hri];have hr:(x.pls++[_])[i]? = some r:=hr;rw [hpp.mem_iff]
   by_cases hi:i<x.pls.length
   ·rw [List.getElem?_append_left hi] at hr
    exact List.mem_cons_of_mem _ ((val_iff h.ri _ _).1 (h.al i r hr ha))
   ·have hl:=(List.getElem?_eq_some_iff.1 hr).1
    simp only [List.length_append,List.length_singleton] at hl;obtain rfl:i=x.pls.length:=by omega
    rw [List.getElem?_append_right (Nat.le_refl _),Nat.sub_self] at hr;simp only [List.getElem?_cons_zero,Option.some.injEq] at hr;subst hr;exact List.mem_cons_self
  ·rcases List.mem_append.1 hr with hr|hr
   ·exact h.nm r hr
   ·rw [List.mem_singleton.1 hr];exact ⟨ht,hn⟩
  ·rcases List.mem_append.1 hr with hr|hr
   ·exact h.ut r hr
   ·rw [List.mem_singleton.1 hr];intro y hy;cases hy
theorem remE_hit {es:Es} {key:ByteArray} {id:Int} (h0:0≤id) (h:fdE es key=id):(remE es key id).2=delE es (kb key):=by
 unfold remE;rw [if_neg (by omega)]
theorem Co.Iv.drop (h:x.Iv) (hp:x.pls[k]? = some p) (ha:p.alive=true):(x.drop (k:Int) p).Iv:=by
 have hk:=(List.getElem?_eq_some_iff.1 hp).1;have hm:=h.nm p (List.mem_of_getElem? hp);have hv:=h.al k p hp ha;have hfd:fdE x.es (keyB p.tenant p.name)=(k:Int):=by unfold fdE;rw [hv];rfl
 have he:=remE_hit (es:=x.es) (key:=keyB p.tenant p.name) (id:=(k:Int)) (by omega) hfd
 have hdp:=del_perm hv;have hri:=rises_del h.ri (kb (keyB p.tenant p.name));have hes:(x.drop (k:Int) p).es=delE x.es (kb (keyB p.tenant p.name)):=he;have hpl:(x.drop (k:Int) p).pls=x.pls.set k { p with alive:=false }:=rfl;have hat:∀ j:Nat,(x.drop (k:Int) p).at (j:Int)=(x.pls.set k { p with alive:=false })[j]?:=fun j=>by rw [nat_at,hpl]
 refine ⟨hes ▸ hri,fun e hm2=>?_,fun i r hr hra=>?_,fun r hr=>?_,fun r hr=>?_⟩
 ·rw [hes] at hm2
  have hin:e∈x.es:=hdp.mem_iff.2 (List.mem_cons_of_mem _ hm2);obtain ⟨q,h1,h2,h3⟩:=h.ix e hin;obtain ⟨j,hj,hq⟩:=at_nat h1;refine ⟨q,?_,h2,h3⟩;rw [hj,hat,List.getElem?_set]
  by_cases hkj:k=j
  ·exfalso
   subst hkj;rw [hp] at hq;injection hq with hq;subst hq;have hnd:x.es.Nodup:=h.ri.imp (fun {a b} hab e=>by subst e;exact lt_irr _ hab)
   have h5:=hdp.nodup_iff.1 hnd;have h6:e=(keyB p.tenant p.name,(k:Int)):=Prod.ext h3.symm hj;rw [h6] at hm2;exact (List.nodup_cons.1 h5).1 hm2
  ·rw [if_neg hkj];exact hq
 ·rw [hpl,List.getElem?_set] at hr
  by_cases hki:k=i
  ·subst hki
   rw [if_pos rfl,if_pos hk] at hr;injection hr with hr;subst hr;cases hra
  ·rw [if_neg hki] at hr
   rw [hes,val_iff hri];have h1:=(val_iff h.ri _ _).1 (h.al i r hr hra);rcases List.mem_cons.1 (hdp.mem_iff.1 h1) with h2|h2
   ·injection h2 with _ h2
    omega
   ·exact h2
 ·rw [hpl] at hr
  rcases List.mem_or_eq_of_mem_set hr with hr|rfl
  ·exact h.nm r hr
  ·exact hm
 ·rw [hpl] at hr
  rcases List.mem_or_eq_of_mem_set hr with hr|rfl
  ·exact h.ut r hr
  ·exact h.ut p (List.mem_of_getElem? hp)
theorem apply_log {c:Cl} {o:OpR} {tk:Int} (hc:∀ y∈c.log,y.uid.size≤1000000) (ho:o.uid.size≤1000000):∀ y∈(c.apply o tk).2.log,y.uid.size≤1000000:=by
 unfold Cl.apply
 split
 ·exact hc
 ·intro y hy
  have hy:y∈(pushL c.log c.lmost ⟨tk,o.uid⟩).1:=hy;unfold pushL at hy
  split at hy
  ·rcases List.mem_append.1 hy with hy|hy
   ·exact hc y (List.mem_of_mem_drop hy)
   ·rw [List.mem_singleton.1 hy];exact ho
  ·rcases List.mem_append.1 hy with hy|hy
   ·exact hc y hy
   ·rw [List.mem_singleton.1 hy];exact ho
theorem applyL_log:∀ (l:List OpR) {c:Cl} (tk:Int),(∀ y∈c.log,y.uid.size≤1000000)→(∀ o∈l,o.uid.size≤1000000)→∀ y∈(applyL c l tk).log,y.uid.size≤1000000
 | [],c,tk,h,_=>h
 | o::l,c,tk,h,ho=>applyL_log l tk (apply_log h (ho o List.mem_cons_self)) (fun o h=>ho o (List.mem_cons_of_mem _ h))
theorem Co.Iv.write (h:x.Iv) (hp:x.pls[k]? = some p) (ops:List OpR) (now:Bool) (ho:∀ o∈ops,o.uid.size≤1000000):(wrCo x (k:Int) p ops now).Iv:=by
 unfold wrCo
 split
 ·have hu:=h.ut p (List.mem_of_getElem? hp)
  refine Co.Iv.beside (x:={ x with pls:=x.pls.set k { p with drawn:=x.counter+1,col:=if now then applyL p.col ops (x.counter+1) else p.col } }) (h.set hp rfl rfl rfl ?_) rfl rfl;simp only
  split
  ·exact applyL_log ops _ hu ho
  ·exact hu
 ·exact h
theorem Co.Iv.work (h:x.Iv) (id:Int) (q:Rq) (hu:q.uid.size≤1000000) (ho:∀ o∈q.ops,o.uid.size≤1000000):(x.work id q).2.Iv:=by
 unfold Co.work;cases hx:x.at id with
 | none=>exact h
 | some p =>
  obtain ⟨k,rfl,hp⟩:=at_nat hx;simp only
  split
  ·exact h
  ·rename_i ha
   have ha:p.alive=true:=by simpa using ha
   split
   ·unfold dropCo
    split
    ·exact h
    ·exact h.drop hp ha
   ·split
    ·exact h.write hp _ _ (fun o ho=>by rw [List.mem_singleton.1 ho];exact hu)
    ·split
     ·exact h.write hp _ _ (fun o ho=>by rw [List.mem_singleton.1 ho];exact hu)
     ·split
      ·exact h.write hp _ _ ho
      ·split
       ·exact h
       ·split
        ·exact h
        ·split <;> exact h
theorem Co.Iv.apply (h:x.Iv) (id:Int) (o:OpR) (tk:Int) (ho:o.uid.size≤1000000):(x.apply id o tk).2.Iv:=by
 unfold Co.apply;cases hx:x.at id with
 | none=>exact h
 | some p =>
  obtain ⟨k,rfl,hp⟩:=at_nat hx;exact h.set hp rfl rfl rfl (apply_log (h.ut p (List.mem_of_getElem? hp)) ho)
theorem Co.Iv.lock (h:x.Iv) (id who:Int) (b:Bool):(x.lock id who b).2.Iv:=by
 unfold Co.lock;cases hx:x.at id with
 | none=>exact h
 | some p =>
  obtain ⟨k,rfl,hp⟩:=at_nat hx;exact h.set hp rfl rfl rfl (h.ut p (List.mem_of_getElem? hp))
theorem Co.Iv.leave (h:x.Iv) (id who:Int):(x.leave id who).Iv:=by
 unfold Co.leave;cases hx:x.at id with
 | none=>exact h
 | some p =>
  obtain ⟨k,rfl,hp⟩:=at_nat hx;exact h.set hp rfl rfl rfl (h.ut p (List.mem_of_getElem? hp))
theorem Co.Iv.unlock (h:x.Iv) (id who:Int) (wk:Bool):(x.unlock id who wk).Iv:=by
 unfold Co.unlock
 split
 ·exact (h.leave id who).beside rfl rfl
 ·exact h.leave id who
theorem key_size {t n:ByteArray} (ht:nameB t=true) (hn:nameB n=true):(keyB t n).size≤1000:=by
 have h1:=nameB_size ht;have h2:=nameB_size hn;unfold keyB;rw [ht,hn];simp only [Bool.and_self,if_true,ByteArray.size_append];have:(⟨#[47]⟩:ByteArray).size=1:=rfl;omega
theorem Co.Iv.key (h:x.Iv):∀ e∈x.es,e.1.size≤1000:=fun e he=>by
 obtain ⟨p,h1,_,h3⟩:=h.ix e he;have hm:=h.nm p (Co.at_mem h1);rw [←h3];exact key_size hm.1 hm.2
theorem Co.Iv.co_ix (h:x.Iv):x.Ix:=fun e he=>by
 obtain ⟨p,h1,_⟩:=h.ix e he;exact ⟨p,h1⟩
end
end
section
open Go.RowKit Go.PlainAid
section
variable {α:Type} {es:List (En α)} {k u:ByteArray} {v:α}
theorem mem_one (hr:Rises es) {a b:α} (h1:(k,a)∈es) (h2:(k,b)∈es):a=b:=by
 have e1:=(val_iff hr k a).2 h1;have e2:=(val_iff hr k b).2 h2;rw [e1] at e2;injection e2
theorem rises_nodup (hr:Rises es):es.Nodup:=hr.imp (fun {a b} hab e=>by subst e;exact lt_irr _ hab)
theorem mem_del (hr:Rises es):(u,v)∈delE es (kb k)↔(u,v)∈es∧u≠k:=by
 cases hv:valAt es (kb k) with
 | none =>
  have hh:has es (kb k)=false:=by rw [has_val,hv];rfl
  have e:delE es (kb k)=es:=by unfold delE;rw [if_neg (by rw [hh];simp)]
  rw [e];refine ⟨fun h=>⟨h,fun e=>?_⟩,fun h=>h.1⟩;subst e;have:=(val_iff hr u v).2 h;rw [hv] at this;cases this
 | some y =>
  have hp:=del_perm hv;have hn:=hp.nodup_iff.1 (rises_nodup hr);constructor
  ·intro h
   have hin:=hp.mem_iff.2 (List.mem_cons_of_mem _ h);refine ⟨hin,fun e=>?_⟩;subst e;have h2:(u,y)∈es:=hp.mem_iff.2 List.mem_cons_self;have h3:=mem_one hr hin h2;subst h3;exact (List.nodup_cons.1 hn).1 h
  ·rintro ⟨h,hne⟩
   rcases List.mem_cons.1 (hp.mem_iff.1 h) with e|e
   ·injection e with e _
    exact absurd e hne
   ·exact e
theorem mem_put (hr:Rises es) {y:α}:(u,y)∈putE es k v↔(u=k∧y=v)∨((u,y)∈es∧u≠k):=by
 rw [(put_perm2 v hr).mem_iff,List.mem_cons,mem_del hr,Prod.mk.injEq]
theorem val_ext {fs:List (En α)} (hr:Rises es) (hf:Rises fs) (h:∀ y,(u,y)∈es↔(u,y)∈fs):valAt es (kb u)=valAt fs (kb u):=by
 cases h1:valAt es (kb u) with
 | none =>
  cases h2:valAt fs (kb u) with
  | none=>rfl
  | some y =>
   have:=(val_iff hr u y).2 ((h y).2 ((val_iff hf u y).1 h2));rw [h1] at this;cases this
 | some y=>exact ((val_iff hf u y).2 ((h y).1 ((val_iff hr u y).1 h1))).symm
theorem val_none (hr:Rises es) (h:∀ y,(u,y)∉es):valAt es (kb u)=none:=by
 cases h1:valAt es (kb u) with
 | none=>rfl
 | some y=>exact absurd ((val_iff hr u y).1 h1) (h y)
end
theorem apply_ok {c:Cl} {o:OpR} {tk:Int} (h:c.no o tk=false):c.apply o tk=(true,c.done o tk):=by unfold Cl.apply;rw [if_neg (by rw [h];simp)]
theorem done_get {c:Cl} (hr:Rises c.cards) (o:OpR) (tk:Int) (u:ByteArray):(c.done o tk).get u=if u=o.uid then (if o.del=true then none else some ⟨tk,o.card⟩) else c.get u:=by
 unfold Cl.get Cl.done;simp only;cases hd:o.del with
 | true =>
  simp only [if_true];have hr2:=rises_del hr (kb o.uid)
  by_cases hu:u=o.uid
  ·rw [if_pos hu]
   exact val_none hr2 (fun y h=>((mem_del hr).1 h).2 hu)
  ·rw [if_neg hu]
   exact val_ext hr2 hr (fun y=>⟨fun h=>((mem_del hr).1 h).1,fun h=>(mem_del hr).2 ⟨h,hu⟩⟩)
 | false =>
  simp only [Bool.false_eq_true,if_false];have hr2:=rises_put hr o.uid (⟨tk,o.card⟩:Crd)
  by_cases hu:u=o.uid
  ·rw [if_pos hu]
   subst hu;exact (val_iff hr2 _ _).2 ((mem_put hr).2 (.inl ⟨rfl,rfl⟩))
  ·rw [if_neg hu]
   exact val_ext hr2 hr (fun y=>⟨fun h=>((mem_put hr).1 h).elim (fun h=>absurd h.1 hu) (fun h=>h.1),fun h=>(mem_put hr).2 (.inr ⟨h,hu⟩)⟩)
theorem done_len {c:Cl} (hr:Rises c.cards) (o:OpR) (tk:Int):((c.done o tk).cards.length:Int)=stepMany c o c.cards.length:=by
 unfold Cl.done stepMany Cl.get;simp only;have h1:=delE_len (es:=c.cards) (k:=o.uid);have h2:=putE_len (es:=c.cards) (k:=o.uid) (⟨tk,o.card⟩:Crd) hr;cases hd:o.del with
 | true =>
  simp only [if_true]
  split at h1 <;> rename_i h3 <;> simp only [h3,if_true,if_false,Bool.false_eq_true] <;> omega
 | false =>
  simp only [Bool.false_eq_true,if_false]
  split at h2 <;> rename_i h3 <;> simp only [h3,if_true,if_false,Bool.false_eq_true] <;> omega
theorem chk_head {c:Cl} {room:Int} {seen:List OpR} {many grow:Int} {o:OpR} {l:List OpR} (h:(chkL c room seen many grow (o::l)).2.2=0) :
  chk1 c room seen many grow o=0∧(chkL c room (seen++[o]) (stepMany c o many) (stepGrow c o grow) l).2.2=0:=by
 unfold chkL at h
 split at h
 ·rename_i hc;exact absurd h hc
 ·rename_i hc;exact ⟨Decidable.not_not.1 hc,h⟩
theorem chk1_zero {c:Cl} {room:Int} {seen:List OpR} {many grow:Int} {o:OpR} (h:chk1 c room seen many grow o=0) :
  (∀ p∈seen,p.uid≠o.uid)∧(o.del=true→(c.get o.uid).isSome=true)∧stepMany c o many≤c.most:=by
 unfold chk1 at h
 split at h
 ·cases h
 ·rename_i h1
  split at h
  ·cases h
  ·split at h
   ·cases h
   ·rename_i h3
    split at h
    ·cases h
    ·rename_i h4
     refine ⟨fun p hp e=>h1 ?_,fun hd=>?_,by omega⟩
     ·rw [List.any_eq_true]
      exact ⟨p,hp,by simpa using e⟩
     ·cases hs:(c.get o.uid).isSome with
      | true=>rfl
      | false=>exact absurd ⟨hd,hs⟩ h3
structure Behind (c0 c:Cl) (seen:List OpR) (many tk:Int):Prop where
 ri:Rises c.cards
 ln:(c.cards.length:Int)=many
 mo:c.most=c0.most
 la:c.latest≤tk
 ge:∀ u,(∀ p∈seen,p.uid≠u)→c.get u=c0.get u
theorem Behind.step {c0 c:Cl} {seen:List OpR} {many tk room grow:Int} {o:OpR} (h:Behind c0 c seen many tk) (hc:chk1 c0 room seen many grow o=0) :
  c.apply o tk=(true,c.done o tk)∧Behind c0 (c.done o tk) (seen++[o]) (stepMany c0 o many) tk:=by
 obtain ⟨h1,h2,h3⟩:=chk1_zero hc;have hg:=h.ge o.uid h1;have hst:stepMany c o c.cards.length=stepMany c0 o many:=by unfold stepMany;rw [hg,h.ln]
 refine ⟨apply_ok ?_,⟨?_,by rw [done_len h.ri,hst],h.mo,Int.le_refl _,fun u hu=>?_⟩⟩
 ·unfold Cl.no
  rw [decide_eq_false (by have:=h.la;omega),hg,h.mo]
  cases hd:o.del with
  | true=>rw [h2 hd];rfl
  | false =>
   cases hs:(c0.get o.uid).isSome with
   | true=>rfl
   | false =>
    have e:stepMany c0 o many=many+1:=by unfold stepMany;rw [hs,hd];rfl
    rw [e] at h3;have hln:=h.ln;simp;omega
 ·unfold Cl.done
  simp only
  split
  ·exact rises_del h.ri _
  ·exact rises_put h.ri _ _
 ·rw [done_get h.ri,if_neg (fun e=>hu o (by simp) e.symm)]
  exact h.ge u (fun p hp=>hu p (by simp [hp]))
theorem Behind.all {c0:Cl} {room tk:Int}:∀ (l:List OpR) {c:Cl} {seen:List OpR} {many grow:Int},Behind c0 c seen many tk→(chkL c0 room seen many grow l).2.2=0 →
  ∀ (i:Nat) (o:OpR),l[i]? = some o→(applyL c (l.take i) tk).apply o tk=(true,(applyL c (l.take i) tk).done o tk)∧Rises (applyL c (l.take i) tk).cards
 | [],_,_,_,_,_,_,i,o,ho=>by simp at ho
 | p::l,c,seen,many,grow,hb,hc,i,o,ho=>by
  obtain ⟨h1,h2⟩:=chk_head hc;obtain ⟨s1,s2⟩:=hb.step h1;cases i with
  | zero =>
   simp only [List.getElem?_cons_zero,Option.some.injEq] at ho;subst ho;exact ⟨s1,hb.ri⟩
  | succ i =>
   simp only [List.getElem?_cons_succ] at ho;have e:applyL c ((p::l).take (i+1)) tk=applyL (c.done p tk) (l.take i) tk:=by
    show applyL ((c.apply p tk).2) (l.take i) tk=_
    rw [s1]
   rw [e];exact Behind.all l s2 h2 i o ho
theorem check_all {c:Cl} (hok:c.Ok) {ops:List OpR} {room tk:Int} (hl:c.latest≤tk) (h:(c.check ops room).2.2=0) (i:Nat) (o:OpR) (ho:ops[i]? = some o) :
  (applyL c (ops.take i) tk).apply o tk=(true,(applyL c (ops.take i) tk).done o tk)∧Rises (applyL c (ops.take i) tk).cards :=
 Behind.all ops (c:=c) (seen:=[]) (many:=c.cards.length) (grow:=0) ⟨hok.ri,rfl,rfl,hl,fun _ _=>rfl⟩ h i o ho
def Lk.Free (l:Lk):Prop:=l.rd=[]∧l.ws=false∧l.qu=[]
theorem free_none:Lk.none.Free:=⟨rfl,rfl,rfl⟩
theorem free_st {l:Lk} (h:l.Free) (who:Int):l.st who=0:=by
 obtain ⟨h1,h2,h3⟩:=h;unfold Lk.st hasI hasQ;rw [h1,h2,h3];simp
theorem free_ask {l:Lk} (h:l.Free) (who:Int) (b:Bool):(l.ask who b).1=true∧((l.ask who b).2.leave who).2.Free∧(l.ask who b).2.st who=(if b=true then 3 else 2):=by
 have hs:=free_st h who;obtain ⟨h1,h2,h3⟩:=h;obtain ⟨rd,wr,ws,qu⟩:=l;simp only at h1 h2 h3;subst h1 h2 h3;cases b with
 | true=>simp [Lk.ask,hs,Lk.move,mvq,Lk.st,hasI,Lk.leave,Lk.Free,hasQ]
 | false=>simp [Lk.ask,hs,Lk.move,mvq,Lk.st,hasI,Lk.leave,Lk.Free,hasQ,lessI]
structure As where
 tenant:ByteArray
 q:Rq
def writesB (k:Int):Bool:=decide (k=2∨k=3∨k=4∨k=5∨k=7)
def Co.applyAll (id tk:Int):Co→List OpR→Bool×Co
 | x,[]=>(true,x)
 | x,o::l=>((x.apply id o tk).1&&(Co.applyAll id tk (x.apply id o tk).2 l).1,(Co.applyAll id tk (x.apply id o tk).2 l).2)
def Co.mid (x:Co) (id:Int) (q:Rq):Bool×Co:=if q.kind=7∧(x.work id q).1.err=0 then Co.applyAll id (x.work id q).1.token (x.work id q).2 q.ops else (true,(x.work id q).2)
def Co.doW (x:Co) (id:Int) (q:Rq):Rs×Bool×Co :=
 (((x.lock id 5 (writesB q.kind)).2.work id q).1,((x.lock id 5 (writesB q.kind)).1&&((x.lock id 5 (writesB q.kind)).2.mid id q).1)&&decide ((((x.lock id 5 (writesB q.kind)).2.mid id q).2.unlock id 5 (writesB q.kind)).held id 5=0),((x.lock id 5 (writesB q.kind)).2.mid id q).2.unlock id 5 (writesB q.kind))
def Co.doit (x:Co) (a:As):Rs×Bool×Co :=
 if a.q.kind=2 then (⟨2,(x.create a.tenant a.q.col).1,(x.create a.tenant a.q.col).2.1,0,⟨#[]⟩,0,false,[]⟩,true,(x.create a.tenant a.q.col).2.2)
 else if a.q.kind=10 then (x.list a.tenant,true,x)
 else if x.find a.tenant a.q.col<0 then (rsErr a.q.kind 4,true,x)
 else x.doW (x.find a.tenant a.q.col) a.q
end
section
open Go.RowKit Go.PlainAid
structure Kp (x y:Co):Prop where
 ln:y.pls.length=x.pls.length
 cf:y.cf=x.cf
 at_:∀ (j:Nat) (p:Pl),x.pls[j]? = some p→∃ p',y.pls[j]? = some p'∧p'.lock=p.lock∧p'.tenant=p.tenant∧p'.name=p.name
theorem Kp.refl (x:Co):Kp x x:=⟨rfl,rfl,fun j p h=>⟨p,h,rfl,rfl,rfl⟩⟩
theorem Kp.trans {x y z:Co} (h:Kp x y) (k:Kp y z):Kp x z:=⟨k.ln.trans h.ln,k.cf.trans h.cf,fun j p hp=>by
 obtain ⟨p1,h1,a1,b1,c1⟩:=h.at_ j p hp;obtain ⟨p2,h2,a2,b2,c2⟩:=k.at_ j p1 h1;exact ⟨p2,h2,a2.trans a1,b2.trans b1,c2.trans c1⟩⟩
theorem Kp.set {x y:Co} {k:Nat} {p q:Pl} (hp:x.pls[k]? = some p) (hy:y.pls=x.pls.set k q) (hc:y.cf=x.cf) (h1:q.lock=p.lock) (h2:q.tenant=p.tenant) (h3:q.name=p.name):Kp x y:=by
 have hk:=(List.getElem?_eq_some_iff.1 hp).1;refine ⟨by rw [hy,List.length_set],hc,fun j r hr=>?_⟩
 rw [hy,List.getElem?_set]
 by_cases hkj:k=j
 ·subst hkj
  rw [if_pos rfl,if_pos hk];rw [hp] at hr;injection hr with hr;subst hr;exact ⟨q,rfl,h1,h2,h3⟩
 ·rw [if_neg hkj]
  exact ⟨r,hr,rfl,rfl,rfl⟩
theorem kp_wr (x:Co) {k:Nat} {p:Pl} (hp:x.pls[k]? = some p) (ops:List OpR) (now:Bool):Kp x (wrCo x (k:Int) p ops now):=by
 unfold wrCo
 split
 ·exact Kp.set hp rfl rfl rfl rfl rfl
 ·exact Kp.refl x
theorem kp_work (x:Co) (id:Int) (q:Rq):Kp x (x.work id q).2:=by
 unfold Co.work;cases hx:x.at id with
 | none=>exact Kp.refl x
 | some p =>
  obtain ⟨k,rfl,hp⟩:=at_nat hx;simp only
  split
  ·exact Kp.refl x
  ·split
   ·unfold dropCo
    split
    ·exact Kp.refl x
    ·exact Kp.set (q:={ p with alive:=false }) hp rfl rfl rfl rfl rfl
   ·split
    ·exact kp_wr x hp _ _
    ·split
     ·exact kp_wr x hp _ _
     ·split
      ·exact kp_wr x hp _ _
      ·split
       ·exact Kp.refl x
       ·split
        ·exact Kp.refl x
        ·split <;> exact Kp.refl x
theorem kp_apply (x:Co) (id:Int) (o:OpR) (tk:Int):Kp x (x.apply id o tk).2:=by
 unfold Co.apply;cases hx:x.at id with
 | none=>exact Kp.refl x
 | some p =>
  obtain ⟨k,rfl,hp⟩:=at_nat hx;exact Kp.set (q:={ p with col:=(p.col.apply o tk).2 }) hp rfl rfl rfl rfl rfl
theorem kp_all (id tk:Int):∀ (l:List OpR) (x:Co),Kp x (Co.applyAll id tk x l).2
 | [],x=>Kp.refl x
 | o::l,x=>(kp_apply x id o tk).trans (kp_all id tk l _)
theorem kp_mid (x:Co) (id:Int) (q:Rq):Kp x (x.mid id q).2:=by
 unfold Co.mid
 split
 ·exact (kp_work x id q).trans (kp_all id _ _ _)
 ·exact kp_work x id q
def Co.Lt (x:Co):Prop:=∀ p∈x.pls,p.col.latest≤x.counter
theorem Co.Lt.set {x y:Co} (h:x.Lt) {k:Nat} {q:Pl} (hy:y.pls=x.pls.set k q) (hc:x.counter≤y.counter) (hq:q.col.latest≤y.counter):y.Lt:=fun p hp=>by
 rw [hy] at hp;rcases List.mem_or_eq_of_mem_set hp with hp|rfl
 ·have:=h p hp;omega
 ·exact hq
theorem apply_latest (c:Cl) (o:OpR) (tk:Int):(c.apply o tk).2.latest=c.latest∨(c.apply o tk).2.latest=tk:=by
 unfold Cl.apply
 split
 ·exact .inl rfl
 ·exact .inr rfl
theorem applyL_latest (tk:Int):∀ (l:List OpR) (c:Cl),(applyL c l tk).latest=c.latest∨(applyL c l tk).latest=tk
 | [],c=>.inl rfl
 | o::l,c=>by
  rcases applyL_latest tk l (c.apply o tk).2 with h|h
  ·rcases apply_latest c o tk with h2|h2
   ·exact .inl (h.trans h2)
   ·exact .inr (h.trans h2)
  ·exact .inr h
theorem ct_wr {x:Co} (h:x.Lt) {k:Nat} {p:Pl} (hp:x.pls[k]? = some p) (ops:List OpR) (now:Bool):(wrCo x (k:Int) p ops now).Lt∧x.counter≤(wrCo x (k:Int) p ops now).counter∧(wrCo x (k:Int) p ops now).counter≤x.counter+1:=by
 unfold wrCo
 split
 ·have hl:=h p (List.mem_of_getElem? hp)
  have hc:(x.write (k:Int) p ops now).counter=x.counter+1:=rfl;refine ⟨h.set (y:=x.write (k:Int) p ops now) (k:=k) rfl (by rw [hc];omega) ?_,by rw [hc];omega,by rw [hc];exact Int.le_refl _⟩
  rw [hc];simp only
  split
  ·rcases applyL_latest (x.counter+1) ops p.col with e|e <;> rw [e] <;> omega
  ·omega
 ·exact ⟨h,Int.le_refl _,by omega⟩
theorem ct_work {x:Co} (h:x.Lt) (id:Int) (q:Rq):(x.work id q).2.Lt∧x.counter≤(x.work id q).2.counter∧(x.work id q).2.counter≤x.counter+1:=by
 have h0:x.Lt∧x.counter≤x.counter∧x.counter≤x.counter+1:=⟨h,Int.le_refl _,by omega⟩
 unfold Co.work;cases hx:x.at id with
 | none=>exact h0
 | some p =>
  obtain ⟨k,rfl,hp⟩:=at_nat hx;simp only
  split
  ·exact h0
  ·split
   ·unfold dropCo
    split
    ·exact h0
    ·have hl:=h p (List.mem_of_getElem? hp)
     have hc:(x.drop (k:Int) p).counter=x.counter+1:=rfl;exact ⟨h.set (y:=x.drop (k:Int) p) (k:=k) rfl (by rw [hc];omega) (by rw [hc];simp only;omega),by rw [hc];omega,by rw [hc];exact Int.le_refl _⟩
   ·split
    ·exact ct_wr h hp _ _
    ·split
     ·exact ct_wr h hp _ _
     ·split
      ·exact ct_wr h hp _ _
      ·split
       ·exact h0
       ·split
        ·exact h0
        ·split <;> exact h0
theorem ct_apply {x:Co} (h:x.Lt) (id:Int) (o:OpR) {tk:Int} (ht:tk≤x.counter):(x.apply id o tk).2.Lt∧(x.apply id o tk).2.counter=x.counter:=by
 unfold Co.apply;cases hx:x.at id with
 | none=>exact ⟨h,rfl⟩
 | some p =>
  obtain ⟨k,rfl,hp⟩:=at_nat hx;have hl:=h p (List.mem_of_getElem? hp);refine ⟨h.set (y:=x.setP (k:Int) { p with col:=(p.col.apply o tk).2 }) (k:=k) rfl (Int.le_refl _) ?_,rfl⟩;have hc:(x.setP (k:Int) { p with col:=(p.col.apply o tk).2 }).counter=x.counter:=rfl;rw [hc];rcases apply_latest p.col o tk with e|e <;> simp only <;> rw [e] <;> omega
theorem ct_all (id:Int) {tk:Int}:∀ (l:List OpR) {x:Co},x.Lt→tk≤x.counter→(Co.applyAll id tk x l).2.Lt∧(Co.applyAll id tk x l).2.counter=x.counter
 | [],x,h,_=>⟨h,rfl⟩
 | o::l,x,h,ht=>by
  obtain ⟨h1,h2⟩:=ct_apply h id o ht;obtain ⟨h3,h4⟩:=ct_all id l h1 (by rw [h2];exact ht)
  exact ⟨h3,h4.trans h2⟩
theorem work_tok {x:Co} {id:Int} {q:Rq} (hk:q.kind=7) (he:(x.work id q).1.err=0):(x.work id q).1.token=x.counter+1∧(x.work id q).2.counter=x.counter+1:=by
 unfold Co.work at he ⊢;cases hx:x.at id with
 | none=>rw [hx] at he;cases he
 | some p =>
  rw [hx] at he;simp only at he ⊢
  by_cases ha:p.alive=false
  ·rw [if_pos ha] at he;cases he
  ·rw [if_neg ha] at he ⊢
   rw [if_neg (by omega),if_neg (by omega),if_neg (by omega),if_pos hk] at he ⊢
   have he:(wrErr x p q.ops).1=0:=he;refine ⟨?_,?_⟩
   ·show (if (wrErr x p q.ops).1=0 then x.counter+1 else 0)=_
    rw [if_pos he]
   ·unfold wrCo
    rw [if_pos he];rfl
theorem ct_mid {x:Co} (h:x.Lt) (id:Int) (q:Rq):(x.mid id q).2.Lt∧x.counter≤(x.mid id q).2.counter∧(x.mid id q).2.counter≤x.counter+1:=by
 have h1:=ct_work h id q;unfold Co.mid
 split
 ·rename_i hc
  obtain ⟨t1,t2⟩:=work_tok hc.1 hc.2;obtain ⟨a1,a2⟩:=ct_all id (tk:=(x.work id q).1.token) q.ops h1.1 (by rw [t1,t2];exact Int.le_refl _)
  exact ⟨a1,by rw [a2];exact h1.2.1,by rw [a2];exact h1.2.2⟩
 ·exact h1
structure Co.Hm (x:Co) (c:Cf) (k:Nat) (B:Int):Prop where
 ok:x.OkK k
 iv:x.Iv
 cf:x.cf=c
 ct:x.counter≤B
 fr:∀ p∈x.pls,p.lock.Free
 lt:x.Lt
theorem Co.Hm.new {c:Cf} (h:c.okB=true) (hs:c.start≤maxTok):(Co.new c).Hm c 0 c.start :=
 ⟨Co.OkK.new h hs,Co.Iv.new c,rfl,Int.le_refl _,(fun p h=>by cases h),(fun p h=>by cases h)⟩
structure Rq.Lite (q:Rq):Prop where
 col:q.col.size≤60
 uid:q.uid.size≤60
 card:q.card.size≤2000
 ops:∀ o∈q.ops,o.uid.size≤60∧o.card.size≤2000
theorem okk_all (id tk:Int) {k:Nat}:∀ (l:List OpR) {x:Co},x.OkK k→(∀ o∈l,o.card.size≤1000000)→(Co.applyAll id tk x l).2.OkK k
 | [],x,h,_=>h
 | o::l,x,h,ho=>okk_all id tk l (h.apply id o tk (ho o List.mem_cons_self)) (fun o h=>ho o (List.mem_cons_of_mem _ h))
theorem iv_all (id tk:Int):∀ (l:List OpR) {x:Co},x.Iv→(∀ o∈l,o.uid.size≤1000000)→(Co.applyAll id tk x l).2.Iv
 | [],x,h,_=>h
 | o::l,x,h,ho=>iv_all id tk l (h.apply id o tk (ho o List.mem_cons_self)) (fun o h=>ho o (List.mem_cons_of_mem _ h))
section
variable {x:Co} {c:Cf} {k:Nat} {B:Int} {q:Rq}
theorem okk_work (h:x.OkK k) (hq:q.Lite) (id:Int):(x.work id q).2.OkK k:=h.work id q (by have:=hq.card;omega) (fun o ho=>by have:=(hq.ops o ho).2;omega)
theorem iv_work (h:x.Iv) (hq:q.Lite) (id:Int):(x.work id q).2.Iv:=h.work id q (by have:=hq.uid;omega) (fun o ho=>by have:=(hq.ops o ho).1;omega)
theorem okk_mid (h:x.OkK k) (hq:q.Lite) (id:Int):(x.mid id q).2.OkK k:=by
 unfold Co.mid
 split
 ·exact okk_all id _ _ (okk_work h hq id) (fun o ho=>by have:=(hq.ops o ho).2;omega)
 ·exact okk_work h hq id
theorem iv_mid (h:x.Iv) (hq:q.Lite) (id:Int):(x.mid id q).2.Iv:=by
 unfold Co.mid
 split
 ·exact iv_all id _ _ (iv_work h hq id) (fun o ho=>by have:=(hq.ops o ho).1;omega)
 ·exact iv_work h hq id
theorem mem_at {l:List Pl} {p:Pl} (h:p∈l):∃ j:Nat,l[j]? = some p:=by
 obtain ⟨j,hj,e⟩:=List.getElem_of_mem h;exact ⟨j,by rw [List.getElem?_eq_getElem hj,e]⟩
theorem lock_none {id:Int} (hx:x.at id=none) (who:Int) (b:Bool):x.lock id who b=(false,x):=by unfold Co.lock;rw [hx]
theorem lock_some {id:Int} {p:Pl} (hx:x.at id=some p) (who:Int) (b:Bool):x.lock id who b=((p.lock.ask who b).1,x.setP id { p with lock:=(p.lock.ask who b).2 }):=by unfold Co.lock;rw [hx]
theorem leave_some {id:Int} {p:Pl} (hx:x.at id=some p) (who:Int):x.leave id who=x.setP id { p with lock:=(p.lock.leave who).2 }:=by unfold Co.leave;rw [hx]
theorem leave_none {id:Int} (hx:x.at id=none) (who:Int):x.leave id who=x:=by unfold Co.leave;rw [hx]
theorem unlock_pls (id who:Int) (b:Bool):(x.unlock id who b).pls=(x.leave id who).pls:=by unfold Co.unlock;split <;> rfl
theorem unlock_ct (id who:Int) (b:Bool):(x.unlock id who b).counter=x.counter∧(x.unlock id who b).cf=x.cf:=by
 have h1:(x.leave id who).counter=x.counter∧(x.leave id who).cf=x.cf:=by unfold Co.leave;split <;> exact ⟨rfl,rfl⟩
 unfold Co.unlock
 split <;> exact h1
theorem lock_lt (h:x.Lt) (id who:Int) (b:Bool):(x.lock id who b).2.Lt∧(x.lock id who b).2.counter=x.counter∧(x.lock id who b).2.cf=x.cf:=by
 cases hx:x.at id with
 | none=>rw [lock_none hx];exact ⟨h,rfl,rfl⟩
 | some p =>
  rw [lock_some hx];obtain ⟨k,rfl,hp⟩:=at_nat hx;exact ⟨h.set (y:=x.setP (k:Int) { p with lock:=(p.lock.ask who b).2 }) (k:=k) rfl (Int.le_refl _) (h p (List.mem_of_getElem? hp)),rfl,rfl⟩
theorem unlock_lt (h:x.Lt) (id who:Int) (b:Bool):(x.unlock id who b).Lt:=by
 have h1:(x.leave id who).Lt:=by
  cases hx:x.at id with
  | none=>rw [leave_none hx];exact h
  | some p =>
   rw [leave_some hx];obtain ⟨k,rfl,hp⟩:=at_nat hx;exact h.set (y:=x.setP (k:Int) { p with lock:=(p.lock.leave who).2 }) (k:=k) rfl (Int.le_refl _) (h p (List.mem_of_getElem? hp))
 intro p hp;rw [unlock_pls] at hp;rw [(unlock_ct id who b).1];have h2:(x.leave id who).counter=x.counter:=by unfold Co.leave;split <;> rfl
 have:=h1 p hp;omega
theorem doW_pls (hfr:∀ p∈x.pls,p.lock.Free) (id:Int) (hid:x.at id≠none) :
  (x.lock id 5 (writesB q.kind)).1=true∧((((x.lock id 5 (writesB q.kind)).2.mid id q).2.unlock id 5 (writesB q.kind)).held id 5=0)∧∀ p∈(((x.lock id 5 (writesB q.kind)).2.mid id q).2.unlock id 5 (writesB q.kind)).pls,p.lock.Free:=by
 cases hx:x.at id with
 | none=>exact absurd hx hid
 | some p =>
  obtain ⟨k,rfl,hp⟩:=at_nat hx;have hk:=(List.getElem?_eq_some_iff.1 hp).1;have hf:=hfr p (List.mem_of_getElem? hp);obtain ⟨f1,f2,f3⟩:=free_ask hf 5 (writesB q.kind);rw [lock_some hx];simp only;refine ⟨f1,?_⟩;have hkp:=kp_mid (x.setP (k:Int) { p with lock:=(p.lock.ask 5 (writesB q.kind)).2 }) (k:Int) q;have hset:(x.setP (k:Int) { p with lock:=(p.lock.ask 5 (writesB q.kind)).2 }).pls=x.pls.set k { p with lock:=(p.lock.ask 5 (writesB q.kind)).2 }:=rfl
  generalize ((x.setP (k:Int) { p with lock:=(p.lock.ask 5 (writesB q.kind)).2 }).mid (k:Int) q).2=y at hkp;obtain ⟨p1,hp1,e1,_,_⟩:=hkp.at_ k { p with lock:=(p.lock.ask 5 (writesB q.kind)).2 } (by rw [hset];exact List.getElem?_set_self hk)
  have hy:y.at (k:Int)=some p1:=by rw [nat_at];exact hp1
  have e1:p1.lock=(p.lock.ask 5 (writesB q.kind)).2:=e1;have hpl:(y.unlock (k:Int) 5 (writesB q.kind)).pls=y.pls.set k { p1 with lock:=(p1.lock.leave 5).2 }:=by rw [unlock_pls,leave_some hy];rfl
  have hk1:=(List.getElem?_eq_some_iff.1 hp1).1;refine ⟨?_,fun r hr=>?_⟩
  ·unfold Co.held
   rw [nat_at,hpl,List.getElem?_set_self hk1];show Lk.st (p1.lock.leave 5).2 5=0;rw [e1];exact free_st f2 5
  ·rw [hpl] at hr
   obtain ⟨j,hj⟩:=mem_at hr;rw [List.getElem?_set] at hj
   by_cases hkj:k=j
   ·subst hkj
    rw [if_pos rfl,if_pos hk1] at hj;injection hj with hj;subst hj;show Lk.Free (p1.lock.leave 5).2;rw [e1];exact f2
   ·rw [if_neg hkj] at hj
    have hjl:j<x.pls.length:=by
     have:=(List.getElem?_eq_some_iff.1 hj).1;have h2:=hkp.ln;rw [hset,List.length_set] at h2;omega
    obtain ⟨r0,hr0⟩:∃ r0,x.pls[j]? = some r0:=⟨_,List.getElem?_eq_getElem hjl⟩;obtain ⟨r1,h1,h2,_,_⟩:=hkp.at_ j r0 (by rw [hset,List.getElem?_set,if_neg hkj];exact hr0)
    rw [h1] at hj;injection hj with hj;subst hj;rw [h2];exact hfr r0 (List.mem_of_getElem? hr0)
theorem Co.Hm.create (h:x.Hm c k B) (t n:ByteArray) (ht:t.size≤60) (hn:n.size≤60):(x.create t n).2.2.Hm c (k+1) (B+1):=by
 have h1:=h.ok.create t n (by omega) (by omega)
 have h2:=h.iv.create t n;unfold Co.create at h1 h2 ⊢
 split at h1
 ·rename_i hm
  rw [if_pos hm] at h2 ⊢;exact ⟨h1,h2,h.cf,by have:=h.ct;simp only;omega,h.fr,h.lt⟩
 ·rename_i hm
  rw [if_neg hm] at h2 ⊢;refine ⟨h1,h2,h.cf,by have:=h.ct;simp only;omega,fun p hp=>?_,fun p hp=>?_⟩
  ·rcases List.mem_append.1 hp with hp|hp
   ·exact h.fr p hp
   ·rw [List.mem_singleton.1 hp];exact free_none
  ·simp only at hp ⊢
   rcases List.mem_append.1 hp with hp|hp
   ·have:=h.lt p hp;omega
   ·rw [List.mem_singleton.1 hp];exact Int.le_refl _
theorem Co.Hm.doit (h:x.Hm c k B) (a:As) (ht:a.tenant.size≤60) (hq:a.q.Lite):(x.doit a).2.2.Hm c (k+1) (B+1):=by
 unfold Co.doit;have hm:x.Hm c (k+1) (B+1):=⟨h.ok.mono (Nat.le_succ _),h.iv,h.cf,by have:=h.ct;omega,h.fr,h.lt⟩
 split
 ·exact h.create _ _ ht hq.col
 ·split
  ·exact hm
  ·split
   ·exact hm
   ·generalize x.find a.tenant a.q.col=id
    unfold Co.doW;simp only
    by_cases hid:x.at id=none
    ·obtain ⟨l1,l2,l3⟩:=lock_lt h.lt id 5 (writesB a.q.kind)
     have hl:=lock_none hid 5 (writesB a.q.kind);rw [hl];simp only;have hkp:=kp_mid x id a.q;have hmt:=ct_mid h.lt id a.q;have hat:(x.mid id a.q).2.at id=none:=by
      unfold Co.at at hid ⊢
      split
      ·rename_i h0
       rw [if_pos h0] at hid;rw [List.getElem?_eq_none_iff] at hid ⊢;rw [hkp.ln];exact hid
      ·rfl
     refine ⟨((okk_mid h.ok hq id).unlock id 5 _).mono (Nat.le_succ _),(iv_mid h.iv hq id).unlock id 5 _,?_,?_,?_,?_⟩
     ·rw [(unlock_ct id 5 _).2,hkp.cf];exact h.cf
     ·rw [(unlock_ct id 5 _).1];have:=h.ct;omega
     ·intro p hp
      rw [unlock_pls,leave_none hat] at hp;obtain ⟨j,hj⟩:=mem_at hp;have hjl:j<x.pls.length:=by rw [←hkp.ln];exact (List.getElem?_eq_some_iff.1 hj).1
      obtain ⟨r0,hr0⟩:∃ r0,x.pls[j]? = some r0:=⟨_,List.getElem?_eq_getElem hjl⟩;obtain ⟨r1,h1,h2,_,_⟩:=hkp.at_ j r0 hr0;rw [h1] at hj;injection hj with hj;subst hj;rw [h2];exact h.fr r0 (List.mem_of_getElem? hr0)
     ·exact unlock_lt hmt.1 id 5 _
    ·obtain ⟨_,_,d3⟩:=doW_pls (q:=a.q) h.fr id hid
     obtain ⟨l1,l2,l3⟩:=lock_lt h.lt id 5 (writesB a.q.kind);have hkp:=kp_mid (x.lock id 5 (writesB a.q.kind)).2 id a.q;have hmt:=ct_mid l1 id a.q;refine ⟨(okk_mid (h.ok.lock id 5 _) hq id).unlock id 5 _,(iv_mid (h.iv.lock id 5 _) hq id).unlock id 5 _,?_,?_,d3,unlock_lt hmt.1 id 5 _⟩
     ·rw [(unlock_ct id 5 _).2,hkp.cf,l3];exact h.cf
     ·rw [(unlock_ct id 5 _).1];have:=h.ct;omega
end
end
section
open Go.RowKit Go.PlainAid
def dropQ (n:ByteArray):Rq:=⟨3,⟨#[]⟩,n,⟨#[]⟩,⟨#[]⟩,⟨0,0⟩,[],0,0,0⟩
def deltaQ (n:ByteArray):Rq:=⟨8,⟨#[]⟩,n,⟨#[]⟩,⟨#[]⟩,⟨0,0⟩,[],0,1,0⟩
def waitQ (n:ByteArray):Rq:=⟨9,⟨#[]⟩,n,⟨#[]⟩,⟨#[]⟩,⟨0,0⟩,[],0,0,0⟩
section
variable {x:Co} {c:Cf} {k:Nat} {B:Int} {t n:ByteArray}
theorem work_dead {id:Int} {p:Pl} (hx:x.at id=some p) (ha:p.alive=false) (q:Rq):x.work id q=(rsErr q.kind 4,x):=by
 unfold Co.work;rw [hx];simp only;rw [if_pos ha]
structure Dead (x x1 x2 x4:Co) (i:Nat) (t n:ByteArray) (who:Int):Prop where
 a1:x.alive i=true
 a2:x.lock i who true=(true,x1)
 a3:x1.held i who=3
 a4:x1.work i (dropQ n)=(⟨3,0,x.counter+1,0,⟨#[]⟩,0,false,[]⟩,x2)
 a5:∀ q,x2.work i q=(rsErr q.kind 4,x2)
 a6:x2.alive i=false
 a7:x2.find t n = -1
 a8:x2.held i who=3
 a9:x2.create t n=(0,x.counter+2,x4)
 b1:x4.find t n=x.pls.length
 b2:x4.alive x.pls.length=true
 b3:x4.held x.pls.length who=0
 b4:(x4.work x.pls.length (deltaQ n)).2=x4∧(x4.work x.pls.length (deltaQ n)).1.items=[]
 b5:x4.held i who=3
 b6:x4.alive i=false
 lt:i<x.pls.length
 o1:x1.OkK (k+1)→x1.OkK (k+1)
end
end
section
open Go.RowKit Go.PlainAid
def batchQ (n:ByteArray) (ops:List OpR):Rq:=⟨7,⟨#[]⟩,n,⟨#[]⟩,⟨#[]⟩,⟨0,0⟩,ops,0,0,0⟩
def getQ (n u:ByteArray):Rq:=⟨6,⟨#[]⟩,n,u,⟨#[]⟩,⟨0,0⟩,[],0,0,0⟩
theorem work_none {x:Co} {id:Int} (h:x.at id=none) (q:Rq):x.work id q=(rsErr q.kind 4,x):=by unfold Co.work;rw [h]
section
variable {x:Co} {id:Int} {p:Pl}
theorem work_batch (hx:x.at id=some p) (ha:p.alive=true) (n:ByteArray) (ops:List OpR):x.work id (batchQ n ops)=(wrRs 7 x p ops false,wrCo x id p ops false):=by
 unfold Co.work;rw [hx];simp only;rw [if_neg (by rw [ha];simp)]
 rfl
theorem work_wait (hx:x.at id=some p) (ha:p.alive=true) (n:ByteArray):x.work id (waitQ n)=(waitRs p 0,x):=by
 unfold Co.work;rw [hx];simp only;rw [if_neg (by rw [ha];simp)]
 rfl
theorem work_delta (hx:x.at id=some p) (ha:p.alive=true) (n:ByteArray):x.work id (deltaQ n)=(deltaRs p 0 1,x):=by
 unfold Co.work;rw [hx];simp only;rw [if_neg (by rw [ha];simp)]
 rfl
theorem work_get (hx:x.at id=some p) (ha:p.alive=true) (n u:ByteArray):x.work id (getQ n u)=(getRs p u,x):=by
 unfold Co.work;rw [hx];simp only;rw [if_neg (by rw [ha];simp)]
 rfl
end
def Co.put (x:Co) (i:Nat) (p:Pl) (c:Cl):Co:={ x with pls:=x.pls.set i { p with col:=c } }
theorem coput_at {x:Co} {i:Nat} {p:Pl} {c:Cl} (hi:i<x.pls.length):(x.put i p c).at (i:Int)=some { p with col:=c }:=by
 rw [nat_at];exact List.getElem?_set_self hi
theorem put_apply {x:Co} {i:Nat} {p:Pl} {c:Cl} (hi:i<x.pls.length) (o:OpR) (tk:Int):(x.put i p c).apply (i:Int) o tk=((c.apply o tk).1,x.put i p (c.apply o tk).2):=by
 unfold Co.apply;rw [coput_at hi];simp only [Prod.mk.injEq,true_and];unfold Co.setP Co.put;simp only [Int.toNat_natCast,List.set_set]
theorem put_self {x:Co} {i:Nat} {p:Pl} (h:x.pls[i]? = some p):x.put i p p.col=x:=by
 unfold Co.put;have:x.pls.set i { p with col:=p.col }=x.pls:=by
  obtain ⟨h1,h2⟩:=List.getElem?_eq_some_iff.1 h;show x.pls.set i p=x.pls;rw [←h2];exact List.set_getElem_self h1
 rw [this]
structure Drawn (x x1:Co) (i:Nat) (p p1:Pl) (t n:ByteArray) (ops:List OpR):Prop where
 al:p1.alive=true
 at1:x1.pls[i]? = some p1
 col:p1.col=p.col
 ct:x1.counter=x.counter+1
 wk:x.work i (batchQ n ops)=(⟨7,0,x.counter+1,0,⟨#[]⟩,0,false,[]⟩,x1)
 li:(x1.list t).items.any (fun it=>decide (it.uid=n)&&decide (it.ver=x.counter+1))=true
 ap:∀ (j:Nat) (o:OpR),ops[j]? = some o→(x1.put i p1 (applyL p.col (ops.take j) (x.counter+1))).apply i o (x.counter+1)=(true,x1.put i p1 (applyL p.col (ops.take (j+1)) (x.counter+1)))
 gt:∀ (j:Nat) (o:OpR),ops[j]? = some o→(x1.put i p1 (applyL p.col (ops.take (j+1)) (x.counter+1))).work i (getQ n o.uid)=(if o.del=true then rsErr 6 4 else ⟨6,0,0,x.counter+1,o.card,0,false,[]⟩,x1.put i p1 (applyL p.col (ops.take (j+1)) (x.counter+1)))
 wt:ops≠[]→(x1.put i p1 (applyL p.col ops (x.counter+1))).work i (waitQ n)=(⟨9,0,x.counter+1,0,⟨#[]⟩,0,false,[]⟩,x1.put i p1 (applyL p.col ops (x.counter+1)))
theorem prefix_app:∀ (p s:List UInt8),Lib.hasPrefix (p++s) p=true
 | [],s=>hp_nil _
 | a::p,s=>by
  rw [List.cons_append,hp_cons,prefix_app p s];simp
theorem list_has {x:Co} (h:x.Iv) {i:Nat} {p:Pl} (hp:x.pls[i]? = some p) (ha:p.alive=true):(x.list p.tenant).items.any (fun it=>decide (it.uid=p.name)&&decide (it.ver=p.drawn))=true:=by
 have hm:=h.nm p (List.mem_of_getElem? hp);unfold Co.list;rw [if_pos hm.1];rw [List.any_eq_true];have hv:=h.al i p hp ha;have hmem:=(val_iff h.ri _ _).1 hv;refine ⟨⟨p.name,p.drawn,false,⟨#[]⟩⟩,?_,by simp⟩
 refine List.mem_map.2 ⟨keyB p.tenant p.name,?_,?_⟩
 ·unfold unE
  refine List.mem_map.2 ⟨(keyB p.tenant p.name,(i:Int)),List.mem_filter.2 ⟨hmem,?_⟩,rfl⟩;show Lib.hasPrefix (kb (keyB p.tenant p.name)) (kb (p.tenant++⟨#[47]⟩))=true;rw [key_data hm.1 hm.2];have e:kb (p.tenant++⟨#[47]⟩)=kb p.tenant++[47]:=by simp [kb]
  rw [e,show kb p.tenant++47::kb p.name=(kb p.tenant++[47])++kb p.name by simp]
  exact prefix_app _ _
 ·unfold liIt
  have:fdE x.es (keyB p.tenant p.name)=(i:Int):=by unfold fdE;rw [hv];rfl
  rw [this,nat_at,hp]
theorem applyL_lat {c:Cl} {tk:Int}:∀ (l:List OpR) {d:Cl},(∀ (j:Nat) (o:OpR),l[j]? = some o→((applyL d (l.take j) tk).apply o tk).1=true)→l≠[]→(applyL d l tk).latest=tk:=by
 intro l d h hne;obtain ⟨r,o,rfl⟩:∃ r o,l=r++[o]:=⟨l.dropLast,l.getLast hne,(List.dropLast_concat_getLast hne).symm⟩;have h1:=h r.length o (by simp)
 rw [List.take_left' rfl] at h1;rw [applyL_snoc];unfold Cl.apply at h1 ⊢
 split
 ·rename_i h2
  rw [if_pos h2] at h1;cases h1
 ·rfl
theorem drawn_yes {x:Co} {c:Cf} {k:Nat} {B:Int} {n:ByteArray} {ops:List OpR} (h:x.Hm c k B) {i:Nat} {p:Pl} (hp:x.pls[i]? = some p) (ha:p.alive=true) (hn:p.name=n) (he:(wrErr x p ops).1=0) :
  ∃ (x1:Co) (p1:Pl),Drawn x x1 i p p1 p.tenant n ops:=by
 have hi:=(List.getElem?_eq_some_iff.1 hp).1;have hat:x.at (i:Int)=some p:=by rw [nat_at];exact hp
 have hpo:=h.ok.pl p (List.mem_of_getElem? hp);have hlt:=h.lt p (List.mem_of_getElem? hp);have hct:=h.ok.ct;have hck:(p.col.check ops (x.bg p.tenant).room).2.2=0:=by
  unfold wrErr at he
  split at he
  ·rename_i h1;exact absurd he h1
  ·rename_i h1;exact Decidable.not_not.1 h1
 have hall:=fun j o ho=>check_all hpo.1 (tk:=x.counter+1) (by omega) hck j o ho
 have hix:(wrErr x p ops).2=0:=by
  unfold wrErr at he ⊢;rw [if_neg (by rw [hck];simp)] at he ⊢
  split at he
  ·cases he
  ·rename_i h1;rw [if_neg h1]
 obtain ⟨x1,hx1⟩:∃ x1,x1=x.write (i:Int) p ops false:=⟨_,rfl⟩;obtain ⟨p1,hp1⟩:∃ p1:Pl,p1={ p with drawn:=x.counter+1 }:=⟨_,rfl⟩;have hpl:x1.pls=x.pls.set i p1:=by rw [hx1,hp1];rfl
 have hat1:x1.pls[i]? = some p1:=by rw [hpl];exact List.getElem?_set_self hi
 have hi1:i<x1.pls.length:=by rw [hpl,List.length_set];exact hi
 have hwk:x.work (i:Int) (batchQ n ops)=(⟨7,0,x.counter+1,0,⟨#[]⟩,0,false,[]⟩,x1):=by
  rw [work_batch hat ha];unfold wrRs wrCo;rw [he,hix,if_pos rfl,if_pos rfl,hx1];rfl
 have iv1:x1.Iv:=by
  have:=h.iv.write hp ops false;unfold wrCo at this;rw [if_pos he,←hx1] at this;subst hn;have hset:(({ x with pls:=x.pls.set i { p with drawn:=x.counter+1,col:=p.col } }:Co)).Iv:=h.iv.set hp rfl rfl rfl (h.iv.ut p (List.mem_of_getElem? hp));refine hset.beside ?_ ?_
  ·rw [hx1];rfl
  ·rw [hx1];rfl
 have ha1:p1.alive=true:=by rw [hp1];exact ha
 refine ⟨x1,p1,⟨ha1,hat1,by rw [hp1],by rw [hx1];rfl,hwk,?_,?_,?_,?_⟩⟩
 ·have:=list_has iv1 hat1 ha1
  rw [hp1] at this;subst hn;exact this
 ·intro j o ho
  rw [put_apply hi1,(hall j o ho).1];have e:applyL p.col (ops.take (j+1)) (x.counter+1)=((applyL p.col (ops.take j) (x.counter+1)).apply o (x.counter+1)).2:=by
   rw [List.take_add_one,ho,←applyL_snoc];rfl
  rw [e,(hall j o ho).1]
 ·intro j o ho
  have e:applyL p.col (ops.take (j+1)) (x.counter+1)=((applyL p.col (ops.take j) (x.counter+1)).apply o (x.counter+1)).2:=by
   rw [List.take_add_one,ho,←applyL_snoc];rfl
  rw [work_get (coput_at (p:=p1) (c:=applyL p.col (ops.take (j+1)) (x.counter+1)) hi1) ha1];have hg:(applyL p.col (ops.take (j+1)) (x.counter+1)).get o.uid=if o.del=true then none else some ⟨x.counter+1,o.card⟩:=by
   rw [e,(hall j o ho).1,done_get (hall j o ho).2,if_pos rfl]
  unfold getRs;simp only;rw [hg];cases o.del <;> rfl
 ·intro hne
  rw [work_wait (coput_at (p:=p1) (c:=applyL p.col ops (x.counter+1)) hi1) ha1];have hla:(applyL p.col ops (x.counter+1)).latest=x.counter+1:=applyL_lat (c:=p.col) ops (fun j o ho=>by rw [(hall j o ho).1]) hne
  unfold waitRs;simp only;rw [hla,if_neg (by omega)]
end
end Go.Proofs.YtjfpfeapbcjioaaGreat
