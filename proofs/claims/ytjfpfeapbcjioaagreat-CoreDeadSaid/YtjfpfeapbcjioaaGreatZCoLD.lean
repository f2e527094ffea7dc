/-
  The texts of this claim, put together: CoLD, CoLE.
-/
import Derived.Test.YtjfpfeapbcjioaaGreatZCqA
set_option linter.unusedSimpArgs false
set_option linter.unusedVariables false
set_option maxHeartbeats 12800000
set_option maxRecDepth 100000
namespace Go.Proofs.YtjfpfeapbcjioaaGreat
section
open Go.RowKit Go.PlainAid
theorem dead_any (c:Cf) (l:List AsA) (A:Option Addr) (cpl:Nat) (t n:ByteArray) (who:Int) (q:RqA) (W:World) (hs:Sl W (fun b=>b<W.heap.size) 12 A l.length (l.flatMap AsA.cells)) (hok:∀ a∈l,a.Ok W) (hq:q.Ok W) (hcs:c.start≤maxTok) :
  Calls Tryz.prog 4 #[c.val,.slice A l.length cpl,.string t,.string n,.int .i64 who,.agg q.row] W (TruW W):=by
 obtain ⟨q,qA,qcp⟩:=q;have Hs:=Lib.hid hs;have Hok:=Lib.hid hok;have Hq:=Lib.hid hq;have Hcs:=Lib.hid hcs;have hr0:=((Run.start (F:=fun _=>False) (w:=W) (Ps:=[]) trivial).addBlk #[.int .i64 c.conns,.int .i64 c.start,.int .i64 c.room,.int .i64 c.shards,.int .i64 c.quota.cols,.int .i64 c.quota.cards,.int .i64 c.quota.bytes,.int .i64 c.quota.log] 25).addBlk (q.cells qA q.ops.length qcp) 32;show Calls Tryz.prog 4 #[.agg #[.int .i64 c.conns,.int .i64 c.start,.int .i64 c.room,.int .i64 c.shards,.int .i64 c.quota.cols,.int .i64 c.quota.cards,.int .i64 c.quota.bytes,.int .i64 c.quota.log],.slice A l.length cpl,.string t,.string n,.int .i64 who,.agg (q.cells qA q.ops.length qcp)] W (TruW W)
 obtain ⟨la,hla⟩:∃ b,asksB l=b:=⟨_,rfl⟩;obtain ⟨b1,hb1⟩:∃ b,decide ((60:Int)<(t.size:Int))=b:=⟨_,rfl⟩;obtain ⟨b2,hb2⟩:∃ b,decide ((60:Int)<(n.size:Int))=b:=⟨_,rfl⟩;obtain ⟨okb,hokb⟩:∃ b,c.okB=b:=⟨_,rfl⟩;obtain ⟨b3,hb3⟩:∃ b,decide ((1099511627776:Int)<c.start)=b:=⟨_,rfl⟩;obtain ⟨lb,hlb⟩:∃ b,lightB q=b:=⟨_,rfl⟩;obtain ⟨z,hz⟩:∃ z,chkR q=z:=⟨_,rfl⟩;obtain ⟨zb,hzb⟩:∃ b,(!decide (z=0))=b:=⟨_,rfl⟩;have HZ:=Lib.hid hz
 have CA:=Lib.hid (fun w h=>asks_any l A cpl W w h hs hok);rw [hla] at CA;have CC:=Lib.hid (refconf_any c);rw [hokb] at CC;have CL:=Lib.hid (fun w F=>light_any q qA qcp w F);rw [hlb] at CL;have HLA:=Lib.hid hla;have HOK:=Lib.hid hokb;have HLB:=Lib.hid hlb;clear hs hok hq hcs hz hla hokb hlb;refine calls_kn Tryz.func4 rfl Tryz.ntmps4 rfl ?_
 repeat (first|refine qc ?_|refine qe ?_|refine qs ?_|refine qq ?_|refine qn ?_|refine qy ?_|refine qf ?_|refine ql ?_|refine qi ?_|refine qw ?_|refine qx ?_|refine qr ?_)
 refine KL.makes (v:=.pointer (some ⟨World.heap W |>.size,0,none⟩)) rfl rfl rfl (fun ρ hρ=>by have e:=hρ (.tmp 0) _ rfl;simp only [execOp,e];go_simp;first|done|rfl) ?_
 generalize W.alloc _=w1 at *;refine KL.makes (v:=.pointer (some ⟨World.heap w1 |>.size,0,none⟩)) rfl rfl rfl (fun ρ hρ=>by have e:=hρ (.tmp 5) _ rfl;simp only [execOp,e];go_simp;first|done|rfl) ?_
 generalize w1.alloc _=w2 at *;generalize w1.heap.size=g11 at *;have Hr2:=Lib.hid hr0;clear hr0
 repeat (first|refine qc ?_|refine qe ?_|refine qs ?_|refine qq ?_|refine qn ?_|refine qy ?_|refine qf ?_|refine ql ?_|refine qi ?_|refine qw ?_|refine qx ?_|refine qr ?_)
 refine KL.call rfl rfl rfl rfl rfl (by go_simp) (first27 w2) ?_
 rintro e w3 ⟨rfl,hk3⟩;refine ⟨_,rfl,?_⟩;have Hr3:=Lib.hid (Hr2.out.pure hk3);clear hk3 Hr2
 repeat (first|refine qc ?_|refine qe ?_|refine qs ?_|refine qq ?_|refine qn ?_|refine qy ?_|refine qf ?_|refine ql ?_|refine qi ?_|refine qw ?_|refine qx ?_|refine qr ?_)
 refine KL.call rfl rfl rfl rfl rfl (by go_simp) (CA.out w3 Hr3.out.pureOf) ?_
 rintro e w4 ⟨rfl,hk4⟩;refine ⟨_,rfl,?_⟩;have Hr4:=Lib.hid (Hr3.out.pure hk4);have hc6:=(Hr4.out.blk 1 rfl).cell;clear hk4 Hr3 CA;cases la
 ·try (refine KL.pass 59 (.bool true) (by kernel_rfl) (by kernel_rfl) ?_)
  repeat (first|refine qc ?_|refine qe ?_|refine qs ?_|refine qq ?_|refine qn ?_|refine qy ?_|refine qf ?_|refine ql ?_|refine qi ?_|refine qw ?_|refine qx ?_|refine qr ?_)
  refine KL.call rfl rfl rfl rfl rfl (by go_simp) (first27 w4) ?_
  rintro e wz ⟨rfl,hkz⟩;refine ⟨_,rfl,?_⟩
  repeat (first|refine qc ?_|refine qe ?_|refine qs ?_|refine qq ?_|refine qn ?_|refine qy ?_|refine qf ?_|refine ql ?_|refine qi ?_|refine qw ?_|refine qx ?_|refine qr ?_)
  refine KR.fin1 Tryz.results4 rfl ⟨rfl,Hr4.out.pureOf.same hkz⟩
 repeat (first|refine qc ?_|refine qe ?_|refine qs ?_|refine qq ?_|refine qn ?_|refine qy ?_|refine qf ?_|refine ql ?_|refine qi ?_|refine qw ?_|refine qx ?_|refine qr ?_)
 cases b1;rotate_left
 ·try (refine KL.pass 59 (.bool true) (by kernel_rfl) (by kernel_rfl) ?_)
  repeat (first|refine qc ?_|refine qe ?_|refine qs ?_|refine qq ?_|refine qn ?_|refine qy ?_|refine qf ?_|refine ql ?_|refine qi ?_|refine qw ?_|refine qx ?_|refine qr ?_)
  refine KL.call rfl rfl rfl rfl rfl (by go_simp) (first27 w4) ?_
  rintro e wz ⟨rfl,hkz⟩;refine ⟨_,rfl,?_⟩
  repeat (first|refine qc ?_|refine qe ?_|refine qs ?_|refine qq ?_|refine qn ?_|refine qy ?_|refine qf ?_|refine ql ?_|refine qi ?_|refine qw ?_|refine qx ?_|refine qr ?_)
  refine KR.fin1 Tryz.results4 rfl ⟨rfl,Hr4.out.pureOf.same hkz⟩
 repeat (first|refine qc ?_|refine qe ?_|refine qs ?_|refine qq ?_|refine qn ?_|refine qy ?_|refine qf ?_|refine ql ?_|refine qi ?_|refine qw ?_|refine qx ?_|refine qr ?_)
 cases b2;rotate_left
 ·try (refine KL.pass 59 (.bool true) (by kernel_rfl) (by kernel_rfl) ?_)
  repeat (first|refine qc ?_|refine qe ?_|refine qs ?_|refine qq ?_|refine qn ?_|refine qy ?_|refine qf ?_|refine ql ?_|refine qi ?_|refine qw ?_|refine qx ?_|refine qr ?_)
  refine KL.call rfl rfl rfl rfl rfl (by go_simp) (first27 w4) ?_
  rintro e wz ⟨rfl,hkz⟩;refine ⟨_,rfl,?_⟩
  repeat (first|refine qc ?_|refine qe ?_|refine qs ?_|refine qq ?_|refine qn ?_|refine qy ?_|refine qf ?_|refine ql ?_|refine qi ?_|refine qw ?_|refine qx ?_|refine qr ?_)
  refine KR.fin1 Tryz.results4 rfl ⟨rfl,Hr4.out.pureOf.same hkz⟩
 repeat (first|refine qc ?_|refine qe ?_|refine qs ?_|refine qq ?_|refine qn ?_|refine qy ?_|refine qf ?_|refine ql ?_|refine qi ?_|refine qw ?_|refine qx ?_|refine qr ?_)
 refine KL.call rfl rfl rfl rfl rfl (by go_simp) (CC.out w4) ?_
 rintro e w5 ⟨rfl,hk5⟩;refine ⟨_,rfl,?_⟩;have Hr5:=Lib.hid (Hr4.out.pure hk5);clear hk5 Hr4 CC hc6;have hc6:=(Hr5.out.blk 1 rfl).cell;have hc11:=(Hr5.out.blk 0 rfl).cell;cases okb
 ·try (refine KL.pass 59 (.bool true) (by kernel_rfl) (by kernel_rfl) ?_)
  repeat (first|refine qc ?_|refine qe ?_|refine qs ?_|refine qq ?_|refine qn ?_|refine qy ?_|refine qf ?_|refine ql ?_|refine qi ?_|refine qw ?_|refine qx ?_|refine qr ?_)
  refine KL.call rfl rfl rfl rfl rfl (by go_simp) (first27 w5) ?_
  rintro e wz ⟨rfl,hkz⟩;refine ⟨_,rfl,?_⟩
  repeat (first|refine qc ?_|refine qe ?_|refine qs ?_|refine qq ?_|refine qn ?_|refine qy ?_|refine qf ?_|refine ql ?_|refine qi ?_|refine qw ?_|refine qx ?_|refine qr ?_)
  refine KR.fin1 Tryz.results4 rfl ⟨rfl,Hr5.out.pureOf.same hkz⟩
 repeat (first|refine qc ?_|refine qe ?_|refine qs ?_|refine qq ?_|refine qn ?_|refine qy ?_|refine qf ?_|refine ql ?_|refine qi ?_|refine qw ?_|refine qx ?_|refine qr ?_)
 cases b3;rotate_left
 ·try (refine KL.pass 59 (.bool true) (by kernel_rfl) (by kernel_rfl) ?_)
  repeat (first|refine qc ?_|refine qe ?_|refine qs ?_|refine qq ?_|refine qn ?_|refine qy ?_|refine qf ?_|refine ql ?_|refine qi ?_|refine qw ?_|refine qx ?_|refine qr ?_)
  refine KL.call rfl rfl rfl rfl rfl (by go_simp) (first27 w5) ?_
  rintro e wz ⟨rfl,hkz⟩;refine ⟨_,rfl,?_⟩
  repeat (first|refine qc ?_|refine qe ?_|refine qs ?_|refine qq ?_|refine qn ?_|refine qy ?_|refine qf ?_|refine ql ?_|refine qi ?_|refine qw ?_|refine qx ?_|refine qr ?_)
  refine KR.fin1 Tryz.results4 rfl ⟨rfl,Hr5.out.pureOf.same hkz⟩
 repeat (first|refine qc ?_|refine qe ?_|refine qs ?_|refine qq ?_|refine qn ?_|refine qy ?_|refine qf ?_|refine ql ?_|refine qi ?_|refine qw ?_|refine qx ?_|refine qr ?_)
 refine KL.call rfl rfl rfl rfl rfl (by go_simp) (CL.out w5 _ (Hq.out.ops.kept (S:=fun _=>False) Hr5.out.pureOf (fun _ _ _ h=>h))) ?_
 rintro e w6 ⟨rfl,hk6⟩;refine ⟨_,rfl,?_⟩;have Hr6:=Lib.hid (Hr5.out.pure hk6);clear hk6 Hr5 CL hc6 hc11;have hc6:=(Hr6.out.blk 1 rfl).cell;have hc11:=(Hr6.out.blk 0 rfl).cell;cases lb
 ·try (refine KL.pass 59 (.bool true) (by kernel_rfl) (by kernel_rfl) ?_)
  repeat (first|refine qc ?_|refine qe ?_|refine qs ?_|refine qq ?_|refine qn ?_|refine qy ?_|refine qf ?_|refine ql ?_|refine qi ?_|refine qw ?_|refine qx ?_|refine qr ?_)
  refine KL.call rfl rfl rfl rfl rfl (by go_simp) (first27 w6) ?_
  rintro e wz ⟨rfl,hkz⟩;refine ⟨_,rfl,?_⟩
  repeat (first|refine qc ?_|refine qe ?_|refine qs ?_|refine qq ?_|refine qn ?_|refine qy ?_|refine qf ?_|refine ql ?_|refine qi ?_|refine qw ?_|refine qx ?_|refine qr ?_)
  refine KR.fin1 Tryz.results4 rfl ⟨rfl,Hr6.out.pureOf.same hkz⟩
 have Hll:=Lib.hid (light_lim HLB.out)
 repeat (first|refine qc ?_|refine qe ?_|refine qs ?_|refine qq ?_|refine qn ?_|refine qy ?_|refine qf ?_|refine ql ?_|refine qi ?_|refine qw ?_|refine qx ?_|refine qr ?_)
 refine KL.call rfl rfl rfl rfl rfl (by go_simp) ((ref_check q qA qcp w6 _ Hll.out.1 (Hq.out.ops.kept (S:=fun _=>False) Hr6.out.pureOf (fun _ _ _ h=>h)))) ?_
 rintro e w7 ⟨rfl,hk7⟩;refine ⟨_,rfl,?_⟩;rw [HZ.out];have Hr7:=Lib.hid (Hr6.out.pure hk7);clear hk7 Hr6 hc6 hc11;have hc6:=(Hr7.out.blk 1 rfl).cell
 repeat (first|refine qc ?_|refine qe ?_|refine qs ?_|refine qq ?_|refine qn ?_|refine qy ?_|refine qf ?_|refine ql ?_|refine qi ?_|refine qw ?_|refine qx ?_|refine qr ?_)
 cases zb;rotate_left
 ·try (refine KL.pass 59 (.bool true) (by kernel_rfl) (by kernel_rfl) ?_)
  repeat (first|refine qc ?_|refine qe ?_|refine qs ?_|refine qq ?_|refine qn ?_|refine qy ?_|refine qf ?_|refine ql ?_|refine qi ?_|refine qw ?_|refine qx ?_|refine qr ?_)
  refine KL.call rfl rfl rfl rfl rfl (by go_simp) (first27 w7) ?_
  rintro e wz ⟨rfl,hkz⟩;refine ⟨_,rfl,?_⟩
  repeat (first|refine qc ?_|refine qe ?_|refine qs ?_|refine qq ?_|refine qn ?_|refine qy ?_|refine qf ?_|refine ql ?_|refine qi ?_|refine qw ?_|refine qx ?_|refine qr ?_)
  refine KR.fin1 Tryz.results4 rfl ⟨rfl,Hr7.out.pureOf.same hkz⟩
 repeat (first|refine qc ?_|refine qe ?_|refine qs ?_|refine qq ?_|refine qn ?_|refine qy ?_|refine qf ?_|refine ql ?_|refine qi ?_|refine qw ?_|refine qx ?_|refine qr ?_)
 refine KL.call rfl rfl rfl rfl rfl (by go_simp) ((co_new1 c w7 HOK.out)) ?_
 rintro e w8 ⟨g,rfl,hm8,hp8⟩;refine ⟨_,rfl,?_⟩;have hr8:=Run.perm (Run.old (((Hr7.out.add (Q:=coC 0 g (Co.new c)) hp8 hm8).drop 2))) (List.Perm.swap _ _ _);have HI0:Hid (AsI W c l g [blkC g11 32 (q.cells qA q.ops.length qcp)] 0 w8):=Lib.hid ⟨Nat.zero_le _,0,Co.new c,Nat.le_refl _,(Co.Hm.new HOK.out Hcs.out).mono (Nat.le_refl _) (by omega),hr8⟩
 have Hla:=Lib.hid (asks_lite HLA.out);clear hr8 hm8 hp8 Hr7 hc6
 repeat (first|refine qc ?_|refine qe ?_|refine qs ?_|refine qq ?_|refine qn ?_|refine qy ?_|refine qf ?_|refine ql ?_|refine qi ?_|refine qw ?_|refine qx ?_|refine qr ?_)
 refine KL.bop (v:=.bool false) rfl rfl rfl rfl rfl rfl (by go_simp;first|done|rfl) ?_
 repeat (first|refine qc ?_|refine qe ?_|refine qs ?_|refine qq ?_|refine qn ?_|refine qy ?_|refine qf ?_|refine ql ?_|refine qi ?_|refine qw ?_|refine qx ?_|refine qr ?_)
 refine KW.loop (ι:=Nat) (fun i=>[(1,.slice A l.length cpl),(2,.string t),(3,.string n),(4,.int .i64 who),(11,.pointer (some ⟨g11,0,none⟩)),(13,pV g),(15,.int .i64 (i:Int))]) (fun i w'=>AsI W c l g [blkC g11 32 (q.cells qA q.ops.length qcp)] i w') (fun i=>l.length-i) 0 HI0.out (kle_ok (by repeat' (first|exact trivial|refine ⟨rfl,?_⟩))) ?_
 rintro i w9 hI;have HI:=Lib.hid hI;obtain ⟨F9,hs9⟩:=hI.cells Hs.out;have Hs9:=Lib.hid hs9;clear hI hs9
 by_cases hlt:i<l.length
 ·have hd:decide ((i:Int)<(l.length:Int))=true:=by simp;omega
  obtain ⟨o,ho⟩:∃ o,l[i]? = some o:=⟨_,List.getElem?_eq_getElem hlt⟩;obtain ⟨b,off,hA,_⟩:=Hs.out.2 (by omega)
  subst hA;obtain ⟨c0,c1,c2,c3,c4,c5,c6,c7,c8,c9,c10,c11⟩:=as_cells Hs9.out ho;have hmem:=List.mem_of_getElem? ho;have Hlo:=Lib.hid (Hla.out.2 o hmem);have Hoo:=Lib.hid (Hok.out o hmem);have Ho:=Lib.hid ho;clear ho hmem;obtain ⟨F10,hsq⟩:=HI.out.ops Hoo.out;have CM:=Lib.hid (may_any o w9 F10 (by have:=Hlo.out.2.2.2;unfold maxLen;omega) Hlo.out.1 hsq)
  obtain ⟨mb,hmb⟩:∃ b,mayB o=b:=⟨_,rfl⟩;rw [hmb] at CM;clear hsq hmb
  repeat (first|refine qc ?_|refine qe ?_|refine qs ?_|refine qq ?_|refine qn ?_|refine qy ?_|refine qf ?_|refine ql ?_|refine qi ?_|refine qw ?_|refine qx ?_|refine qr ?_)
  refine KL.call rfl rfl rfl rfl rfl (by go_simp) (CM.out) ?_
  rintro e w10 ⟨rfl,hk10⟩;refine ⟨_,rfl,?_⟩;have HI10:=Lib.hid (HI.out.pure hk10);clear c0 c1 c2 c3 c4 c5 c6 c7 c8 c9 c10 c11 CM;obtain ⟨c0,c1,c2,c3,c4,c5,c6,c7,c8,c9,c10,c11⟩:=as_cells (Hs9.out.kept (S:=fun _=>False) hk10 (fun _ _ _ h=>h)) Ho.out;clear hk10;cases mb
  ·repeat (first|refine qc ?_|refine qe ?_|refine qs ?_|refine qq ?_|refine qn ?_|refine qy ?_|refine qf ?_|refine ql ?_|refine qi ?_|refine qw ?_|refine qx ?_|refine qr ?_)
   refine KL.add ((i+1:Nat):Int) rfl rfl rfl rfl rfl rfl (by have:=Hla.out.1;omega) (by omega) ?_
   repeat (first|refine qc ?_|refine qe ?_|refine qs ?_|refine qq ?_|refine qn ?_|refine qy ?_|refine qf ?_|refine ql ?_|refine qi ?_|refine qw ?_|refine qx ?_|refine qr ?_)
   refine KE.rnd (i+1) (by repeat' (first|exact trivial|refine ⟨rfl,?_⟩)) (HI10.out.next hlt) (by omega)
  ·repeat (first|refine qc ?_|refine qe ?_|refine qs ?_|refine qq ?_|refine qn ?_|refine qy ?_|refine qf ?_|refine ql ?_|refine qi ?_|refine qw ?_|refine qx ?_|refine qr ?_)
   have CD:=Lib.hid (HI10.out.do hlt Hla.out.1 Hoo.out Hlo.out.2.2.2 Hlo.out.2.1 Hlo.out.2.2.1);refine KL.call rfl rfl rfl rfl rfl (by go_simp) (CD.out) ?_
   rintro e w11 ⟨v11,rfl,hI11⟩;refine ⟨_,rfl,?_⟩;have HI11:=Lib.hid hI11;clear hI11 c0 c1 c2 c3 c4 c5 c6 c7 c8 c9 c10 c11 CD
   repeat (first|refine qc ?_|refine qe ?_|refine qs ?_|refine qq ?_|refine qn ?_|refine qy ?_|refine qf ?_|refine ql ?_|refine qi ?_|refine qw ?_|refine qx ?_|refine qr ?_)
   refine KL.add ((i+1:Nat):Int) rfl rfl rfl rfl rfl rfl (by have:=Hla.out.1;omega) (by omega) ?_
   repeat (first|refine qc ?_|refine qe ?_|refine qs ?_|refine qq ?_|refine qn ?_|refine qy ?_|refine qf ?_|refine ql ?_|refine qi ?_|refine qw ?_|refine qx ?_|refine qr ?_)
   refine KE.rnd (i+1) (by repeat' (first|exact trivial|refine ⟨rfl,?_⟩)) HI11.out (by omega)
 have hd:decide ((i:Int)<(l.length:Int))=false:=by simp;omega
 repeat (first|refine qc ?_|refine qe ?_|refine qs ?_|refine qq ?_|refine qn ?_|refine qy ?_|refine qf ?_|refine ql ?_|refine qi ?_|refine qw ?_|refine qx ?_|refine qr ?_)
 have hil:i=l.length:=by have:=HI.out.1;omega
 obtain ⟨_,N,x,hN,hm,hr⟩:=HI.out;have Hm:=Lib.hid hm;have Hr:=Lib.hid hr;have hN2:N≤240:=by have:=Hla.out.1;omega
 clear hm hr HI HI0 Hs9 hN;have CF:=Lib.hid (show Calls Tryz.prog 13 _ w9 _ from co_find w9 _ N g x t n (Hr.out.get (P:=coC N g x) 0 rfl) (by have:=of_decide_eq_false hb1;omega) (by have:=of_decide_eq_false hb2;omega))
 by_cases hneg:x.find t n<0
 ·have hf:=find_neg Hm.out.iv hneg
  rw [hf] at CF;clear hneg hf;refine KL.call rfl rfl rfl rfl rfl (by go_simp) (CF.out) ?_
  rintro e w10 ⟨rfl,hkx⟩;refine ⟨_,rfl,?_⟩;have Hr':=Lib.hid (Hr.out.pure hkx);clear Hr hkx;have Hr:=Hr';clear Hr';clear CF
  repeat (first|refine qc ?_|refine qe ?_|refine qs ?_|refine qq ?_|refine qn ?_|refine qy ?_|refine qf ?_|refine ql ?_|refine qi ?_|refine qw ?_|refine qx ?_|refine qr ?_)
  have CL:=Lib.hid (Hr.out.turn1 0 rfl (fun G hG hp=>co_lock w10 G N g x (-1) who true hp (fun p hp=>by have:=(Hm.out.ok.pl p hp).2.1;have:=Hla.out.1;omega)))
  rw [neg_lock x (-1) (by omega)] at CL
  refine KL.call rfl rfl rfl rfl rfl (by go_simp) (CL.out) ?_
  rintro e w11 ⟨rfl,hr11⟩;refine ⟨_,rfl,?_⟩;have Hr11:Hid (Run W (fun b=>b<W.heap.size) w11 [coC N g x,oldC W,blkC g11 32 (q.cells qA q.ops.length qcp)]):=Lib.hid hr11;clear hr11 CL Hr;have Hr:=Hr11;clear Hr11
  repeat (first|refine qc ?_|refine qe ?_|refine qs ?_|refine qq ?_|refine qn ?_|refine qy ?_|refine qf ?_|refine ql ?_|refine qi ?_|refine qw ?_|refine qx ?_|refine qr ?_)
  have CH:=Lib.hid (show Calls Tryz.prog 22 _ w11 _ from co_held w11 _ N g x (-1) who (Hr.out.get (P:=coC N g x) 0 rfl) (fun p hp=>by have:=(Hm.out.ok.pl p hp).2.1;have:=Hla.out.1;omega))
  rw [neg_held x (-1) (by omega)] at CH
  refine KL.call rfl rfl rfl rfl rfl (by go_simp) (CH.out) ?_
  rintro e w12 ⟨rfl,hkx⟩;refine ⟨_,rfl,?_⟩;have Hr':=Lib.hid (Hr.out.pure hkx);clear Hr hkx;have Hr:=Hr';clear Hr';clear CH
  repeat (first|refine qc ?_|refine qe ?_|refine qs ?_|refine qq ?_|refine qn ?_|refine qy ?_|refine qf ?_|refine ql ?_|refine qi ?_|refine qw ?_|refine qx ?_|refine qr ?_)
  have CV:=Lib.hid (co_alive w12 _ N g x (-1) (Hr.out.get (P:=coC N g x) 0 rfl));rw [neg_alive x (-1) (by omega)] at CV
  refine KL.call rfl rfl rfl rfl rfl (by go_simp) (CV.out) ?_
  rintro e w13 ⟨rfl,e13⟩;refine ⟨_,rfl,?_⟩;obtain rfl:=e13.symm;clear e13 CV
  repeat (first|refine qc ?_|refine qe ?_|refine qs ?_|refine qq ?_|refine qn ?_|refine qy ?_|refine qf ?_|refine ql ?_|refine qi ?_|refine qw ?_|refine qx ?_|refine qr ?_)
  refine KL.told (v:=.agg #[.bool false,.string ⟨#[]⟩,.string ⟨#[]⟩,.int .i64 0,.int .i64 0]) rfl rfl rfl (fun ρ hρ=>by skip;simp only [execOp];go_simp;first|done|rfl) ?_
  have CP:=Lib.hid (Hr.out.turn1 0 rfl (fun G hG hp=>co_apply w12 G N g x (-1) 1 ⟨false,⟨#[]⟩,⟨#[]⟩,⟨0,0⟩⟩ hp (Hm.out.ok.ok (by have:=Hla.out.1;omega)) (by decide)))
  rw [neg_apply x (-1) (by omega)] at CP
  repeat (first|refine qc ?_|refine qe ?_|refine qs ?_|refine qq ?_|refine qn ?_|refine qy ?_|refine qf ?_|refine ql ?_|refine qi ?_|refine qw ?_|refine qx ?_|refine qr ?_)
  refine KL.call rfl rfl rfl rfl rfl (by go_simp) (CP.out) ?_
  rintro e w14 ⟨rfl,hr14⟩;refine ⟨_,rfl,?_⟩;have Hr14:Hid (Run W (fun b=>b<W.heap.size) w14 [coC N g x,oldC W,blkC g11 32 (q.cells qA q.ops.length qcp)]):=Lib.hid hr14;clear hr14 CP Hr
  repeat (first|refine qc ?_|refine qe ?_|refine qs ?_|refine qq ?_|refine qn ?_|refine qy ?_|refine qf ?_|refine ql ?_|refine qi ?_|refine qw ?_|refine qx ?_|refine qr ?_)
  refine KL.call rfl rfl rfl rfl rfl (by go_simp) (first27 w14) ?_
  rintro e w15 ⟨rfl,hk15⟩;refine ⟨_,rfl,?_⟩
  repeat (first|refine qc ?_|refine qe ?_|refine qs ?_|refine qq ?_|refine qn ?_|refine qy ?_|refine qf ?_|refine ql ?_|refine qi ?_|refine qw ?_|refine qx ?_|refine qr ?_)
  refine KR.fin1 Tryz.results4 rfl ⟨rfl,(Hr14.out.old_pure (i:=1) rfl).same hk15⟩
 have h0:¬x.find t n = -1:=by omega
 obtain ⟨id,x1,x2,x4,hfi,D,ok1,ok2,ok4,iv1,iv2,iv4⟩:=dead_yes Hm.out (by have:=Hla.out.1;have:=of_decide_eq_false hb3;unfold maxTok;omega) who h0
 have HD:=Lib.hid D;have Ok1:=Lib.hid ok1;have Ok2:=Lib.hid ok2;have Ok4:=Lib.hid ok4;have Iv1:=Lib.hid iv1;have Iv2:=Lib.hid iv2;have Iv4:=Lib.hid iv4;have hi60:i≤60:=by have:=Hla.out.1;omega
 rw [hfi] at CF;clear hneg h0 hfi D ok1 ok2 ok4 iv1 iv2 iv4 hil;have hid0:decide ((id:Int)<0)=false:=by simp
 refine KL.call rfl rfl rfl rfl rfl (by go_simp) (CF.out) ?_
 rintro e w10 ⟨rfl,hkx⟩;refine ⟨_,rfl,?_⟩;have Hr':=Lib.hid (Hr.out.pure hkx);clear Hr hkx;have Hr:=Hr';clear Hr';clear CF
 repeat (first|refine qc ?_|refine qe ?_|refine qs ?_|refine qq ?_|refine qn ?_|refine qy ?_|refine qf ?_|refine ql ?_|refine qi ?_|refine qw ?_|refine qx ?_|refine qr ?_)
 have CV:=Lib.hid (co_alive w10 _ N g x id (Hr.out.get (P:=coC N g x) 0 rfl));rw [HD.out.a1] at CV;refine KL.call rfl rfl rfl rfl rfl (by go_simp) (CV.out) ?_
 rintro e w11 ⟨rfl,e11⟩;refine ⟨_,rfl,?_⟩;obtain rfl:=e11.symm;clear e11 CV
 repeat (first|refine qc ?_|refine qe ?_|refine qs ?_|refine qq ?_|refine qn ?_|refine qy ?_|refine qf ?_|refine ql ?_|refine qi ?_|refine qw ?_|refine qx ?_|refine qr ?_)
 have CL:=Lib.hid (Hr.out.turn1 0 rfl (fun G hG hp=>co_lock w10 G N g x id who true hp (fun p hp=>by have:=(Hm.out.ok.pl p hp).2.1;omega)))
 rw [HD.out.a2] at CL;refine KL.call rfl rfl rfl rfl rfl (by go_simp) (CL.out) ?_
 rintro e w11 ⟨rfl,hr11⟩;refine ⟨_,rfl,?_⟩;have Hr11:Hid (Run W (fun b=>b<W.heap.size) w11 [coC N g x1,oldC W,blkC g11 32 (q.cells qA q.ops.length qcp)]):=Lib.hid hr11;clear hr11 CL Hr;have Hr:=Hr11;clear Hr11
 repeat (first|refine qc ?_|refine qe ?_|refine qs ?_|refine qq ?_|refine qn ?_|refine qy ?_|refine qf ?_|refine ql ?_|refine qi ?_|refine qw ?_|refine qx ?_|refine qr ?_)
 have CH:=Lib.hid (show Calls Tryz.prog 22 _ w11 _ from co_held w11 _ N g x1 id who (Hr.out.get (P:=coC N g x1) 0 rfl) (fun p hp=>by have:=(Ok1.out.pl p hp).2.1;omega))
 rw [HD.out.a3] at CH;refine KL.call rfl rfl rfl rfl rfl (by go_simp) (CH.out) ?_
 rintro e w12 ⟨rfl,hkx⟩;refine ⟨_,rfl,?_⟩;have Hr':=Lib.hid (Hr.out.pure hkx);clear Hr hkx;have Hr:=Hr';clear Hr';clear CH
 repeat (first|refine qc ?_|refine qe ?_|refine qs ?_|refine qq ?_|refine qn ?_|refine qy ?_|refine qf ?_|refine ql ?_|refine qi ?_|refine qw ?_|refine qx ?_|refine qr ?_)
 refine KL.told (v:=.agg #[.int .i64 3,.string ⟨#[]⟩,.string n,.string ⟨#[]⟩,.string ⟨#[]⟩,.int .i64 0,.int .i64 0,.slice none 0 0,.int .i64 0,.int .i64 0,.int .i64 0]) rfl rfl rfl (fun ρ hρ=>by have e:=hρ (.tmp 143) _ rfl;have e':=hρ (.const (.int .i64 3)) _ rfl;simp only [execOp];go_simp;first|done|rfl) ?_
 have CW:=Run.work (q:=dropQ n) (r:=(x1.work id (dropQ n)).1) (x':=(x1.work id (dropQ n)).2) Hr.out (fun G a' hl h=>co_work w12 G N g a' x1 id (dropQ n) none 0 0 (oldC W) hl h (Ok1.out.ok (by omega)) (by omega) (Nat.zero_le _) (by omega) (by omega) (fun o ho=>by cases ho) Iv1.out.ut (by show (0:Int)≤_;omega) (fun w G h=>Sl.nil _ _ _ _))
 rw [HD.out.a4] at CW;have CW:=Lib.hid CW
 repeat (first|refine qc ?_|refine qe ?_|refine qs ?_|refine qq ?_|refine qn ?_|refine qy ?_|refine qf ?_|refine ql ?_|refine qi ?_|refine qw ?_|refine qx ?_|refine qr ?_)
 refine KL.call rfl rfl rfl rfl rfl (by go_simp) (CW.out) ?_
 rintro e w13 ⟨B13,c13,rfl,hr13⟩;refine ⟨_,rfl,?_⟩;have Hr13:Hid (Run W (fun b=>b<W.heap.size) w13 [coC (N+2) g x2,oldC W,blkC g11 32 (q.cells qA q.ops.length qcp)]):=Lib.hid (hr13.drop 2);clear hr13 CW Hr;have Hr:=Hr13;clear Hr13
 repeat (first|refine qc ?_|refine qe ?_|refine qs ?_|refine qq ?_|refine qn ?_|refine qy ?_|refine qf ?_|refine ql ?_|refine qi ?_|refine qw ?_|refine qx ?_|refine qr ?_)
 have hra:=Hr.out.addBlk zR 45;simp only [zR] at hra;refine KL.makes (v:=.pointer (some ⟨World.heap w13 |>.size,0,none⟩)) rfl rfl rfl (fun ρ hρ=>by simp only [execOp];go_simp;first|done|rfl) ?_
 generalize World.alloc w13 _=w14 at *;generalize (World.heap w13).size=g17 at *;refine KL.storeB rfl rfl rfl rfl rfl (hra.blk 0 rfl) rfl (by kernel_rfl) (by kernel_rfl) ?_
 intro w15 hbx hkx;have hrb:=hra.turn 0 rfl hbx hkx;have Hr':=Lib.hid (Run.perm hrb (List.perm_middle (l₁:=[_,_])).symm);clear Hr hra hbx hkx hrb;have Hr:=Hr';clear Hr'
 repeat (first|refine qc ?_|refine qe ?_|refine qs ?_|refine qq ?_|refine qn ?_|refine qy ?_|refine qf ?_|refine ql ?_|refine qi ?_|refine qw ?_|refine qx ?_|refine qr ?_)
 have hc11:=(Hr.out.blk 3 rfl).cell
 repeat (first|refine qc ?_|refine qe ?_|refine qs ?_|refine qq ?_|refine qn ?_|refine qy ?_|refine qf ?_|refine ql ?_|refine qi ?_|refine qw ?_|refine qx ?_|refine qr ?_)
 have CW:=Run.work (q:=q) (r:=(x2.work id q).1) (x':=(x2.work id q).2) Hr.out (fun G a' hl h=>co_work w15 G (N+2) g a' x2 id q qA q.ops.length qcp (oldC W) hl h (Ok2.out.ok (by omega)) (by omega) (by have:=Hll.out.2.1.card;omega) (by have:=Hll.out.2.2.2;omega) Hq.out.lc (fun o ho=>by have:=(Hll.out.2.1.ops o ho).2;omega) Iv2.out.ut Hq.out.fit.2.2.2.2.2.2.2.2.2.1.2 (fun w G h=>old_sl h Hq.out.ops))
 rw [HD.out.a5 q] at CW;have CW:=Lib.hid CW
 repeat (first|refine qc ?_|refine qe ?_|refine qs ?_|refine qq ?_|refine qn ?_|refine qy ?_|refine qf ?_|refine ql ?_|refine qi ?_|refine qw ?_|refine qx ?_|refine qr ?_)
 refine KL.call rfl rfl rfl rfl rfl (by go_simp) (CW.out) ?_
 rintro e w16 ⟨B16,c16,rfl,hr16⟩;refine ⟨_,rfl,?_⟩;have Hr16:Hid (Run W (fun b=>b<W.heap.size) w16 [coC (N+4) g x2,oldC W,blkC g17 45 (rspA 3 0 (x.counter+1) 0 ⟨#[]⟩ 0 false none 0 0),blkC g11 32 (q.cells qA q.ops.length qcp)]):=Lib.hid (hr16.drop 2);clear hr16 CW Hr hc11;have Hr:=Hr16;clear Hr16
 repeat (first|refine qc ?_|refine qe ?_|refine qs ?_|refine qq ?_|refine qn ?_|refine qy ?_|refine qf ?_|refine ql ?_|refine qi ?_|refine qw ?_|refine qx ?_|refine qr ?_)
 have hra:=Hr.out.addBlk zR 45;simp only [zR] at hra;refine KL.makes (v:=.pointer (some ⟨World.heap w16 |>.size,0,none⟩)) rfl rfl rfl (fun ρ hρ=>by simp only [execOp];go_simp;first|done|rfl) ?_
 generalize World.alloc w16 _=w17 at *;generalize (World.heap w16).size=g19 at *;refine KL.storeB rfl rfl rfl rfl rfl (hra.blk 0 rfl) rfl (by kernel_rfl) (by kernel_rfl) ?_
 intro w18 hbx hkx;have hrb:=hra.turn 0 rfl hbx hkx;have Hr':=Lib.hid (Run.perm hrb (List.perm_middle (l₁:=[_,_])).symm);clear Hr hra hbx hkx hrb;have Hr:=Hr';clear Hr';have hc19:=(Hr.out.blk 2 rfl).cell;have hc17:=(Hr.out.blk 3 rfl).cell
 repeat (first|refine qc ?_|refine qe ?_|refine qs ?_|refine qq ?_|refine qn ?_|refine qy ?_|refine qf ?_|refine ql ?_|refine qi ?_|refine qw ?_|refine qx ?_|refine qr ?_)
 have CV:=Lib.hid (co_alive w18 _ (N+4) g x2 id (Hr.out.get (P:=coC (N+4) g x2) 0 rfl));rw [HD.out.a6] at CV;refine KL.call rfl rfl rfl rfl rfl (by go_simp) (CV.out) ?_
 rintro e w19 ⟨rfl,e19⟩;refine ⟨_,rfl,?_⟩;obtain rfl:=e19.symm;clear e19 CV
 repeat (first|refine qc ?_|refine qe ?_|refine qs ?_|refine qq ?_|refine qn ?_|refine qy ?_|refine qf ?_|refine ql ?_|refine qi ?_|refine qw ?_|refine qx ?_|refine qr ?_)
 have CF:=Lib.hid (show Calls Tryz.prog 13 _ w18 _ from co_find w18 _ (N+4) g x2 t n (Hr.out.get (P:=coC (N+4) g x2) 0 rfl) (by have:=of_decide_eq_false hb1;omega) (by have:=of_decide_eq_false hb2;omega))
 rw [HD.out.a7] at CF;clear hc19 hc17;refine KL.call rfl rfl rfl rfl rfl (by go_simp) (CF.out) ?_
 rintro e w19 ⟨rfl,hkx⟩;refine ⟨_,rfl,?_⟩;have Hr':=Lib.hid (Hr.out.pure hkx);clear Hr hkx;have Hr:=Hr';clear Hr';have hc19:=(Hr.out.blk 2 rfl).cell;have hc17:=(Hr.out.blk 3 rfl).cell;clear CF
 repeat (first|refine qc ?_|refine qe ?_|refine qs ?_|refine qq ?_|refine qn ?_|refine qy ?_|refine qf ?_|refine ql ?_|refine qi ?_|refine qw ?_|refine qx ?_|refine qr ?_)
 have CH:=Lib.hid (show Calls Tryz.prog 22 _ w19 _ from co_held w19 _ (N+4) g x2 id who (Hr.out.get (P:=coC (N+4) g x2) 0 rfl) (fun p hp=>by have:=(Ok2.out.pl p hp).2.1;omega))
 rw [HD.out.a8] at CH;clear hc19 hc17;refine KL.call rfl rfl rfl rfl rfl (by go_simp) (CH.out) ?_
 rintro e w20 ⟨rfl,hkx⟩;refine ⟨_,rfl,?_⟩;have Hr':=Lib.hid (Hr.out.pure hkx);clear Hr hkx;have Hr:=Hr';clear Hr';clear CH
 repeat (first|refine qc ?_|refine qe ?_|refine qs ?_|refine qq ?_|refine qn ?_|refine qy ?_|refine qf ?_|refine ql ?_|refine qi ?_|refine qw ?_|refine qx ?_|refine qr ?_)
 have CC:=Hr.out.turn1 0 rfl (fun G hG hp=>co_create w20 G (N+4) g x2 t n hp (Ok2.out.ok (by omega)) (by omega) (by have:=of_decide_eq_false hb1;omega) (by have:=of_decide_eq_false hb2;omega))
 rw [HD.out.a9] at CC;have CC:=Lib.hid CC;refine KL.call rfl rfl rfl rfl rfl (by go_simp) (CC.out) ?_
 rintro e w21 ⟨rfl,hr21⟩;refine ⟨_,rfl,?_⟩;have Hr21:Hid (Run W (fun b=>b<W.heap.size) w21 [coC (N+6) g x4,oldC W,blkC g19 45 (rspA q.kind 4 0 0 ⟨#[]⟩ 0 false none 0 0),blkC g17 45 (rspA 3 0 (x.counter+1) 0 ⟨#[]⟩ 0 false none 0 0),blkC g11 32 (q.cells qA q.ops.length qcp)]):=Lib.hid hr21;clear hr21 CC Hr;have Hr:=Hr21;clear Hr21
 repeat (first|refine qc ?_|refine qe ?_|refine qs ?_|refine qq ?_|refine qn ?_|refine qy ?_|refine qf ?_|refine ql ?_|refine qi ?_|refine qw ?_|refine qx ?_|refine qr ?_)
 have hra:=Hr.out.addBlk zR 45;simp only [zR] at hra;refine KL.makes (v:=.pointer (some ⟨World.heap w21 |>.size,0,none⟩)) rfl rfl rfl (fun ρ hρ=>by simp only [execOp];go_simp;first|done|rfl) ?_
 generalize World.alloc w21 _=w22 at *;generalize (World.heap w21).size=g21 at *;refine KL.storeB rfl rfl rfl rfl rfl (hra.blk 0 rfl) rfl (by kernel_rfl) (by kernel_rfl) ?_
 intro w23 hbx hkx;have hrb:=hra.turn 0 rfl hbx hkx;have Hr':=Lib.hid (Run.perm hrb (List.perm_middle (l₁:=[_,_])).symm);clear Hr hra hbx hkx hrb;have Hr:=Hr';clear Hr'
 repeat (first|refine qc ?_|refine qe ?_|refine qs ?_|refine qq ?_|refine qn ?_|refine qy ?_|refine qf ?_|refine ql ?_|refine qi ?_|refine qw ?_|refine qx ?_|refine qr ?_)
 have CF:=Lib.hid (show Calls Tryz.prog 13 _ w23 _ from co_find w23 _ (N+6) g x4 t n (Hr.out.get (P:=coC (N+6) g x4) 0 rfl) (by have:=of_decide_eq_false hb1;omega) (by have:=of_decide_eq_false hb2;omega))
 rw [HD.out.b1] at CF;refine KL.call rfl rfl rfl rfl rfl (by go_simp) (CF.out) ?_
 rintro e w24 ⟨rfl,hkx⟩;refine ⟨_,rfl,?_⟩;have Hr':=Lib.hid (Hr.out.pure hkx);clear Hr hkx;have Hr:=Hr';clear Hr';clear CF;have hc21:=(Hr.out.blk 2 rfl).cell;have hc17:=(Hr.out.blk 4 rfl).cell;have hct:=Hm.out.ok.ct;have hcm:x.counter+2≤9223372036854775807:=by have:=Hm.out.ct;have:=of_decide_eq_false hb3;have:=Hla.out.1;omega
 have Hct:=Lib.hid hct;have Hcm:=Lib.hid hcm;clear hct hcm
 repeat (first|refine qc ?_|refine qe ?_|refine qs ?_|refine qq ?_|refine qn ?_|refine qy ?_|refine qf ?_|refine ql ?_|refine qi ?_|refine qw ?_|refine qx ?_|refine qr ?_)
 refine KL.add (x.counter+2) rfl rfl rfl rfl rfl rfl (by have:=Hcm.out;have:=Hct.out;omega) (by omega) ?_
 have heq:(!decide (x.counter+2=x.counter+2))=false:=by simp
 have hle:decide (((x.pls.length:Nat):Int)≤(id:Int))=false:=by have:=HD.out.lt;simp;omega
 repeat (first|refine qc ?_|refine qe ?_|refine qs ?_|refine qq ?_|refine qn ?_|refine qy ?_|refine qf ?_|refine ql ?_|refine qi ?_|refine qw ?_|refine qx ?_|refine qr ?_)
 have CV:=Lib.hid (co_alive w24 _ (N+6) g x4 x.pls.length (Hr.out.get (P:=coC (N+6) g x4) 0 rfl));rw [HD.out.b2] at CV;refine KL.call rfl rfl rfl rfl rfl (by go_simp) (CV.out) ?_
 rintro e w25 ⟨rfl,e25⟩;refine ⟨_,rfl,?_⟩;obtain rfl:=e25.symm;clear e25 CV
 repeat (first|refine qc ?_|refine qe ?_|refine qs ?_|refine qq ?_|refine qn ?_|refine qy ?_|refine qf ?_|refine ql ?_|refine qi ?_|refine qw ?_|refine qx ?_|refine qr ?_)
 have CH:=Lib.hid (show Calls Tryz.prog 22 _ w24 _ from co_held w24 _ (N+6) g x4 x.pls.length who (Hr.out.get (P:=coC (N+6) g x4) 0 rfl) (fun p hp=>by have:=(Ok4.out.pl p hp).2.1;omega))
 rw [HD.out.b3] at CH;clear hc21 hc17;refine KL.call rfl rfl rfl rfl rfl (by go_simp) (CH.out) ?_
 rintro e w25 ⟨rfl,hkx⟩;refine ⟨_,rfl,?_⟩;have Hr':=Lib.hid (Hr.out.pure hkx);clear Hr hkx;have Hr:=Hr';clear Hr';clear CH
 repeat (first|refine qc ?_|refine qe ?_|refine qs ?_|refine qq ?_|refine qn ?_|refine qy ?_|refine qf ?_|refine ql ?_|refine qi ?_|refine qw ?_|refine qx ?_|refine qr ?_)
 refine KL.told (v:=.agg #[.int .i64 8,.string ⟨#[]⟩,.string n,.string ⟨#[]⟩,.string ⟨#[]⟩,.int .i64 0,.int .i64 0,.slice none 0 0,.int .i64 0,.int .i64 1,.int .i64 0]) rfl rfl rfl (fun ρ hρ=>by have e:=hρ (.tmp 227) _ rfl;have e':=hρ (.const (.int .i64 8)) _ rfl;have e'':=hρ (.const (.int .i64 1)) _ rfl;simp only [execOp];go_simp;first|done|rfl) ?_
 have CW:=Run.work (q:=deltaQ n) (r:=(x4.work x.pls.length (deltaQ n)).1) (x':=(x4.work x.pls.length (deltaQ n)).2) Hr.out (fun G a' hl h=>co_work w25 G (N+6) g a' x4 x.pls.length (deltaQ n) none 0 0 (oldC W) hl h (Ok4.out.ok (by omega)) (by omega) (Nat.zero_le _) (by omega) (by omega) (fun o ho=>by cases ho) Iv4.out.ut (by show (1:Int)≤_;omega) (fun w G h=>Sl.nil _ _ _ _))
 rw [HD.out.b4.1,HD.out.b4.2] at CW;have CW:=Lib.hid CW
 repeat (first|refine qc ?_|refine qe ?_|refine qs ?_|refine qq ?_|refine qn ?_|refine qy ?_|refine qf ?_|refine ql ?_|refine qi ?_|refine qw ?_|refine qx ?_|refine qr ?_)
 refine KL.call rfl rfl rfl rfl rfl (by go_simp) (CW.out) ?_
 rintro e w26 ⟨B26,c26,rfl,hr26⟩;refine ⟨_,rfl,?_⟩;have Hr26:=Lib.hid (hr26.drop 2);clear hr26 CW Hr;have Hr:=Hr26;clear Hr26
 repeat (first|refine qc ?_|refine qe ?_|refine qs ?_|refine qq ?_|refine qn ?_|refine qy ?_|refine qf ?_|refine ql ?_|refine qi ?_|refine qw ?_|refine qx ?_|refine qr ?_)
 have hra:=Hr.out.addBlk zR 45;simp only [zR] at hra;refine KL.makes (v:=.pointer (some ⟨World.heap w26 |>.size,0,none⟩)) rfl rfl rfl (fun ρ hρ=>by simp only [execOp];go_simp;first|done|rfl) ?_
 generalize World.alloc w26 _=w27 at *;generalize (World.heap w26).size=g23 at *;refine KL.storeB rfl rfl rfl rfl rfl (hra.blk 0 rfl) rfl (by kernel_rfl) (by kernel_rfl) ?_
 intro w28 hbx hkx;have hrb:=hra.turn 0 rfl hbx hkx;have Hr':=Lib.hid (Run.perm hrb (List.perm_middle (l₁:=[_,_])).symm);clear Hr hra hbx hkx hrb;have Hr:=Hr';clear Hr'
 repeat (first|refine qc ?_|refine qe ?_|refine qs ?_|refine qq ?_|refine qn ?_|refine qy ?_|refine qf ?_|refine ql ?_|refine qi ?_|refine qw ?_|refine qx ?_|refine qr ?_)
 have CH:=Lib.hid (show Calls Tryz.prog 22 _ w28 _ from co_held w28 _ (N+6+2) g x4 id who (Hr.out.get (P:=coC (N+6+2) g x4) 0 rfl) (fun p hp=>by have:=(Ok4.out.pl p hp).2.1;omega))
 rw [HD.out.b5] at CH;refine KL.call rfl rfl rfl rfl rfl (by go_simp) (CH.out) ?_
 rintro e w29 ⟨rfl,hkx⟩;refine ⟨_,rfl,?_⟩;have Hr':=Lib.hid (Hr.out.pure hkx);clear Hr hkx;have Hr:=Hr';clear Hr';clear CH
 repeat (first|refine qc ?_|refine qe ?_|refine qs ?_|refine qq ?_|refine qn ?_|refine qy ?_|refine qf ?_|refine ql ?_|refine qi ?_|refine qw ?_|refine qx ?_|refine qr ?_)
 have CV:=Lib.hid (co_alive w29 _ (N+6+2) g x4 id (Hr.out.get (P:=coC (N+6+2) g x4) 0 rfl));rw [HD.out.b6] at CV;refine KL.call rfl rfl rfl rfl rfl (by go_simp) (CV.out) ?_
 rintro e w30 ⟨rfl,e30⟩;refine ⟨_,rfl,?_⟩;obtain rfl:=e30.symm;clear e30 CV
 repeat (first|refine qc ?_|refine qe ?_|refine qs ?_|refine qq ?_|refine qn ?_|refine qy ?_|refine qf ?_|refine ql ?_|refine qi ?_|refine qw ?_|refine qx ?_|refine qr ?_)
 refine KR.fin1 Tryz.results4 rfl ⟨rfl,Hr.out.old_pure (i:=1) rfl⟩
end
section
open Go.RowKit Go.PlainAid
section
variable {H:Type} {enc:TypeId×Value→H} {W:World}
theorem open_quota {cs:List Value} (h:Tr enc Tryz.prog W 23 cs):∃ z:Qt,cs=[.int .i64 z.cols,.int .i64 z.cards,.int .i64 z.bytes,.int .i64 z.log]:=by
 obtain ⟨hl,hf⟩:=h.fields Tryz.underlying23;obtain ⟨a,e0,b0⟩:=(hf 0 _ rfl).int Tryz.underlying3;obtain ⟨b,e1,b1⟩:=(hf 1 _ rfl).int Tryz.underlying3;obtain ⟨c,e2,b2⟩:=(hf 2 _ rfl).int Tryz.underlying3;obtain ⟨d,e3,b3⟩:=(hf 3 _ rfl).int Tryz.underlying3;have hl:cs.length=4:=hl;have h1:=pcs_zero (cs:=cs) (ks:=[1,1,1,1]) hl;simp only [pcs] at h1;refine ⟨⟨a,b,c,d⟩,?_⟩;rw [h1];have e0:(cs.drop 0).take 1=_:=e0
 have e1:(cs.drop (0+1)).take 1=_:=e1;have e2:(cs.drop (0+1+1)).take 1=_:=e2;have e3:(cs.drop (0+1+1+1)).take 1=_:=e3;rw [e0,e1,e2,e3];rfl
theorem open_confV {r0:Reach} {b0:Nat} {v:Value} {d:DataW H} {p:List MemPlace} (hv:Value.okWide Tryz.prog W r0 b0 25 v) (h:DataW.Trod enc Tryz.prog W 0 (fun _=>true) true 25 v d p) :
  ∃ c:Cf,v=c.val∧c.start≤maxTok:=by
 obtain ⟨cs,rfl,ht⟩:=Tr.struct Tryz.underlying25 hv h;obtain ⟨hl,hf⟩:=ht.fields Tryz.underlying25;obtain ⟨a0,e0,b0⟩:=(hf 0 _ rfl).int Tryz.underlying3;obtain ⟨a1,e1,b1⟩:=(hf 1 _ rfl).int Tryz.underlying2;obtain ⟨a2,e2,b2⟩:=(hf 2 _ rfl).int Tryz.underlying3;obtain ⟨a3,e3,b3⟩:=(hf 3 _ rfl).int Tryz.underlying3;obtain ⟨a4,e4⟩:=open_quota (hf 4 _ rfl);have hl:cs.toList.length=8:=hl;have h1:=pcs_zero (cs:=cs.toList) (ks:=[1,1,1,1,4]) hl
 simp only [pcs] at h1;refine ⟨⟨a0,a1,a2,a3,a4⟩,?_,b1.2⟩;unfold Cf.val
 congr 1
 refine Array.toList_inj.1 ?_;rw [h1];have e0:(cs.toList.drop 0).take 1=_:=e0;have e1:(cs.toList.drop (0+1)).take 1=_:=e1;have e2:(cs.toList.drop (0+1+1)).take 1=_:=e2;have e3:(cs.toList.drop (0+1+1+1)).take 1=_:=e3;have e4:(cs.toList.drop (0+1+1+1+1)).take 4=_:=e4;rw [e0,e1,e2,e3,e4];rfl
end
theorem coreDead_top (c:Cf) (A:Option Addr) (cpl:Nat) (l:List AsA) (t n:ByteArray) (who:Int) (q:RqA) (W:World) (hc:c.start≤maxTok) (hs:Sl W (Lt W) 12 A l.length (l.flatMap AsA.cells)) (_:l.length≤cpl) (_:cpl≤maxLen) (hok:∀ a∈l,a.Ok W) (_:t.size≤maxLen) (_:n.size≤maxLen) (_:(Lit.int .i64 who).wf=true) (hq:q.Ok W) :
  Calls Tryz.prog 4 #[c.val,.slice A l.length cpl,.string t,.string n,.int .i64 who,.agg q.row] W (TruW W):=dead_any c l A cpl t n who q W hs hok hq hc
end
end Go.Proofs.YtjfpfeapbcjioaaGreat
