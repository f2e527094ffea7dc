/-
  The texts of this claim, put together: ClQ, ClR, ClX, ClP.
-/
import Derived.LoopTactic
import Derived.Deep.QuietTactic
import Derived.BigQuiet
import Derived.Carry
import Derived.Test.YtjfpfeapbcjioaaGreatZClN
import Derived.Test.YtjfpfeapbcjioaaGreatZCr
set_option linter.unusedSimpArgs false
set_option linter.unusedVariables false
set_option maxHeartbeats 12800000
set_option maxRecDepth 100000
namespace Go.Proofs.YtjfpfeapbcjioaaGreat
section
open Go.RowKit
attribute [local go_sem] Oper.semAt_some
theorem SeenM.obj {W:World} {b:Nat} {us:List ByteArray} (h:SeenM W b us):∃ o:Obj,W.heap[b]? = some o∧o.isCells=false:=by
 obtain ⟨D,⟨es,clock,hb,_⟩,_⟩:=h;exact ⟨_,hb,rfl⟩
abbrev Ux:={ x:Cg // x.uid.size≤1000000 }
def SnI (c:Cl) (token:Int) (N:Nat) (W0:World) (pre:List Ux) (W:World):Prop :=
 (∃ A cp,Blk W (N+2) 43 #[.slice A (c.foldS token (pre.map (·.1))).2.length cp]∧Own W (fun b=>N+6≤b) 55 4 (.slice A (c.foldS token (pre.map (·.1))).2.length cp) (c.foldS token (pre.map (·.1))).2.length (itc (c.foldS token (pre.map (·.1))).2)) ∧
 SeenM W (N+3) ((pre.map (·.1)).map (·.uid))∧Kept (fun b=>b=N+2∨b=N+3∨N+6≤b) W0 W
theorem SnI.own (c:Cl) (token:Int) (N:Nat) (W0:World):OwnFrom (N+6) (SnI c token N W0):=by
 rintro pre X Y row ⟨⟨A,cp,h1,h2⟩,h3,h4⟩ hg hr;refine ⟨⟨A,cp,h1.grown hg (fun r e=>(hr r e).2),h2.grown hg (fun r e=>(hr r e).2)⟩,h3.grown hg (fun e=>?_),h4.grown hg (fun k e=>?_)⟩
 ·have:=(hr (N+3) e.symm).1;omega
 ·exact .inl (.inr (.inr (hr k e).1))
def snW (w:World) (g gl:Nat) (token:Int) (nq:Nat):World:=((((((w.alloc (.cells #[pV g] 110)).alloc (.cells #[.int .i64 token] 2)).alloc (.cells #[.slice none 0 0] 43)).drewN nq).alloc (.map #[] 0)).alloc (.cells #[.map (some (w.heap.size+1+1+1))] 247)).alloc (.cells #[pV gl] 176)
structure SnW (w:World) (g gl:Nat) (token:Int) (N:Nat) (W0:World):Prop where
 pure:Pure w W0
 size:W0.heap.size=N+6
 bC:Blk W0 N 110 #[pV g]
 bT:Blk W0 (N+1) 2 #[.int .i64 token]
 bO:Blk W0 (N+2) 43 #[.slice none 0 0]
 bM:SeenM W0 (N+3) []
 bV:Blk W0 (N+4) 247 #[.map (some (N+3))]
 bB:Blk W0 (N+5) 176 #[pV gl]
theorem snW_ok (w:World) (g gl:Nat) (token:Int) (nq N:Nat) (hN:w.heap.size=N):SnW w g gl token N (snW w g gl token nq):=by
 unfold snW;obtain ⟨X1,hX1⟩:∃ X,w.alloc (.cells #[pV g] 110)=X:=⟨_,rfl⟩;have s1:X1.heap.size=N+1:=by rw [←hX1,World.size_alloc,hN]
 have b1:Blk X1 N 110 #[pV g]:=by rw [←hX1,←hN];exact Blk.new w _ _
 have p1:Pure w X1:=by rw [←hX1];exact (Kept.refl _ _).alloc _
 rw [hX1];obtain ⟨X2,hX2⟩:∃ X,X1.alloc (.cells #[.int .i64 token] 2)=X:=⟨_,rfl⟩;have s2:X2.heap.size=N+2:=by rw [←hX2,World.size_alloc,s1]
 have b2:Blk X2 (N+1) 2 #[.int .i64 token]:=by rw [←hX2,←s1];exact Blk.new X1 _ _
 have p2:Pure X1 X2:=by rw [←hX2];exact (Kept.refl _ _).alloc _
 rw [hX2];obtain ⟨X3,hX3⟩:∃ X,X2.alloc (.cells #[.slice none 0 0] 43)=X:=⟨_,rfl⟩;have s3:X3.heap.size=N+3:=by rw [←hX3,World.size_alloc,s2]
 have b3:Blk X3 (N+2) 43 #[.slice none 0 0]:=by rw [←hX3,←s2];exact Blk.new X2 _ _
 have p3:Pure X2 X3:=by rw [←hX3];exact (Kept.refl _ _).alloc _
 rw [hX3];obtain ⟨X4,hX4⟩:∃ X,X3.drewN nq=X:=⟨_,rfl⟩;have s4:X4.heap.size=N+3:=by rw [←hX4,←s3];rfl
 have p4:Pure X3 X4:=by rw [←hX4];exact (Kept.refl _ _).drewN _
 rw [hX4];obtain ⟨X5,hX5⟩:∃ X,X4.alloc (.map #[] 0)=X:=⟨_,rfl⟩;have s5:X5.heap.size=N+4:=by rw [←hX5,World.size_alloc,s4]
 have b5:SeenM X5 (N+3) []:=by rw [←hX5,←s4];exact SeenM.new X4
 have p5:Pure X4 X5:=by rw [←hX5];exact (Kept.refl _ _).alloc _
 rw [hX5,hN];obtain ⟨X6,hX6⟩:∃ X,X5.alloc (.cells #[.map (some (N+1+1+1))] 247)=X:=⟨_,rfl⟩;have s6:X6.heap.size=N+5:=by rw [←hX6,World.size_alloc,s5]
 have b6:Blk X6 (N+4) 247 #[.map (some (N+3))]:=by rw [←hX6,←s5];exact Blk.new X5 _ _
 have p6:Pure X5 X6:=by rw [←hX6];exact (Kept.refl _ _).alloc _
 rw [hX6];have p7:Pure X6 (X6.alloc (.cells #[pV gl] 176)):=(Kept.refl _ _).alloc _;have q6:=p6.same p7;have q5:=p5.same q6;have q4:=p4.same q5;have q3:=p3.same q4;have q2:=p2.same q3;exact ⟨p1.same q2,by rw [World.size_alloc,s6],b1.kept q2 (fun h=>h),b2.kept q3 (fun h=>h),b3.kept q4 (fun h=>h),b5.kept q6 (fun h=>h),b6.kept p7 (fun h=>h),by rw [←s6];exact Blk.new X6 _ _⟩
theorem cl_since2 (w:World) (F:Nat→Prop) (g:Nat) (c:Cl) (token:Int) (h:ClM w F g c) (hok:c.Ok) (ht0:(token == 0)=false) (ht1:(token<c.horizon)=False) (ht2:(c.latest<token)=False) (hut:∀ x∈c.log,x.uid.size≤1000000):Calls Tryz.prog 126 #[pV g,.int .i64 token] w fun e w' =>
  ∃ A cp,e = .returned (.tuple #[.slice A (c.foldS token c.log.reverse).2.length cp,.int .i64 0])∧Own w' (fun b=>w.heap.size≤b) 55 4 (.slice A (c.foldS token c.log.reverse).2.length cp) (c.foldS token c.log.reverse).2.length (itc (sortI (c.foldS token c.log.reverse).2))∧Pure w w':=by
 have h0:=h;obtain ⟨gc,gl,h⟩:=h;obtain ⟨N,hN⟩:∃ N,w.heap.size=N:=⟨_,rfl⟩;have hr:=Run.start h;have hlog:=hok.lg;have hri:Ri w (fun b=>b<N) gl c.lmost c.log:=(riC gl c.lmost c.log).imp (hr.get (P:=riC gl c.lmost c.log) 2 rfl) (fun b hb _=>by omega)
 have hcl:ClM w (fun b=>b<N) g c:=(clC g c).imp h0 (fun b hb _=>by omega)
 have hp3:Pure w (((w.alloc (.cells #[pV g] 110)).alloc (.cells #[.int .i64 token] 2)).alloc (.cells #[.slice none 0 0] 43)):=(((Kept.refl _ w).alloc _).alloc _).alloc _;have hcg:=(hr.pure hp3).blk 0 rfl |>.cell;have hcg2:=fun n=>(hr.pure (((hp3.drewN n).alloc (.map #[] 0)).alloc (.cells #[.map (some (w.heap.size+1+1+1))] 247))).blk 0 rfl |>.cell;have hs1:(w.alloc (.cells #[pV g] 110)).heap.size=N+1:=by rw [World.size_alloc,hN]
 have Hri:=hI hri;have Hcl:=hI hcl;have HN:=hI hN;have Hok:=hI hok;obtain ⟨ls,hls⟩:∃ ls:List Ux,ls.map (·.1)=c.log:=⟨c.log.attachWith _ hut,by simp⟩
 have Hls:=hI hls;clear h h0 hr hri hcl hN hs1 hok hut hp3 hls;refine (callsIn_wide (n:=7)).1 ?_;refine callsIn_of_wp_marks Tryz.func126 rfl trivial ?_ rfl;simp only [Tryz.ntmps126,List.size_toArray,List.length_cons,List.length_nil,Nat.reduceAdd,Nat.reduceSub,Array.replicate_succ,Array.replicate_zero,List.push_toArray,List.append_toArray,List.nil_append,List.cons_append];refine wpIn_wide.2 ?_
 go_wp2
 go_quiet (fail)
 have hmm:=@run_makeMap Tryz.prog;go_wp2_with fail;refine (rb_back _ gl).mono ?_;rintro e w' ⟨rfl,rfl⟩;go_wp2;obtain ⟨W0,hW0⟩:∃ W0,snW w g gl token nq=W0:=⟨_,rfl⟩;have hSn:SnW w g gl token N W0:=by rw [←hW0];exact snW_ok w g gl token nq N HN.out
 unfold snW at hW0;rw [hW0,HN.out];have Hsn:=hI hSn;have hst:=rb_stops (fun x:Ux=>x.1) (7-1) (by omega) (N+5) gl (fun b=>b=N+2∨b=N+3∨N+6≤b) (fun b=>b<N) c.lmost ls W0 hSn.bB (by omega) (by rw [Hls.out];exact (riC gl c.lmost c.log).kept Hri.out hSn.pure (fun _ _ _ h=>h)) (by have:=congrArg List.length Hls.out;rw [List.length_map] at this;omega) (fun b h=>by omega)
 have hz0:=hSn.size;clear hW0 hcg hcg2 hSn;refine (wpIn_wide (n:=7)).1 ?_;refine wpIn_rangeFunc_ownH rfl (by omega) (gf:=210) (lb:=#[.pointer (some ⟨N+5,0,none⟩)]) rfl trivial (enters_of Tryz.func210 (by kernel_rfl) rfl) hst kept_t (kept_b (fun b hb=>by omega)) (Below.refl _ _) (fun _=>rfl)
  (SnI c token N W0) (fun _ _ _=>False) (by rw [hz0];exact SnI.own c token N W0) (fun _ _ _ _ _ hs _ _=>hs)
  ⟨⟨none,0,Hsn.out.bO,Own.nil _ _ _ _⟩,Hsn.out.bM,Kept.refl _ _⟩
  (fun x a' W=>∃ be,N+6≤be∧Blk W be 189 #[.int .i64 x.1.token,.string x.1.uid]∧a'=(?act:Ux→Nat→Act) x be)
  ?hAx ?assign ?body ?done ?stop
 case assign =>
  rintro l pre x W K hI hK;simp only [encG];obtain ⟨B,hB⟩:∃ B,W.heap.size=B:=⟨_,rfl⟩;have hsz:=hI.2.2.size
  gi_wp2
  refine hK _ _ ((KeepsOthers.alloc W _).from _) ((Kept.refl _ W).alloc _) ⟨?_,hI.2.1.grown (World.grownBy_alloc W _ none) (by simp),hI.2.2.alloc _⟩ ⟨W.heap.size,by omega,Blk.new W _ _,?_⟩
  ·obtain ⟨A,cp,h1,h2⟩:=hI.1
   exact ⟨A,cp,h1.alloc _,h2.alloc _⟩
  ·rw [hB]
 case hAx =>
  rintro x a' _ A B row ⟨be,h1,h2,h3⟩ hg hr;exact ⟨be,h1,h2.grown hg (fun r e=>(hr r e).2),h3⟩
 case stop =>
  rintro D c pre W _ _ h _;exact h.elim
 case done =>
  rintro D ys W hD rfl ⟨⟨A,cp,hv,hrow⟩,hm,hk⟩ hK;rw [List.map_reverse,Hls.out] at hv hrow;have hll:(c.foldS token c.log.reverse).2.length≤1000:=by
   have h1:=foldS_len c token c.log.reverse;rw [List.length_reverse] at h1;omega
  have hun:=(foldS_uids c token c.log.reverse).1;obtain ⟨L,hL⟩:∃ L,(c.foldS token c.log.reverse).2=L:=⟨_,rfl⟩;rw [hL] at hv hrow hll hun;have hc:=hv.cell;have hapart:¬(Value.slice A L.length cp).ownBlock=some D:=fun h=>by
   have:=own_cells hrow h hK;cases this
  have hbig:∀ b,(Value.slice A L.length cp).ownBlock=some b→N+6≤b:=fun b h=>hrow.2 b h;have hrowF:Own W (fun b=>(Value.slice A L.length cp).ownBlock=some b) 55 4 (.slice A L.length cp) L.length (itc L):=⟨hrow.1,fun b h=>h⟩;have CS:=hI (sort_it W _ A L.length cp L hrowF (by omega) hun)
  have HL:=hI hL;have Hv:=hI hv;have Hkw:=hI (Hsn.out.pure.trans hk (fun i hi h=>by have:=HN.out;omega))
  have HK:=hI hK;have Hapart:=hI hapart;have Hbig:=hI hbig;clear hv hrow hm hk hK hL hun hapart hbig hrowF hmm hst;go_wp2_with fail;refine (CS.out).mono ?_;rintro e w2 ⟨rfl,ho2,hk2⟩;have hv2:=(Hv.out.kept hk2 (fun h=>by have:=Hbig.out _ h;omega))
  have hc2:=hv2.cell;have hK2:w2.heap[D]? = some (.deferred (some [])):=(hk2.block D (Array.getElem?_eq_some_iff.1 HK.out).1 Hapart.out).trans HK.out;have Ho2:=hI ho2;have Hk2:=hI hk2;have HK2:=hI hK2;clear hv2 ho2 hk2 hK2 hc;go_wp2;refine ⟨by simp,.inl ⟨_,_,rfl,run_takeDeferred HK2.out,?_⟩⟩
  have hgr:=grownBy_putObj' w2 D (.deferred none);have hr:∀ r,some D=some r→∃ o:Obj,w2.heap[r]? = some o∧o.isCells=false:=fun r e=>by cases e;exact ⟨_,HK2.out,rfl⟩
  have hkk:Kept (fun b=>N+6≤b) w2 (w2.putObj D (.deferred none)):=(Kept.refl _ w2).grown hgr (fun k e=>by cases e;exact .inl (by omega))
  rw [HL.out];refine ⟨_,?_,A,cp,rfl,(Ho2.out.grown hgr hr).imp (fun b _ h=>by have:=Hbig.out b h;have:=HN.out;omega),?_⟩
  ·exact results_tmp2 (fn:=Tryz.f126) Tryz.results126 _ _ _
  ·exact (Hkw.out.trans Hk2.out (fun i hi h=>by have:=Hbig.out i h;have:=HN.out;omega)).trans hkk (fun i hi h=>by have:=HN.out;omega)
 case body =>
  rintro l pre x a' W _ _ hI ⟨be,hbe,hbb,rfl⟩ hlt;obtain ⟨⟨A,cp,hv,hrow⟩,hm,hk⟩:=hI;have hll:ls.length≤1000:=by have:=congrArg List.length Hls.out;rw [List.length_map] at this;omega
  obtain ⟨us,hus⟩:∃ us,(pre.map (·.1)).map (·.uid)=us:=⟨_,rfl⟩;have hul:us.length≤1000:=by rw [←hus];simp;omega
  rw [hus] at hm;obtain ⟨⟨xt,xu⟩,hxz⟩:=x;simp only at hbb hxz;have hcn:=cntU_le us xu;have hget:=seen_get hm xu (by unfold maxLen;omega)
  obtain ⟨W1,hput,hm1,hg1⟩:=seen_put hm xu (by unfold maxLen;omega) (by omega)
  have hget1:=seen_get hm1 xu (by unfold maxLen;omega)
  rw [cntU_snoc_same] at hget1;obtain ⟨cn,hcn2⟩:∃ cn,cntU us xu=cn:=⟨_,rfl⟩;rw [hcn2] at hget hget1 hput hcn;have hnr:∀ r,some (N+3)=some r→∃ o:Obj,W.heap[r]? = some o∧o.isCells=false:=fun r e=>by cases e;exact hm.obj
  have hcb:=hbb.cell;have hbb1:=hbb.grown hg1 hnr;have hcb1:=hbb1.cell;have hV:=(Hsn.out.bV.kept hk (by omega))
  have hcV:=hV.cell;have hcV1:=(hV.grown hg1 hnr).cell;have hT:=(Hsn.out.bT.kept hk (by omega))
  have hcT1:=(hT.grown hg1 hnr).cell;have hCo:=(Hsn.out.bC.kept hk (by omega))
  have hcC1:=(hCo.grown hg1 hnr).cell;have hz0:=Hsn.out.size;have hkf1:KeepsFrom W0.heap.size W W1:=KeepsFrom.of_grownBy hg1 (fun j e=>by cases e;omega)
  have hkk1:Kept (fun b=>b=N+2∨b=N+3∨N+6≤b) W W1:=(Kept.refl _ W).grown hg1 (fun k e=>.inl (.inr (.inl (by cases e;rfl))))
  have hv1:=hv.grown hg1 hnr;have hrow1:=hrow.grown hg1 hnr;have hus2:((pre++[(⟨⟨xt,xu⟩,hxz⟩:Ux)]).map (·.1)).map (·.uid)=us++[xu]:=by rw [←hus];simp
  have hfs:c.foldS token ((pre++[(⟨⟨xt,xu⟩,hxz⟩:Ux)]).map (·.1))=c.stepS token (c.foldS token (pre.map (·.1))) ⟨xt,xu⟩:=by rw [List.map_append,List.map_singleton,foldS_snoc]
  have hfu:(c.foldS token (pre.map (·.1))).1=us:=by rw [foldS_us,hus]
  obtain ⟨L,hL⟩:∃ L,(c.foldS token (pre.map (·.1))).2=L:=⟨_,rfl⟩;have hLl:L.length≤1000:=by
   have h1:=foldS_len c token (pre.map (·.1));rw [hL] at h1;simp only [List.length_map] at h1;omega
  rw [hL] at hv hrow hv1 hrow1
  by_cases hsk:xt≤token∨0<cn
  ·have hI1:SnI c token N W0 (pre++[⟨⟨xt,xu⟩,hxz⟩]) W1:=by
    have e2:(c.foldS token ((pre++[(⟨⟨xt,xu⟩,hxz⟩:Ux)]).map (·.1))).2=(c.foldS token (pre.map (·.1))).2:=by
     rw [hfs];unfold Cl.stepS;simp only;rw [hfu,hcn2,if_pos hsk]
    unfold SnI;rw [e2,hus2,hL];exact ⟨⟨A,cp,hv1,hrow1⟩,hm1,hk.same hkk1⟩
   have HI1:=hI hI1;have Hkf1:=hI hkf1;have Hkk1:=hI hkk1;clear hI1 hkf1 hkk1 hv1 hrow1 hm hm1 hk hv hrow hfs hfu hus2 hus hcn2 hg1 hL
   by_cases h1:xt≤token
   ·have h1':(xt≤token)=True:=by simpa using h1
    clear h1 hsk
    gi_wp2
    exact ⟨Hkf1.out,Hkk1.out,HI1.out⟩
   ·have h1':(xt≤token)=False:=by simpa using h1
    have h2':((1:Int)<(cn:Int)+1)=True:=by simp;omega
    clear h1 hsk
    gi_wp2
    exact ⟨Hkf1.out,Hkk1.out,HI1.out⟩
  ·have h1':(xt≤token)=False:=by simp;omega
   have h2':((1:Int)<(cn:Int)+1)=False:=by simp;omega
   have hfin:(c.foldS token ((pre++[(⟨⟨xt,xu⟩,hxz⟩:Ux)]).map (·.1))).2=L++[c.itOf ⟨xt,xu⟩]:=by
    rw [hfs];unfold Cl.stepS;simp only;rw [hfu,hcn2,if_neg hsk,hL]
   have Hfin:=hI hfin;clear hfin;have hG:=cl_get (W1.alloc (.cells #[.string xu,.int .i64 xt,.bool true,.string ⟨#[]⟩] 55)) (fun b=>b<N) g c xu ((clC g c).kept (((clC g c).kept ((clC g c).kept Hcl.out Hsn.out.pure (fun _ _ _ h=>h)) (hk.same hkk1) (fun b _ h=>by omega))) ((Kept.refl (fun _=>False) W1).alloc _) (fun _ _ _ h=>h))
   have hbi:=Blk.new W1 55 #[.string xu,.int .i64 xt,.bool true,.string ⟨#[]⟩];have hk2:Pure W1 (W1.alloc (.cells #[.string xu,.int .i64 xt,.bool true,.string ⟨#[]⟩] 55)):=(Kept.refl _ _).alloc _;have hcC2:=((hCo.grown hg1 hnr).kept hk2 (fun h=>h)).cell;have hcb2:=(hbb1.kept hk2 (fun h=>h)).cell;have hko2:KeepsOthers W1 (W1.alloc (.cells #[.string xu,.int .i64 xt,.bool true,.string ⟨#[]⟩] 55)):=KeepsOthers.alloc _ _
   have hsz1:N+6≤W1.heap.size:=by have:=hkk1.size;have:=hk.size;omega
   unfold Reads at hG;have HG:=hI hG;have Hkf1:=hI hkf1;have Hkk1:=hI hkk1;have Hv1:=hI hv1;have Hrow1:=hI (hrow1.imp (G:=fun b=>N+6≤b∧b<W1.heap.size) (fun b hb h=>⟨h,hb⟩));have Hm1:=hI hm1;have Hk:=hI hk;have Hfs:=hI hfs;have Hfu:=hI hfu;have Hus2:=hI hus2;have Hcn:=hI hcn2;have Hbb1:=hI hbb1;have Hbi:=hI hbi;have Hko2:=hI hko2
   clear hG hkf1 hkk1 hv1 hrow1 hm hm1 hk hv hrow hfs hfu hus2 hus hcn2 hg1 hL hbb1 hbb hV hT hCo hbi hko2;have Hk2:=hI hk2;have Hsz1:=hI hsz1;clear hk2 hsz1
   gi_wp2_with (refine ⟨trivial,?_⟩;gi_at_call 61;refine held ?_)
   refine unheld ?_;refine (CallsIn.inRound l (callsIn_wide.2 HG.out)).mono ?_;rintro e w3 ⟨rfl,hk3⟩;have hp3:=Hk2.out.same hk3;have hv3:=Hv1.out.kept hp3 (fun h=>h);have hrow3:=Hrow1.out.kept hp3 (fun _ _ _ h=>h);have hm3:=Hm1.out.kept hp3 (fun h=>h);have hbi3:=Hbi.out.kept hk3 (fun h=>h);have hbb3:=Hbb1.out.kept hp3 (fun h=>h);have hci3:=hbi3.cell;have hcb3:=hbb3.cell;have hfi3:=hbi3.frozen;have hk3':=(Hk.out.same Hkk1.out).same (hp3.mono (fun _ _ h=>h.elim))
   have hko3:=Hko2.out.trans (others_of_pure hk3);obtain ⟨bi,hbi2⟩:∃ bi,W1.heap.size=bi:=⟨_,rfl⟩;have hbiN:N+6≤bi:=by have:=Hsz1.out;omega
   rw [hbi2] at hci3 hfi3 hbi3 hrow3 ⊢;have Hkf3:=hI (Hkf1.out.trans (hko3.from _));have Hkk3:=hI (Hkk1.out.same (hp3.mono (fun _ _ h=>h.elim)));clear hbi2 hp3 hk3 hko3;cases hV:c.get xu with
   | none =>
    simp only [tvr,ttx,Option.isSome];have hito:c.itOf ⟨xt,xu⟩=⟨xu,xt,true,⟨#[]⟩⟩:=by unfold Cl.itOf;rw [hV]
    have Hito:=hI hito;clear hV hito;have hc3:=hv3.cell;have hsz3:=hk3'.size;have hz0':W0.heap.size=N+6:=hz0;replace hrow3:=hrow3.imp (G:=fun b=>N+6≤b) (fun b _ h=>h.1)
    gi_wp2_with (gi_at_builtin;refine held ?_)
    refine unheld ?_;refine wpIn_collect (N+6) Tryz.underlying43 info_it rfl (by omega) (by rw [World.size_alloc];omega) (hrow3.alloc _) (Sl.lit w3 #[.string xu,.int .i64 xt,.bool true,.string ⟨#[]⟩] 55 4 1 _ rfl rfl) (fun u hu=>by simp at hu;rcases hu with rfl|rfl|rfl|rfl <;> rfl) (by omega) (by omega) rfl _ _ rfl rfl rfl ?_
    intro A' c' w5 ho5 hk5 hoth5;have hv5:=(hv3.alloc (.cells #[.string xu,.int .i64 xt,.bool true,.string ⟨#[]⟩] 55)).kept hk5 (by omega)
    have hc5:=hv5.cell;have hf5:=hv5.frozen 0;have hb6:=hv5.set 0 (.slice A' (L.length+1) c');have hks:=(Kept.refl (· = N+2) w5).setCell (p:=⟨N+2,0,none⟩) (.inl rfl) (.slice A' (L.length+1) c');have ho6:=ho5.kept hks (fun b _ h e=>by have e:b=N+2:=e;omega)
    have hkk6:Kept (fun b=>b=N+2∨N+6≤b) w3 (w5.setCell ⟨N+2,0,none⟩ (.slice A' (L.length+1) c')):=((((Kept.refl _ w3).alloc (.cells #[.string xu,.int .i64 xt,.bool true,.string ⟨#[]⟩] 55)).same (hk5.mono (fun _ _ h=>.inr h))).same (hks.mono (fun _ _ h=>.inl h)));have hko6:KeepsOthers w3 (w5.setCell ⟨N+2,0,none⟩ (.slice A' (L.length+1) c')):=((KeepsOthers.alloc w3 _).trans hoth5).trans (KeepsOthers.setCell _ _ _)
    have hm6:=hm3.kept hkk6 (by omega)
    have hkk7:=Hkk3.out.same (hkk6.mono (fun b _ h=>h.elim .inl (fun h=>.inr (.inr h))));have hkf7:=Hkf3.out.trans (hko6.from _);have hI7:SnI c token N W0 (pre++[⟨⟨xt,xu⟩,hxz⟩]) (w5.setCell ⟨N+2,0,none⟩ (.slice A' (L.length+1) c')):=by
     unfold SnI;rw [Hfin.out,Hus2.out,Hito.out];refine ⟨⟨A',c',?_,?_⟩,hm6,Hk.out.same hkk7⟩
     ·rw [List.length_append,List.length_singleton];exact hb6
     ·rw [List.length_append,List.length_singleton,show itc (L++[(⟨xu,xt,true,⟨#[]⟩⟩:It)])=itc L++[.string xu,.int .i64 xt,.bool true,.string ⟨#[]⟩] from by simp [itc,It.cells]]
      exact ho6
    have HI7:=hI hI7;have Hkk7:=hI hkk7;have Hkf7:=hI hkf7;clear hI7 hkk7 hkf7 hm6 hko6 hkk6 ho6 hks hb6 hoth5 hk5 ho5 hv5
    gi_wp2
    exact ⟨Hkf7.out,Hkk7.out,HI7.out⟩
   | some v =>
    simp only [tvr,ttx,Option.isSome];have hito:c.itOf ⟨xt,xu⟩=⟨xu,v.version,false,v.text⟩:=by unfold Cl.itOf;rw [hV]
    have Hito:=hI hito;clear hV hito;have hc3:=hv3.cell;have hsz3:=hk3'.size;have hz0':W0.heap.size=N+6:=hz0
    gi_wp2_with (gi_at_builtin;refine held ?_)
    obtain ⟨Wb,hWb⟩:∃ Wb,(((w3.setCell ⟨bi,0,none⟩ (.string xu)).setCell ⟨bi,1,none⟩ (.int .i64 v.version)).setCell ⟨bi,2,none⟩ (.bool false)).setCell ⟨bi,3,none⟩ (.string v.text)=Wb:=⟨_,rfl⟩;have hkb:Kept (· = bi) w3 Wb:=by
     rw [←hWb];exact (((((Kept.refl (· = bi) w3).setCell (p:=⟨bi,0,none⟩) (.inl rfl) _).setCell (p:=⟨bi,1,none⟩) (.inl rfl) _).setCell (p:=⟨bi,2,none⟩) (.inl rfl) _).setCell (p:=⟨bi,3,none⟩) (.inl rfl) _)
    have hkob:KeepsOthers w3 Wb:=by
     rw [←hWb];exact (((KeepsOthers.setCell _ _ _).trans (KeepsOthers.setCell _ _ _)).trans (KeepsOthers.setCell _ _ _)).trans (KeepsOthers.setCell _ _ _)
    have hszb:Wb.heap.size=w3.heap.size:=by rw [←hWb];simp
    rw [hWb,←hszb];clear hWb hc3;replace hv3:=hv3.kept hkb (by omega)
    replace hrow3:=(hrow3.kept hkb (fun b _ h e=>by have e:b=bi:=e;omega)).imp (G:=fun b=>N+6≤b) (fun b _ h=>h.1)
    replace hm3:=hm3.kept hkb (by omega)
    replace Hkk3:=hI (Hkk3.out.same (hkb.mono (fun b _ e=>by have e:b=bi:=e;omega)))
    replace Hkf3:=hI (Hkf3.out.trans (hkob.from _));have hsz4:=hkb.size;have hc3:=hv3.cell;refine unheld ?_;refine wpIn_collect (N+6) Tryz.underlying43 info_it rfl (by omega) (by rw [World.size_alloc];omega) (hrow3.alloc _) (Sl.lit Wb #[.string xu,.int .i64 v.version,.bool false,.string v.text] 55 4 1 _ rfl rfl) (fun u hu=>by simp at hu;rcases hu with rfl|rfl|rfl|rfl <;> rfl) (by omega) (by omega) rfl _ _ rfl rfl rfl ?_
    intro A' c' w5 ho5 hk5 hoth5;have hv5:=(hv3.alloc (.cells #[.string xu,.int .i64 v.version,.bool false,.string v.text] 55)).kept hk5 (by omega)
    have hc5:=hv5.cell;have hf5:=hv5.frozen 0;have hb6:=hv5.set 0 (.slice A' (L.length+1) c');have hks:=(Kept.refl (· = N+2) w5).setCell (p:=⟨N+2,0,none⟩) (.inl rfl) (.slice A' (L.length+1) c');have ho6:=ho5.kept hks (fun b _ h e=>by have e:b=N+2:=e;omega)
    have hkk6:Kept (fun b=>b=N+2∨N+6≤b) Wb (w5.setCell ⟨N+2,0,none⟩ (.slice A' (L.length+1) c')):=((((Kept.refl _ Wb).alloc (.cells #[.string xu,.int .i64 v.version,.bool false,.string v.text] 55)).same (hk5.mono (fun _ _ h=>.inr h))).same (hks.mono (fun _ _ h=>.inl h)));have hko6:KeepsOthers Wb (w5.setCell ⟨N+2,0,none⟩ (.slice A' (L.length+1) c')):=((KeepsOthers.alloc Wb _).trans hoth5).trans (KeepsOthers.setCell _ _ _)
    have hm6:=hm3.kept hkk6 (by omega)
    have hkk7:=Hkk3.out.same (hkk6.mono (fun b _ h=>h.elim .inl (fun h=>.inr (.inr h))));have hkf7:=Hkf3.out.trans (hko6.from _);have hI7:SnI c token N W0 (pre++[⟨⟨xt,xu⟩,hxz⟩]) (w5.setCell ⟨N+2,0,none⟩ (.slice A' (L.length+1) c')):=by
     unfold SnI;rw [Hfin.out,Hus2.out,Hito.out];refine ⟨⟨A',c',?_,?_⟩,hm6,Hk.out.same hkk7⟩
     ·rw [List.length_append,List.length_singleton];exact hb6
     ·rw [List.length_append,List.length_singleton,show itc (L++[(⟨xu,v.version,false,v.text⟩:It)])=itc L++[.string xu,.int .i64 v.version,.bool false,.string v.text] from by simp [itc,It.cells]]
      exact ho6
    have HI7:=hI hI7;have Hkk7:=hI hkk7;have Hkf7:=hI hkf7;clear hI7 hkk7 hkf7 hm6 hko6 hkk6 ho6 hks hb6 hoth5 hk5 ho5 hv5
    gi_wp2
    exact ⟨Hkf7.out,Hkk7.out,HI7.out⟩
theorem cl_since0 (w:World) (F:Nat→Prop) (g:Nat) (c:Cl) (h:ClM w F g c) (hok:c.Ok):Calls Tryz.prog 126 #[pV g,.int .i64 0] w fun e w' =>
  ∃ A cp,e = .returned (.tuple #[.slice A (sortI c.live).length cp,.int .i64 0])∧Own w' (fun b=>w.heap.size≤b) 55 4 (.slice A (sortI c.live).length cp) (sortI c.live).length (itc (sortI c.live))∧Pure w w':=by
 obtain ⟨N,hN⟩:∃ N,w.heap.size=N:=⟨_,rfl⟩;have hr0:Run w (fun _=>False) (((w.alloc (.cells #[pV g] 110)).alloc (.cells #[.int .i64 0] 2)).alloc (.cells #[.slice none 0 0] 43)) [blkC (N+2) 43 #[.slice none 0 0],blkC (N+1) 2 #[.int .i64 0],blkC N 110 #[pV g]]:=by
  have h1:=(((Run.start (F:=fun _=>False) (w:=w) (Ps:=[]) trivial).addBlk #[pV g] 110).addBlk #[.int .i64 0] 2).addBlk #[.slice none 0 0] 43;rw [World.size_alloc,World.size_alloc,hN] at h1;exact h1
 have hcl:=(clC g c).kept h hr0.pureOf (fun _ _ _ h=>h);have CL:=hI (cl_live _ F g c hcl);have hlen:c.cards.length=c.live.length:=by simp [Cl.live]
 have hsl:(sortI c.live).length=c.live.length:=(sortI_perm c.live).length_eq;have hcm:=hok.cm;have hnd:(c.live.map (·.uid)).Nodup:=by
  unfold Cl.live;rw [List.map_map];refine List.Pairwise.imp (R:=fun a b:ByteArray=>kb a<kb b) (fun h e=>?_) ?_
  ·subst e;exact lt_irr _ h
  ·rw [List.pairwise_map];exact hok.ri.imp (fun h=>h)
 have Hr0:=hI hr0;have HN:=hI hN;have Hnd:=hI hnd;have hlz:c.live.length≤1000:=by omega
 rw [hlen] at CL;rw [hsl];obtain ⟨L,hL⟩:∃ L,c.live=L:=⟨_,rfl⟩;rw [hL] at CL hlz Hnd ⊢;clear h hok hr0 hcl hN hlen hsl hcm hnd hL;go_enter Tryz.func126,Tryz.ntmps126;go_wp2_with fail;refine (CL.out).mono ?_;rintro e w2 ⟨A,cp,rfl,ho2,hk2⟩;have hr2:Run w (fun _=>False) w2 [ownC 55 4 (.slice A L.length cp) L.length (itc L),blkC (N+2) 43 #[.slice none 0 0],blkC (N+1) 2 #[.int .i64 0],blkC N 110 #[pV g]]:=Hr0.out.add hk2 ho2
 have hfo:=(hr2.blk 1 rfl).frozen;have hco:=(hr2.blk 1 rfl).cell;have hr3:Run w (fun _=>False) (w2.setCell ⟨N+2,0,none⟩ (.slice A L.length cp)) [ownC 55 4 (.slice A L.length cp) L.length (itc L),blkC (N+2) 43 #[.slice A L.length cp],blkC (N+1) 2 #[.int .i64 0],blkC N 110 #[pV g]]:=hr2.set 1 rfl 0 (.slice A L.length cp);rw [←HN.out] at hfo hco hr3;obtain ⟨G,_,hpo,hup⟩:=hr3.at 0 rfl;have CS:=hI (sort_it _ G A L.length cp L hpo (by omega) Hnd.out)
 have Hup:=hI hup;have hc3:=(hr3.blk 1 rfl).cell;clear hr2 hr3 hpo hup ho2 hk2;go_wp2_with fail;refine (CS.out).mono ?_;rintro e w4 ⟨rfl,ho4,hk4⟩;have hr4:=Hup.out w4 (ownC 55 4 (.slice A L.length cp) L.length (itc (sortI L))) (ho4.imp (fun b _ h=>.inl h)) hk4;have hc4:=(hr4.blk 1 rfl).cell;have Hr4:=hI hr4;clear hr4 ho4 hk4 Hup hc3 hco hfo;go_wp2
 go_ret2
 exact ⟨A,cp,rfl,(Hr4.out.own 0 rfl).imp (fun b _ h=>h.elim False.elim id),Hr4.out.pureOf⟩
end
section
open Go.RowKit
theorem cl_since8 (w:World) (F:Nat→Prop) (g:Nat) (c:Cl) (token:Int) (h:ClM w F g c) (ht0:(token == 0)=false) (ht:token<c.horizon∨c.latest<token):Calls Tryz.prog 126 #[pV g,.int .i64 token] w fun e w' =>
  e = .returned (.tuple #[.slice none 0 0,.int .i64 8])∧Pure w w':=by
 obtain ⟨gc,gl,h⟩:=h;have hp3:Pure w (((w.alloc (.cells #[pV g] 110)).alloc (.cells #[.int .i64 token] 2)).alloc (.cells #[.slice none 0 0] 43)):=(((Kept.refl _ w).alloc _).alloc _).alloc _;have hcg:=((Run.start h).pure hp3).blk 0 rfl |>.cell;have Hp:=hI hp3;clear h hp3
 by_cases h1:token<c.horizon
 ·have h1':(token<c.horizon)=True:=by simpa using h1
  clear h1 ht;go_enter Tryz.func126,Tryz.ntmps126;go_wp2
  go_quiet (fail)
  go_wp2
  go_ret2
  exact ⟨rfl,Hp.out.drewN _⟩
 ·have h1':(token<c.horizon)=False:=by simpa using h1
  have h2':(c.latest<token)=True:=by simp;omega
  clear h1 ht;go_enter Tryz.func126,Tryz.ntmps126;go_wp2
  go_quiet (fail)
  go_wp2
  go_ret2
  exact ⟨rfl,Hp.out.drewN _⟩
def SncP (w:World) (r:Int×List It) (e:Ending) (w':World):Prop :=
 ∃ A cp,e = .returned (.tuple #[.slice A r.2.length cp,.int .i64 r.1])∧Own w' (fun b=>w.heap.size≤b) 55 4 (.slice A r.2.length cp) r.2.length (itc r.2)∧Pure w w'
theorem cl_since (w:World) (F:Nat→Prop) (g:Nat) (c:Cl) (token:Int) (h:ClM w F g c) (hok:c.Ok) (hut:∀ x∈c.log,x.uid.size≤1000000):Calls Tryz.prog 126 #[pV g,.int .i64 token] w (SncP w (c.since token)):=by
 unfold Cl.since
 by_cases h0:token=0
 ·subst h0
  rw [if_pos rfl];exact cl_since0 w F g c h hok
 ·rw [if_neg h0]
  have h0':(token == 0)=false:=by simpa using h0
  by_cases h1:token<c.horizon∨c.latest<token
  ·rw [if_pos h1]
   exact (cl_since8 w F g c token h h0' h1).mono fun e w' ⟨he,hp⟩=>⟨none,0,he,Own.nil _ _ _ _,hp⟩
  ·rw [if_neg h1]
   have:=(sortI_perm (c.foldS token c.log.reverse).2).length_eq;refine (cl_since2 w F g c token h hok h0' (by simp;omega) (by simp;omega) hut).mono ?_
   rintro e w' ⟨A,cp,he,ho,hp⟩;unfold SncP;rw [this];exact ⟨A,cp,he,ho,hp⟩
end
section
open Go.RowKit
theorem It.cells_len (i:It):i.cells.length=4:=rfl
theorem it_indexg (p:It→Bool) (f:Nat) (cap:Value) (hcf:∀ (args:Array Value) (w:World),(callFunc f args).run Tryz.prog w = .ok (.enter f args) w) (K:World→Prop) (hK:∀ w w',K w→Pure w w'→K w') (key:∀ (y:It) w,K w→Calls Tryz.prog f #[.agg y.cells.toArray,cap] w fun e w'=>e = .returned (.bool (p y))∧Pure w w')
  (l:List It) (A:Option Addr) (n c:Nat) (w:World) (F:Nat→Prop) (hs:Sl w F 4 A n (l.flatMap It.cells)) (hn:n≤1000000) (hw:K w) :
  Calls Tryz.prog 212 #[.slice A n c,.func (.func f) #[] #[cap]] w fun e w'=>e = .returned (.int .i64 (idx p l))∧Pure w w':=by
 have hl:l.length=n:=by have:=hs.1;rw [fm_length _ 4 It.cells_len] at this;omega
 have Hl:=hI hl;have Hs:=hI hs;have HK:=hI hK;have Hw:=hI hw;have Key:=hI key;clear hl hs hK key hw;go_enter Tryz.func212,Tryz.ntmps212;go_wp2
 go_loopw [8] (fun i wr=>∃ k:Nat,i = .int .i64 k∧k≤n∧Hid (∀ (j:Nat) (y:It),j<k→l[j]? = some y→p y=false)∧Pure w wr) (fun i _=>n-(intOf i).toNat)
 case atStart=>exact ⟨0,rfl,Nat.zero_le _,fun j y h=>by omega,Kept.refl _ _⟩
 case round =>
  obtain ⟨k,rfl,hk,hj,hp⟩:=hrel
  by_cases hkn:k<n
  ·obtain ⟨y,hy⟩:∃ y,l[k]? = some y:=⟨_,List.getElem?_eq_getElem (by have:=Hl.out;omega)⟩
   have hsw:=Hs.out.kept hp (fun _ _ _ h=>h);obtain ⟨b,o,rfl,_,_,_⟩:=hsw.2 (by omega)
   have hki:(k:Int)<(n:Int):=by omega
   have C:=hI (Key.out y wr (HK.out _ _ Hw.out hp));have Hy:=hI hy;obtain ⟨hc0,hc1,hc2,hc3⟩:=it_cells hsw hy;clear hy hsw;cases hxy:p y with
   | true =>
    have hr:=idx_some Hy.out hxy hj.out;have Hr:=hI hr;rw [hxy] at C;clear hr hxy
    skip
    go_wp2_with fail
    refine (C.out).mono ?_;rintro e w1 ⟨rfl,hk1⟩;go_wp2;go_ret;exact ⟨by rw [Hr.out];rfl,hp.same hk1⟩
   | false =>
    have Hxy:=hI hxy;rw [hxy] at C;clear hxy
    skip
    go_wp2_with fail
    refine (C.out).mono ?_;rintro e w1 ⟨rfl,hk1⟩;go_wp2
    go_roundw
    case measure=>simp [intOf];omega
    case rel=>exact ⟨k+1,by first|rfl|go_num,by omega,fun j z h hz=>by
     by_cases hjk:j=k
     ·subst hjk;rw [Hy.out] at hz;injection hz with hz;subst hz;exact Hxy.out
     ·exact hj.out j z (by omega) hz,hp.same hk1⟩
  ·obtain rfl:k=n:=by omega
   have hr:=idx_none (p:=p) (l:=l) (fun j y hy=>hj.out j y (by have:=(List.getElem?_eq_some_iff.1 hy).1;have:=Hl.out;omega) hy)
   have Hr:=hI hr;clear hr;go_wp2;go_ret;exact ⟨by rw [Hr.out];rfl,hp⟩
theorem it_containsg (p:It→Bool) (f:Nat) (cap:Value) (hcf:∀ (args:Array Value) (w:World),(callFunc f args).run Tryz.prog w = .ok (.enter f args) w) (K:World→Prop) (hK:∀ w w',K w→Pure w w'→K w') (key:∀ (y:It) w,K w→Calls Tryz.prog f #[.agg y.cells.toArray,cap] w fun e w'=>e = .returned (.bool (p y))∧Pure w w')
  (l:List It) (A:Option Addr) (n c:Nat) (w:World) (F:Nat→Prop) (hs:Sl w F 4 A n (l.flatMap It.cells)) (hn:n≤1000000) (hw:K w) :
  Calls Tryz.prog 176 #[.slice A n c,.func (.func f) #[] #[cap]] w fun e w'=>e = .returned (.bool (l.any p))∧Pure w w':=by
 have C:=hI (it_indexg p f cap hcf K hK key l A n c w F hs hn hw);have hr:=idx_any p l;have Hr:=hI hr;clear hs hr;go_enter Tryz.func176,Tryz.ntmps176;go_wp2_with fail;refine (C.out).mono ?_;rintro e w1 ⟨rfl,hk1⟩;go_wp2;go_ret;exact ⟨by rw [←Hr.out];rfl,hk1⟩
theorem sl_tail {w:World} {F:Nat→Prop} {k b o n:Nat} {xs:List Value} (h:Sl w F k (some ⟨b,o,none⟩) n xs) (m:Nat) (hm:m≤n):Sl w F k (some ⟨b,o+m*k,none⟩) (n-m) (xs.drop (m*k)):=by
 have h1:m*k≤n*k:=Nat.mul_le_mul_right _ hm;have h2:(n-m)*k=n*k-m*k:=Nat.sub_mul _ _ _;refine ⟨by rw [List.length_drop,h.1,h2],fun hlt=>?_⟩
 obtain ⟨b',o',e,hF,hb,hc⟩:=h.2 (by omega)
 injection e with e
 injection e with e1 e2
 subst e1 e2;exact ⟨_,_,rfl,hF,hb,fun j hj=>by rw [List.length_drop] at hj;rw [Nat.add_assoc,hc (m*k+j) (by omega),List.getElem?_drop]⟩
theorem sp_key (last:Int) (bx:Nat) (y:It) (w:World) (h:w.cell? ⟨bx,0,none⟩=some (.int .i64 last)∧bx<w.heap.size) :
  Calls Tryz.prog 177 #[.agg y.cells.toArray,.pointer (some ⟨bx,0,none⟩)] w fun e w'=>e = .returned (.bool (y.ver == last))∧Pure w w':=by
 obtain ⟨hc,hb⟩:=h;have hB:=Blk.new w 55 #[.string y.uid,.int .i64 y.ver,.bool y.gone,.string y.card];have hk:Pure w (w.alloc (.cells #[.string y.uid,.int .i64 y.ver,.bool y.gone,.string y.card] 55)):=(Kept.refl _ _).alloc _;have hcell:=hB.cell;have hc2:(w.alloc (.cells #[.string y.uid,.int .i64 y.ver,.bool y.gone,.string y.card] 55)).cell? ⟨bx,0,none⟩=some (.int .i64 last):=(World.cell?_of_block (a:=⟨bx,0,none⟩) (hk.block bx hb (fun h=>h))).trans hc
 have hv:y.cells.toArray=#[.string y.uid,.int .i64 y.ver,.bool y.gone,.string y.card]:=rfl;rw [hv];clear hc hB hv;go_enter Tryz.func177,Tryz.ntmps177;go_wp2;go_ret;exact ⟨rfl,hk⟩
theorem sp_call (args:Array Value) (w:World):(callFunc 177 args).run Tryz.prog w = .ok (.enter 177 args) w:=by go_simp
def splL (items:List It):Nat→Nat→Nat
 | 0,_=>items.length
 | f+1,n=>match items[n-1]? with
  | some x=>if n<items.length then (if (items.drop n).any (fun i=>i.ver == x.ver)=true then splL items f (n+1) else n) else items.length
  | none=>items.length
def splitI (items:List It) (most:Int):Nat:=splL items items.length (max most 1).toNat
theorem cl_split (w:World) (F:Nat→Prop) (A:Option Addr) (n c:Nat) (items:List It) (most:Int) (hs:Sl w F 4 A n (itc items)) (hn:n≤100000) (hnc:n≤c) (hcm:c≤maxLen) (hmo:most≤9223372036854775807) :
  Calls Tryz.prog 127 #[.slice A n c,.int .i64 most] w fun e w'=>e = .returned (.int .i64 (splitI items most:Nat))∧Pure w w':=by
 have hl:items.length=n:=by have:=hs.1;rw [itc_length] at this;omega
 unfold splitI;rw [hl];obtain ⟨m,hm⟩:∃ m:Nat,max most 1=(m:Int):=⟨(max most 1).toNat,by omega⟩
 have hm1:1≤m:=by omega
 have hmb:(m:Int)≤9223372036854775807:=by omega
 rw [hm,show ((m:Nat):Int).toNat=m from rfl];obtain ⟨R,hR⟩:∃ R,splL items n m=R:=⟨_,rfl⟩;rw [hR];have Hl:=hI hl;have Hs:=hI hs;have HR:=hI hR;have Hm:=hI hm;clear hl hs hR hm;go_enter Tryz.func127,Tryz.ntmps127;go_wp2;rw [Hm.out]
 go_loopw [5] (fun vi wr=>∃ (k f:Nat),vi = .int .i64 k∧1≤k∧(k:Int)≤9223372036854775807∧n+1≤f+k∧Hid (splL items f k=R∧Pure w wr)) (fun vi _=>n-(intOf vi).toNat)
 case atStart=>exact ⟨m,n,rfl,hm1,hmb,by omega,⟨HR.out,Kept.refl _ _⟩⟩
 case round =>
  obtain ⟨k,f,rfl,hk1,hkb,hfk,hr⟩:=hrel;obtain ⟨hsp,hpw⟩:=hr.out
  by_cases hlt:k<n
  ·obtain ⟨x,hx⟩:∃ x,items[k-1]? = some x:=⟨_,List.getElem?_eq_getElem (by have:=Hl.out;omega)⟩
   have hsw:=Hs.out.kept hpw (fun _ _ _ h=>h);obtain ⟨b,o,rfl,_,_,_⟩:=hsw.2 (by omega)
   obtain ⟨j,hj⟩:∃ j:Nat,k-1=j:=⟨_,rfl⟩;rw [hj] at hx;obtain rfl:k=j+1:=by omega
   obtain ⟨hc0,hc1,hc2,hc3⟩:=it_cells hsw hx;have hki:((j:Int)+1)<(n:Int):=by omega
   have hpa:Pure wr (wr.alloc (.cells #[.int .i64 x.ver] 2)):=(Kept.refl _ _).alloc _;have hst:=sl_tail (hsw.kept hpa (fun _ _ _ h=>h)) (j+1) (by omega)
   have hbx:=(Blk.new wr 2 #[.int .i64 x.ver]);have hdr:(itc items).drop ((j+1)*4)=(items.drop (j+1)).flatMap It.cells:=(fm_drop (f:=It.cells) (k:=4) It.cells_len items (j+1)).symm;rw [hdr] at hst;have CC:=hI (it_containsg (fun i:It=>i.ver == x.ver) 177 (.pointer (some ⟨wr.heap.size,0,none⟩)) sp_call (fun w=>w.cell? ⟨wr.heap.size,0,none⟩=some (.int .i64 x.ver)∧wr.heap.size<w.heap.size)
    (fun w w' ⟨h1,h2⟩ hp=>⟨(World.cell?_of_block (a:=⟨wr.heap.size,0,none⟩) (hp.block _ h2 (fun h=>h))).trans h1,Nat.lt_of_lt_of_le h2 hp.size⟩)
    (fun y w h=>sp_key x.ver wr.heap.size y w h) (items.drop (j+1)) (some ⟨b,o+(j+1)*4,none⟩) (n-(j+1)) (c-(j+1)) _ _ hst (by omega) ⟨hbx.cell 0,by simp⟩)
   have Hx:=hI hx;have Hpa:=hI hpa;have Hsp:=hI hsp;have Hr0:=hI hpw;clear hsw hst hbx hdr hx hsp hj hpw;go_wp2_with fail;refine (CC.out).mono ?_;rintro e w4 ⟨rfl,hk4⟩;have Hp4:=hI ((Hr0.out.same Hpa.out).same hk4);clear hk4 CC;cases han:(items.drop (j+1)).any (fun i:It=>i.ver == x.ver) with
   | true =>
    have hsp2:splL items (f-1) (j+1+1)=R:=by
     obtain ⟨f',rfl⟩:∃ f',f=f'+1:=⟨f-1,by omega⟩
     have h1:=Hsp.out;unfold splL at h1;rw [Nat.add_sub_cancel,Hx.out] at h1;simp only at h1;rw [if_pos (by have:=Hl.out;omega),if_pos han] at h1
     exact h1
    have Hsp2:=hI hsp2;clear han hsp2;go_wp2
    go_roundw
    case measure=>simp [intOf];omega
    case rel=>exact ⟨j+1+1,f-1,by first|rfl|go_num,by omega,by omega,by omega,⟨Hsp2.out,Hp4.out⟩⟩
   | false =>
    have hsp2:R=j+1:=by
     obtain ⟨f',rfl⟩:∃ f',f=f'+1:=⟨f-1,by omega⟩
     have h1:=Hsp.out;unfold splL at h1;rw [Nat.add_sub_cancel,Hx.out] at h1;simp only at h1;rw [if_pos (by have:=Hl.out;omega),if_neg (by rw [han];simp)] at h1
     exact h1.symm
    have Hsp2:=hI hsp2;clear han hsp2;go_wp2;go_ret;exact ⟨by rw [Hsp2.out];rfl,Hp4.out⟩
  ·have hR2:R=n:=by
    rw [←hsp];cases f with
    | zero=>exact Hl.out
    | succ f =>
     unfold splL
     split
     ·rw [if_neg (by have:=Hl.out;omega)];exact Hl.out
     ·exact Hl.out
   have HR2:=hI hR2;have Hp:=hI hpw;have hki:((k:Int)<(n:Int))=False:=by simp;omega
   clear hsp hpw hR2 hlt;go_wp2;go_ret;exact ⟨by rw [HR2.out];rfl,Hp.out⟩
end
section
open Go.RowKit
structure Pg where
 err:Int
 token:Int
 more:Bool
 items:List It
def Cl.cut (c:Cl) (token most:Int):Nat:=if token=0 then (c.since token).2.length else splitI (c.since token).2 most
def Cl.page (c:Cl) (token most:Int):Pg :=
 if (c.since token).1≠0 then ⟨(c.since token).1,0,false,[]⟩
 else if c.cut token most=(c.since token).2.length then ⟨0,c.latest,false,(c.since token).2⟩
 else ⟨0,match (c.since token).2[c.cut token most-1]? with|some x=>x.ver|none=>0,true,(c.since token).2.take (c.cut token most)⟩
def PgP (w:World) (r:Pg) (e:Ending) (w':World):Prop :=
 ∃ A cp,e = .returned (.tuple #[.slice A r.items.length cp,.int .i64 r.token,.bool r.more,.int .i64 r.err])∧Sl w' (fun b=>w.heap.size≤b) 4 A r.items.length (itc r.items)∧Pure w w'
theorem splL_le (items:List It):∀ (f n:Nat),1≤n→splL items f n≤items.length∧(splL items f n<items.length→1≤splL items f n)
 | 0,n,_=>by simp [splL]
 | f+1,n,hn=>by
  unfold splL
  split
  ·split
   ·split
    ·exact splL_le items f (n+1) (by omega)
    ·exact ⟨by omega,fun _=>hn⟩
   ·exact ⟨Nat.le_refl _,fun h=>absurd h (Nat.lt_irrefl _)⟩
  ·exact ⟨Nat.le_refl _,fun h=>absurd h (Nat.lt_irrefl _)⟩
theorem cut_le (c:Cl) (token most:Int):c.cut token most≤(c.since token).2.length∧(c.cut token most<(c.since token).2.length→1≤c.cut token most):=by
 unfold Cl.cut
 split
 ·exact ⟨Nat.le_refl _,fun h=>absurd h (Nat.lt_irrefl _)⟩
 ·exact splL_le _ _ _ (by omega)
theorem foldl_len_le (c:Cl) (token:Int):(c.since token).2.length≤max c.cards.length c.log.length:=by
 unfold Cl.since
 split
 ·rw [(sortI_perm c.live).length_eq];simp [Cl.live];omega
 ·split
  ·simp
  ·have h1:=(sortI_perm (c.foldS token c.log.reverse).2).length_eq
   have h2:=foldS_len c token c.log.reverse;rw [List.length_reverse] at h2;simp only;omega
theorem results_tmp4 {fn:Func} {t u v x:Tmp} (h:fn.results=#[.tmp t,.tmp u,.tmp v,.tmp x]) (tmps:Array Value) (P:Program) (w:World) :
  (results fn tmps).run P w = .ok (.tuple #[tmps.getD t undef,tmps.getD u undef,tmps.getD v undef,tmps.getD x undef]) w:=by
 simp [results,h]
theorem cl_page8 (w:World) (g:Nat) (ei token most:Int) (he:(ei != 0)=true) (L:List It) (CS:Calls Tryz.prog 126 #[pV g,.int .i64 token] w (SncP w (ei,L))):Calls Tryz.prog 62 #[pV g,.int .i64 token,.int .i64 most] w (PgP w ⟨ei,0,false,[]⟩):=by
 have CS:=hI CS;go_enter Tryz.func62,Tryz.ntmps62;go_wp2_with fail;refine (CS.out).mono ?_;rintro e w1 ⟨A,cp,rfl,ho1,hp1⟩;have Hp1:=hI hp1;clear ho1 hp1;go_wp2;refine gz77 ?_;exact ⟨none,0,rfl,Sl.nil _ _ _ _,Hp1.out⟩
theorem cl_page0 (w:World) (F:Nat→Prop) (g:Nat) (c:Cl) (most:Int) (h:ClM w F g c) (L:List It) (CS:Calls Tryz.prog 126 #[pV g,.int .i64 0] w (SncP w (0,L))):Calls Tryz.prog 62 #[pV g,.int .i64 0,.int .i64 most] w (PgP w ⟨0,c.latest,false,L⟩):=by
 have HC:=hI (fun (w':World) (hp:Pure w w')=>(clC g c).kept h hp (fun _ _ _ h=>h));have CS:=hI CS;clear h;go_enter Tryz.func62,Tryz.ntmps62;go_wp2_with fail;refine (CS.out).mono ?_;rintro e w1 ⟨A,cp,rfl,ho1,hp1⟩;obtain ⟨gc,gl,hcl1⟩:=HC.out w1 hp1;have hbk:=(Run.start hcl1).blk 0 rfl;have hcg:=hbk.cell;have hbd:L.length≤cp∧cp≤maxLen:=by
  obtain ⟨_,_,hfe,h1,h2,_⟩:=ho1.form;injection hfe with _ _ hfe;subst hfe;exact ⟨h1,h2⟩
 have Hsl:=hI ho1.sl;have Hp1:=hI hp1;clear hcl1 ho1 hp1 CS;clear hbk;go_wp2
 go_quiet (fail)
 go_wp2;refine gz77 ?_;exact ⟨A,cp,rfl,(Hsl.out.drewN _),Hp1.out.drewN _⟩
theorem cl_page1 (w:World) (F:Nat→Prop) (g:Nat) (c:Cl) (token most:Int) (h:ClM w F g c) (h0:(token != 0)=true) (hmo:most≤9223372036854775807) (L:List It) (hlz:L.length≤1000) (hk:splitI L most=L.length) (CS:Calls Tryz.prog 126 #[pV g,.int .i64 token] w (SncP w (0,L))):Calls Tryz.prog 62 #[pV g,.int .i64 token,.int .i64 most] w (PgP w ⟨0,c.latest,false,L⟩):=by
 have Hk:=hI hk;clear hk;have HC:=hI (fun (w':World) (hp:Pure w w')=>(clC g c).kept h hp (fun _ _ _ h=>h));have CS:=hI CS;clear h;go_enter Tryz.func62,Tryz.ntmps62;go_wp2_with fail;refine (CS.out).mono ?_;rintro e w1 ⟨A,cp,rfl,ho1,hp1⟩;obtain ⟨gc,gl,hcl1⟩:=HC.out w1 hp1;have hbk:=(Run.start hcl1).blk 0 rfl;have hcg:=hbk.cell;have hbd:L.length≤cp∧cp≤maxLen:=by
  obtain ⟨_,_,hfe,h1,h2,_⟩:=ho1.form;injection hfe with _ _ hfe;subst hfe;exact ⟨h1,h2⟩
 have Hsl:=hI ho1.sl;have Hp1:=hI hp1;clear hcl1 ho1 hp1 CS;have CP:=cl_split w1 _ A L.length cp L most Hsl.out (by omega) hbd.1 hbd.2 hmo
 rw [Hk.out] at CP;have CP:=hI CP;go_wp2_with fail;refine (CP.out).mono ?_;rintro e w2 ⟨rfl,hp2⟩;have hcg2:=(hbk.kept hp2 (fun h=>h)).cell;have Hp2:=hI hp2;clear hcg hp2 hbk;go_wp2
 go_quiet (fail)
 go_wp2;refine gz77 ?_;exact ⟨A,cp,rfl,((Hsl.out.kept Hp2.out (fun _ _ _ h=>h)).drewN _),(Hp1.out.same Hp2.out).drewN _⟩
theorem cl_page2 (w:World) (F:Nat→Prop) (g:Nat) (c:Cl) (token most:Int) (h:ClM w F g c) (h0:(token != 0)=true) (hmo:most≤9223372036854775807) (L:List It) (hlz:L.length≤1000) (j:Nat) (x:It) (hk:splitI L most=j+1) (hx:L[j]? = some x) (hjl:j+1<L.length) (CS:Calls Tryz.prog 126 #[pV g,.int .i64 token] w (SncP w (0,L))):Calls Tryz.prog 62 #[pV g,.int .i64 token,.int .i64 most] w (PgP w ⟨0,x.ver,true,L.take (j+1)⟩):=by
 have Hk:=hI hk;have Hx:=hI hx;clear hk hx;have HC:=hI (fun (w':World) (hp:Pure w w')=>(clC g c).kept h hp (fun _ _ _ h=>h));have CS:=hI CS;clear h;go_enter Tryz.func62,Tryz.ntmps62;go_wp2_with fail;refine (CS.out).mono ?_;rintro e w1 ⟨A,cp,rfl,ho1,hp1⟩;obtain ⟨gc,gl,hcl1⟩:=HC.out w1 hp1;have hbk:=(Run.start hcl1).blk 0 rfl;have hcg:=hbk.cell;have hbd:L.length≤cp∧cp≤maxLen:=by
  obtain ⟨_,_,hfe,h1,h2,_⟩:=ho1.form;injection hfe with _ _ hfe;subst hfe;exact ⟨h1,h2⟩
 have Hsl:=hI ho1.sl;have Hp1:=hI hp1;clear hcl1 ho1 hp1 CS;have CP:=cl_split w1 _ A L.length cp L most Hsl.out (by omega) hbd.1 hbd.2 hmo
 rw [Hk.out] at CP;have CP:=hI CP;clear hcg hbk;go_wp2_with fail;refine (CP.out).mono ?_;rintro e w2 ⟨rfl,hp2⟩;have hs2:=Hsl.out.kept hp2 (fun _ _ _ h=>h);obtain ⟨b,o,rfl,_,_,_⟩:=hs2.2 (by omega)
 obtain ⟨hc0,hc1,hc2,hc3⟩:=it_cells hs2 Hx.out;have hne:(((j:Int)+1) == (L.length:Int))=false:=by simp;omega
 have Hs2:=hI hs2;have Hp2:=hI hp2;clear hs2 hp2;go_wp2
 go_quiet (fail)
 go_wp2;refine gz77 ?_;have h1:=Hs2.out.pre (j+1) (by omega)
 rw [show (itc L).take ((j+1)*4)=itc (L.take (j+1)) from (fm_take (f:=It.cells) (k:=4) It.cells_len L (j+1)).symm] at h1;have h2:(L.take (j+1)).length=j+1:=by rw [List.length_take];omega
 unfold PgP;simp only;rw [h2];exact ⟨_,_,rfl,h1.drewN _,(Hp1.out.same Hp2.out).drewN _⟩
theorem cl_page (w:World) (F:Nat→Prop) (g:Nat) (c:Cl) (token most:Int) (h:ClM w F g c) (hok:c.Ok) (hut:∀ x∈c.log,x.uid.size≤1000000) (hmo:most≤9223372036854775807):Calls Tryz.prog 62 #[pV g,.int .i64 token,.int .i64 most] w (PgP w (c.page token most)):=by
 have CS:=cl_since w F g c token h hok hut;have hln:=foldl_len_le c token;have hcm:=hok.cm;have hlg:=hok.lg;have hce:=cut_le c token most;unfold Cl.page;have hcut:c.cut token most=if token=0 then (c.since token).2.length else splitI (c.since token).2 most:=rfl;obtain ⟨S,hS⟩:∃ S,c.since token=S:=⟨_,rfl⟩;rw [hS] at CS hln hce hcut ⊢;obtain ⟨er,L⟩:=S;simp only at hln hce hcut ⊢;have hlz:L.length≤1000:=by omega
 by_cases he:er=0
 ·subst he
  rw [if_neg (by decide)]
  by_cases hk:c.cut token most=L.length
  ·rw [if_pos hk]
   by_cases h0:token=0
   ·subst h0
    exact cl_page0 w F g c most h L CS
   ·rw [if_neg h0,hk] at hcut
    exact cl_page1 w F g c token most h (by simpa using h0) hmo L hlz hcut.symm CS
  ·rw [if_neg hk]
   by_cases h0:token=0
   ·rw [if_pos h0] at hcut;exact absurd hcut hk
   ·rw [if_neg h0] at hcut
    obtain ⟨j,hj⟩:∃ j,c.cut token most=j+1:=⟨c.cut token most-1,by omega⟩
    rw [hj] at hcut hk hce ⊢;obtain ⟨x,hx⟩:∃ x,L[j]? = some x:=⟨_,List.getElem?_eq_getElem (by omega)⟩
    rw [Nat.add_sub_cancel,hx];exact cl_page2 w F g c token most h (by simpa using h0) hmo L hlz j x hcut.symm hx (by omega) CS
 ·rw [if_pos he]
  exact cl_page8 w g er token most (by simpa using he) L CS
end
end Go.Proofs.YtjfpfeapbcjioaaGreat
