/-
  The texts of this claim, put together: ClT, ClL.
-/
import Derived.Sort.OwnSorted
import Derived.Shelf.SlSortCmp.WholeK
import Derived.Shelf.SlSortCmp.NoneTotal
import Derived.LoopTactic
import Derived.Test.YtjfpfeapbcjioaaGreatZClS
import Derived.Deep.QuietTactic
import Derived.BigQuiet
import Derived.Test.YtjfpfeapbcjioaaGreatZCr
set_option linter.unusedSimpArgs false
set_option linter.unusedVariables false
set_option maxHeartbeats 12800000
set_option maxRecDepth 100000
namespace Go.Proofs.YtjfpfeapbcjioaaGreat
section
open Go.RowKit
open Go.Sort
theorem order_any (x y:It) (W:World):Calls Tryz.prog 175 #[.agg #[.string x.uid,.int .i64 x.ver,.bool x.gone,.string x.card],.agg #[.string y.uid,.int .i64 y.ver,.bool y.gone,.string y.card]] W fun e w'=>e = .returned (.int .i64 (ordI x y))∧∃ q os',w'=grow (W.drewN q) os':=by
 unfold ordI;obtain ⟨u1,v1,g1,c1⟩:=x;obtain ⟨u2,v2,g2,c2⟩:=y;simp only
 by_cases h1:v1<v2
 ·rw [if_pos h1]
  have h1':(v1<v2)=True:=by simpa using h1
  clear h1;go_enter Tryz.func175,Tryz.ntmps175;go_wp2;go_ret;exact ⟨rfl,0,_,by rw [alloc_eq_grow,alloc_eq_grow,grow_grow];rfl⟩
 ·rw [if_neg h1]
  have h1':(v1<v2)=False:=by simpa using h1
  by_cases h2:v2<v1
  ·rw [if_pos h2]
   have h2':(v2<v1)=True:=by simpa using h2
   clear h1 h2;go_enter Tryz.func175,Tryz.ntmps175;go_wp2;go_ret;exact ⟨rfl,0,_,by rw [alloc_eq_grow,alloc_eq_grow,grow_grow];rfl⟩
  ·rw [if_neg h2]
   have h2':(v2<v1)=False:=by simpa using h2
   have C:=hI (fun w=>cmp_any u1 u2 w);obtain ⟨r,hr⟩:∃ r,Lib.compareBytes (kb u1) (kb u2)=r:=⟨_,rfl⟩;rw [hr] at C ⊢;clear h1 h2 hr;go_enter Tryz.func175,Tryz.ntmps175;go_wp2_with fail;refine (C.out _).mono ?_;rintro e w1 ⟨rfl,e1⟩;obtain rfl:=e1.symm;go_wp2;go_ret;exact ⟨rfl,0,_,by rw [alloc_eq_grow,alloc_eq_grow,grow_grow];rfl⟩
theorem order_lays (blk off size:Nat) (w:World):CmpLays Tryz.prog 175 #[] It.cells 4 ordI blk off size w:=fun _ _ _ _ x y=>order_any x y _
theorem sort_it (w:World) (F:Nat→Prop) (A:Option Addr) (n c:Nat) (l:List It) (ho:Own w F 55 4 (.slice A n c) n (itc l)) (hz:n≤1000000) (hu:(l.map (·.uid)).Nodup) :
  Calls Tryz.prog 174 #[.slice A n c,.func (.func 175) #[] #[]] w fun e w'=>e = .returned (.tuple #[])∧Own w' F 55 4 (.slice A n c) n (itc (sortI l))∧Kept F w w':=by
 have hl:l.length=n:=by have:=ho.sl.1;rw [itc_length] at this;omega
 have hk4:∀ x:It,x.cells.length=4:=fun _=>rfl;obtain ⟨⟨_,h1⟩,h2⟩:=ho;rcases h1 with ⟨h3,h4⟩|⟨g,cap,cur,h3,hb,hg,hnc,hm,hs,ht⟩
 ·injection h3 with e1 e2 e3
  subst e1 e2 e3;have hn:l=[]:=List.eq_nil_of_length_eq_zero hl;subst hn;refine (AnyF.slices_SortFunc_none Tryz.sortI none 0 (.func (.func 175) #[] #[]) w).mono ?_;rintro e w' ⟨rfl,rfl⟩;exact ⟨rfl,by simpa [sortI,itc] using Own.nil _ _ _ _,Kept.refl _ _⟩
 ·injection h3 with e1 e2 e3
  subst e1 e3;subst hl;have hH:=holdsK_of_block (enc:=It.cells) (l:=l) hk4 hg (by simpa [itc] using ht)
  have hgl:=(Array.getElem?_eq_some_iff.1 hg).1;have eg:∀ args w,(callFunc 175 args).run Tryz.prog w = .ok (.enter 175 args) w:=enters_of Tryz.func175 (by kernel_rfl) rfl
  have hcon:=AnyQ.slices_SortFunc Tryz.sortI 4 Tryz.isAgg55 Tryz.sizeOf55 It.cells hk4 (fun x v hv=>by simp [It.cells] at hv;rcases hv with rfl|rfl|rfl|rfl <;> rfl) ordI swoI 175 #[] g 0 c l.toArray w eg (order_lays g 0 l.toArray.size w) hH hgl (by simp;omega)
  change Calls Tryz.prog 174 _ _ _ at hcon
  refine hcon.mono ?_;rintro e w' ⟨rfl,d',nn,os,⟨hp1,hp2,hp3⟩,hsd,rfl⟩;have hpl:d'.toList.Perm l:=by
   have e1:d'.extract 0 l.toArray.size=d':=by rw [←hp1];simp
   have e2:l.toArray.extract 0 l.toArray.size=l.toArray:=by simp
   rw [e1,e2] at hp3;exact hp3
  have hpw:d'.toList.Pairwise (fun x y=>¬ltI y x):=by
   rw [List.pairwise_iff_getElem];intro i j hi hj hij;have hi':i<d'.size:=by simpa using hi
   have hj':j<d'.size:=by simpa using hj
   have:=hsd i j (Nat.zero_le _) hij (by rw [←hp1];exact hj')
   rw [getElem!_pos d' j hj',getElem!_pos d' i hi',ltOf_no] at this;simpa using this
  have hd:d'.toList=sortI l:=by
   refine (sorted_uniq (sortI_pair l) hpw ?_ ((sortI_perm l).trans hpl.symm)).symm;exact ((sortI_perm l).map (·.uid)).nodup_iff.2 hu
  obtain ⟨ts⟩:=d';simp only at hd;subst hd;refine ⟨rfl,⟨?_,h2⟩,?_⟩
  ·have:=ownsRow_sortedK (enc:=It.cells) (base:=0) (n:=nn) (os:=os) (l:=l) (ts:=sortI l) hk4 ((sortI_perm l).length_eq) (Nat.zero_le _) hg hnc hm hs
   exact this
  ·have:=grownBy_sortedK (enc:=It.cells) (k:=4) (w:=w) (g:=g) (n:=nn) (os:=os) (sortI l).toArray
   exact (Kept.refl F w).grown this (fun k e=>.inl (h2 k (by cases e;rfl)))
end
section
open Go.RowKit
attribute [local go_sem] Oper.semAt_some
theorem underE_all' {α:Type} (es:List (En α)):underE es (kb ⟨#[]⟩)=es:=by
 have h0:low es (kb ⟨#[]⟩)=0:=low_of es 0 (Nat.zero_le _) (fun p e h=>by omega) (fun e _ h=>by simp [kb] at h)
 unfold underE;rw [h0,List.drop_zero,takeWhile_all es es.length (Nat.le_refl _) (fun j e hj he=>by simp [kb,Lib.hasPrefix]) (fun e he=>by have:=(List.getElem?_eq_some_iff.1 he).1;omega),List.take_length]
theorem info_it:(Tryz.prog.info? 55).map (fun i=>(i.zero,i.size,i.bytes))=some (some (.agg #[.string ⟨#[]⟩,.int .i64 0,.bool false,.string ⟨#[]⟩]),4,48):=by kernel_rfl
theorem r_all (w:World) (g:Nat):Calls Tryz.prog 209 #[.pointer (some ⟨g,0,none⟩)] w fun e w' =>
  e = .returned (.func (.func 261) #[] #[.pointer (some ⟨w.heap.size,0,none⟩),.pointer (some ⟨w.heap.size+1,0,none⟩)])∧w'=(w.alloc (.cells #[.pointer (some ⟨g,0,none⟩)] 175)).alloc (.cells #[.string ⟨#[]⟩] 9):=by
 have C:=hI (fun w=>r_under w g ⟨#[]⟩);go_enter Tryz.func209,Tryz.ntmps209;go_wp2_with fail;refine (C.out _).mono ?_;rintro e w' ⟨rfl,rfl⟩;go_wp2;go_ret;exact ⟨rfl,rfl⟩
def crI (e:En Crd):It:=⟨e.1,e.2.version,false,e.2.text⟩
def Cl.live (c:Cl):List It:=c.cards.map crI
theorem cl_live (w:World) (F:Nat→Prop) (g:Nat) (c:Cl) (h:ClM w F g c):Calls Tryz.prog 172 #[pV g] w fun e w' =>
  ∃ A cp,e = .returned (.slice A c.cards.length cp)∧Own w' (fun b=>w.heap.size≤b) 55 4 (.slice A c.cards.length cp) c.cards.length (itc c.live)∧Pure w w':=by
 obtain ⟨gc,gl,h⟩:=h;have hr:=Run.start h;have hm:Mr w (fun b=>F b∨w.heap.size≤b) gc c.cards:=hr.get (P:=mrC gc c.cards) 1 rfl;have hn:=hm.2.2.1;unfold Cl.live;obtain ⟨es,hes⟩:∃ es,c.cards=es:=⟨_,rfl⟩;rw [hes] at hm hn ⊢;have H:=hI (hm.imp (G:=fun b=>b<w.heap.size) (fun b hb _=>hb));have hcc:=(hr.blk 0 rfl);have hcg:=(hcc.alloc (.cells #[.slice none 0 0] 43)).cell;obtain ⟨N,hN⟩:∃ N,w.heap.size=N:=⟨_,rfl⟩
 have HN:=hI hN;clear h hr hm hes hcc;refine (callsIn_wide (n:=5)).1 ?_;refine callsIn_of_wp_marks Tryz.func172 rfl trivial ?_ rfl;simp only [Tryz.ntmps172,List.size_toArray,List.length_cons,List.length_nil,Nat.reduceAdd,Nat.reduceSub,Array.replicate_succ,Array.replicate_zero,List.push_toArray,List.append_toArray,List.nil_append,List.cons_append];refine wpIn_wide.2 ?_;clear hN;go_wp2_with fail
 refine (r_all _ gc).mono ?_;rintro e w' ⟨rfl,rfl⟩;go_wp2;obtain ⟨W0,hW0⟩:∃ W0,((w.alloc (.cells #[.slice none 0 0] 43)).alloc (.cells #[.pointer (some ⟨gc,0,none⟩)] 175)).alloc (.cells #[.string ⟨#[]⟩] 9)=W0:=⟨_,rfl⟩;have hk0:Pure w W0:=by rw [←hW0];exact (((Kept.refl _ w).alloc _).alloc _).alloc _
 have hs0:W0.heap.size=N+3:=by rw [←hW0,←HN.out];simp
 have hO:Blk W0 N 43 #[.slice none 0 0]:=by rw [←hW0,←HN.out];exact ((Blk.new w _ _).alloc _).alloc _
 have hM:Blk W0 (N+1) 175 #[.pointer (some ⟨gc,0,none⟩)]:=by
  rw [←hW0,←HN.out];have:=Blk.new (w.alloc (.cells #[.slice none 0 0] 43)) 175 #[.pointer (some ⟨gc,0,none⟩)];rw [World.size_alloc] at this;exact this.alloc _
 have hP:Blk W0 (N+2) 9 #[.string ⟨#[]⟩]:=by
  rw [←hW0,←HN.out];have:=Blk.new ((w.alloc (.cells #[.slice none 0 0] 43)).alloc (.cells #[.pointer (some ⟨gc,0,none⟩)] 175)) 9 #[.string ⟨#[]⟩];rw [World.size_alloc,World.size_alloc] at this;exact this
 have hMp:Mr W0 (fun b=>b<N) gc es:=(H.out.imp (fun b hl h=>by have:=HN.out;omega)).kept hk0 (fun _ _ _ h=>h)
 have hst:=r_stops (5-1) (by omega) (N+1) (N+2) gc (fun b=>b=N∨N+3≤b) _ es ⟨#[]⟩ W0 hM (by omega) hP (by omega) hMp (fun b h=>by omega)
 rw [underE_all'] at hst;rw [hW0,HN.out];have Hk0:=hI hk0;clear hW0 hM hP hMp hcg hk0;refine (wpIn_wide (n:=5)).1 ?_;refine wpIn_rangeFunc_ownH rfl (by omega) (gf:=261) (lb:=#[.pointer (some ⟨N+1,0,none⟩),.pointer (some ⟨N+2,0,none⟩)]) rfl trivial (enters_of Tryz.func261 (by kernel_rfl) rfl) hst kept_t (kept_b (fun b hb=>by omega)) (Below.refl _ _) (fun _=>rfl)
  (fun pre W=>(∃ A cp,Blk W N 43 #[.slice A pre.length cp]∧Own W (fun b=>N+3≤b) 55 4 (.slice A pre.length cp) pre.length (itc (pre.map crI)))∧Kept (fun b=>b=N∨N+3≤b) W0 W)
  (fun _ _ _=>False)
  (OwnFrom.and (fun pre A B row ⟨a,c,h1,h2⟩ hg hr=>⟨a,c,h1.grown hg (fun r e=>(hr r e).2),h2.grown hg (fun r e=>(hr r e).2)⟩) (ownFrom_kept (fun b hb=>by omega)))
  (fun _ _ _ _ _ hs _ _=>hs)
  ⟨⟨none,0,hO,Own.nil _ _ _ _⟩,Kept.refl _ _⟩
  (fun x a' W=>∃ be,N+3≤be∧Blk W be 173 #[.int .i64 x.2.version,.string x.2.text]∧a'={ tmps:=#[pV g,undef,.slice none 0 0,.pointer (some ⟨N,0,none⟩),.string x.1,.pointer (some ⟨be,0,none⟩),pV g,.pointer (some ⟨g,0,none⟩),.pointer (some ⟨g,0,none⟩),pV gc,.func (.func 261) #[] #[.pointer (some ⟨N+1,0,none⟩),.pointer (some ⟨N+2,0,none⟩)],.string x.1,.agg #[.int .i64 x.2.version,.string x.2.text],undef,undef,undef,undef,undef,undef,undef,undef,undef,undef],defers:=[] })
  (fun x a' _ A B row ⟨be,h1,h2,h3⟩ hg hr=>⟨be,h1,h2.grown hg (fun r e=>(hr r e).2),h3⟩) ?assign ?body ?done ?stop
 case assign =>
  rintro l pre x W K ⟨⟨A,c,hv,hrow⟩,hk⟩ hK;simp only [encE,crV]
  gi_wp2
  have hsz:=hk.size;exact hK _ _ ((KeepsOthers.alloc W _).from _) ((Kept.refl _ W).alloc _) ⟨⟨A,c,hv.alloc _,hrow.alloc _⟩,hk.alloc _⟩ ⟨W.heap.size,by omega,Blk.new W _ _,rfl⟩
 case body =>
  rintro l pre x _ W _ _ ⟨⟨A,c,hv,hrow⟩,hk⟩ ⟨be,hbe,hbb,rfl⟩ hlt;have hc:=hv.cell;have hcb:=hbb.cell;have hsz:=hk.size
  gi_wp2_with (gi_at_builtin;refine held ?_)
  refine unheld ?_;refine wpIn_collect (N+3) Tryz.underlying43 info_it rfl (by omega) (by simp;omega) (hrow.alloc _) (Sl.lit W #[.string x.1,.int .i64 x.2.version,.bool false,.string x.2.text] 55 4 1 _ rfl rfl) (fun u hu=>by simp at hu;rcases hu with rfl|rfl|rfl|rfl <;> rfl) (by omega) (by omega) rfl _ _ rfl rfl rfl ?_
  intro A' c' w1 ho1 hk1 hoth1;have hv1:=(hv.alloc (.cells #[.string x.1,.int .i64 x.2.version,.bool false,.string x.2.text] 55)).kept hk1 (by omega)
  have hc1:=hv1.cell;have hf1:=hv1.frozen 0;have hb2:=hv1.set 0 (.slice A' (pre.length+1) c');have hks:=(Kept.refl (· = N) w1).setCell (p:=⟨N,0,none⟩) (.inl rfl) (.slice A' (pre.length+1) c');have ho2:=ho1.kept hks (fun b _ h e=>by omega)
  have hkk:Kept (fun b=>b=N∨N+3≤b) W (w1.setCell ⟨N,0,none⟩ (.slice A' (pre.length+1) c')):=((((Kept.refl _ W).alloc (.cells #[.string x.1,.int .i64 x.2.version,.bool false,.string x.2.text] 55)).same (hk1.mono (fun _ _ h=>.inr h))).same (hks.mono (fun _ _ h=>.inl h)));have hko:KeepsOthers W (w1.setCell ⟨N,0,none⟩ (.slice A' (pre.length+1) c')):=((KeepsOthers.alloc W _).trans hoth1).trans (KeepsOthers.setCell _ _ _)
  have Hb2:=hI hb2;have Ho2:=hI ho2;have Hkk:=hI hkk;have Hko:=hI hko;clear hb2 ho2 hkk hko hks hv1 hk1 hoth1 ho1
  gi_wp2
  have hit:itc ((pre++[x]).map crI)=itc (pre.map crI)++[.string x.1,.int .i64 x.2.version,.bool false,.string x.2.text]:=by
   rw [List.map_append];simp [itc,It.cells,crI]
  refine ⟨Hko.out.from _,Hkk.out,⟨A',c',?_,?_⟩,hk.same Hkk.out⟩
  ·simpa using Hb2.out
  ·rw [hit];simpa using Ho2.out
 case done =>
  rintro D ys W hD rfl ⟨⟨A,c,hv,hrow⟩,hk⟩ hK;have hc:=hv.cell;go_wp2;refine ⟨by simp,.inl ⟨_,_,rfl,run_takeDeferred hK,?_⟩⟩
  have hgr:=grownBy_putObj' W D (.deferred none);have hr:∀ r,some D=some r→∃ o:Obj,W.heap[r]? = some o∧o.isCells=false:=fun r e=>by cases e;exact ⟨_,hK,rfl⟩
  refine ⟨_,results_tmp rfl _ _ _,A,c,rfl,(hrow.grown hgr hr).imp (fun b _ h=>by have:=HN.out;omega),?_⟩
  have hkk:Kept (fun b=>b=N∨N+3≤b) W0 (W.putObj D (.deferred none)):=hk.grown hgr (fun k e=>by cases e;exact .inl (.inr (by omega)))
  exact Hk0.out.trans hkk (fun i hi h=>by have:=HN.out;omega)
 case stop =>
  rintro D c pre W _ _ h _;exact h.elim
end
end Go.Proofs.YtjfpfeapbcjioaaGreat
