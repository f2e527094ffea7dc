/-
  The texts of this claim, put together: RgS, RgU.
-/
import Derived.Sort.OwnSorted
import Derived.Shelf.Sort.Plain
import Derived.Shelf.Slices.In.SortNone
import Derived.Test.YtjfpfeapbcjioaaGreatZRg
import Derived.Test.YtjfpfeapbcjioaaGreatZIter
import Derived.Test.YtjfpfeapbcjioaaGreatZLays
import Derived.LoopTactic
import Derived.Deep.QuietTactic
import Derived.BigQuiet
import Derived.Test.YtjfpfeapbcjioaaGreatZOmU
set_option linter.unusedSimpArgs false
set_option linter.unusedVariables false
set_option maxHeartbeats 12800000
set_option maxRecDepth 100000
namespace Go.Proofs.YtjfpfeapbcjioaaGreat
section
open Go.RowKit
theorem rise_uniq_le:∀ {a b:List (List UInt8)},a.Pairwise (fun x y=>¬y<x)→b.Pairwise (fun x y=>x<y)→a.Perm b→a=b
 | [],b,_,_,h=>(List.Perm.nil_eq h)
 | x::a,[],_,_,h=>by have:=h.length_eq;simp at this
 | x::a,y::b,ha,hb,h=>by
  have ha':=List.pairwise_cons.1 ha;have hb':=List.pairwise_cons.1 hb;have hxy:x=y:=by
   have h1:x∈y::b:=h.mem_iff.1 (List.mem_cons_self);have h2:y∈x::a:=h.mem_iff.2 (List.mem_cons_self);rcases List.mem_cons.1 h1 with h1|h1
   ·exact h1
   ·rcases List.mem_cons.1 h2 with h2|h2
    ·exact h2.symm
    ·exact absurd (hb'.1 x h1) (ha'.1 y h2)
  subst hxy;rw [rise_uniq_le ha'.2 hb'.2 h.cons_inv]
theorem sorted_eq {L U:List ByteArray} (hp:L.Perm U) (hU:U.Pairwise fun a b=>kb a<kb b):(L.map kb).mergeSort (fun x y=>decide (x≤y))=U.map kb:=by
 refine rise_uniq_le ?_ (List.pairwise_map.2 hU) ((List.mergeSort_perm _ _).trans (hp.map _));have h1:((L.map kb).mergeSort (fun x y=>decide (x≤y))).Pairwise (fun x y=>decide (x≤y)=true):=List.pairwise_mergeSort (by
  intro a b c h1 h2;simp only [decide_eq_true_eq] at *;exact le_tr h1 h2) (by
  intro a b;simp only [Bool.or_eq_true,decide_eq_true_eq];rcases cmp_tri a b with ⟨h,_⟩|⟨h,_⟩|⟨h,_⟩
  ·exact .inl (fun k=>lt_asym h k)
  ·subst h;exact .inl (lt_irr _)
  ·exact .inr (fun k=>lt_asym h k)) _
 exact h1.imp (fun h=>by simpa using h)
theorem enc_kb (l:List ByteArray):(l.map kb).map encStr=l.map Value.string:=by
 rw [List.map_map];rfl
theorem sort_s (w:World) (F:Nat→Prop) (A:Option Addr) (n c:Nat) (l U:List ByteArray) (ho:Own w F 9 1 (.slice A n c) n (l.map Value.string)) (hz:n≤1000000) (hp:l.Perm U) (hU:U.Pairwise fun a b=>kb a<kb b) :
  Calls Tryz.prog 130 #[.slice A n c] w fun e w'=>e = .returned (.tuple #[])∧Own w' F 9 1 (.slice A n c) n (U.map Value.string)∧Kept F w w':=by
 have hl:l.length=n:=by have:=ho.sl.1;simpa using this
 obtain ⟨⟨_,h1⟩,h2⟩:=ho;rcases h1 with ⟨h3,h4⟩|⟨g,cap,cur,h3,hb,hg,hnc,hm,hs,ht⟩
 ·injection h3 with e1 e2 e3
  subst e1 e2 e3;have hn:l=[]:=List.eq_nil_of_length_eq_zero hl;subst hn;obtain rfl:U=[]:=hp.nil_eq.symm;refine (Any.slices_Sort_string_none Tryz.lays190 none 0 w).mono ?_;rintro e w' ⟨rfl,rfl⟩;exact ⟨rfl,by simpa using Own.nil _ _ _ _,Kept.refl _ _⟩
 ·injection h3 with e1 e2 e3
  subst e1 e3;have hlk:(l.map kb).length=n:=by rw [List.length_map,hl]
  rw [Nat.mul_one,←enc_kb,←hlk] at ht;have hH:=holds_of_block (ss:=l.map kb) hg ht;have hgl:=(Array.getElem?_eq_some_iff.1 hg).1;have hlu:(U.map kb).length=(l.map kb).length:=by rw [List.length_map,List.length_map,hp.length_eq]
  subst hlk;refine (Any.slices_Sort_string Tryz.lays190 g 0 c (l.map kb) w hH hgl (by omega)).mono ?_
  rintro e w' ⟨rfl,nn,os,rfl⟩;rw [sorted_eq hp hU];refine ⟨rfl,⟨?_,h2⟩,?_⟩
  ·have:=ownsRow_sorted (base:=0) (n:=nn) (os:=os) (ss:=l.map kb) (ts:=U.map kb) hlu (Nat.zero_le _) hg hnc hm hs
   rw [enc_kb] at this;exact this
  ·have:=grownBy_sorted (w:=w) (g:=g) (n:=nn) (os:=os) (U.map kb).toArray
   exact (Kept.refl F w).grown this (fun k e=>.inl (h2 k (by cases e;rfl)))
theorem wpIn_collectF {Fe:Fence} {nn:Nat} {P:Program} {w:World} {ops:Array Oper} {rest:List Oper} {o:Oper} {a:Act} {Q:Exit→Act→World→Prop} {t e:TypeId} {z:Value} {k by_:Nat} (ht:P.underlying t=some (.slice e)) (hI:(P.info? e).map (fun i=>(i.zero,i.size,i.bytes))=some (some z,k,by_)) (hzs:z.cells.size=k) (hk:0<k)
  {v:Value} {n:Nat} {xs:List Value} {F G:Nat→Prop} (hF:F w.heap.size) (hown:Own w F e k v n xs) {A:Option Addr} {m c:Nat} {news:List Value} (hr:Sl w G k A m news) (h1:∀ u∈news,u.oneCell'=true)
  (hbytes:n+m≤1073741824) (hb2:by_≤65536)
  (hgd:o.guard=none) (s x:Operand) (ho:o.op = .call { callee:=.builtin .append,args:=#[s,x],argTypes:=#[t,t] }) (hs:a.eval s=v) (hx:a.eval x = .slice A m c)
  (h:∀ A' c' w',Own w' F e k (.slice A' (n+m) c') (n+m) (xs++news)→Kept F w w'→KeepsOthers w w'→wpListIn Fe nn P ops Q rest (a.put o.dst (.slice A' (n+m) c')) w'):wpListIn Fe nn P ops Q (o::rest) a w:=by
 have hown':Own w (fun b=>v.ownBlock=some b) e k v n xs:=⟨hown.1,fun g h=>h⟩;refine wpIn_app ht hI hzs hk hown' hr h1 hbytes hb2 hgd s x ho hs hx fun v' w' h2 h3=>?_;have h4:Own w' F e k v' (n+m) (xs++news):=h2.imp fun b _ h=>by
  rcases h with h|h
  ·exact hown.2 b h
  ·rw [h];exact hF
 obtain ⟨A',c',rfl,_⟩:=h4.form;exact h A' c' w' h4 (h3.mono fun i _ h=>hown.2 i h) (others_of_kept h3 fun k' o' hk' hs'=>own_cells hown hs' hk')
def markD (D:Nat):Deferred:={ target:=.collected D,args:=#[] }
theorem leaves_marks {F:Fence} {n:Nat} {P:Program} {fn:Func} {tmps:Array Value} {R:Ending→World→Prop}:∀ (ds:List Nat) (w:World),ds.Nodup→(∀ D∈ds,w.heap[D]? = some (.deferred (some []))) →
  (∀ w',Kept (fun b=>b∈ds) w w'→LeavesIn F n P fn tmps R [] .returning w')→LeavesInM F n P fn tmps R (ds.map markD) .returning w
 | [],w,_,_,h=>h w (Kept.refl _ _)
 | D::ds,w,hd,hk,h=>by
  rw [List.nodup_cons] at hd;refine ⟨by simp,.inl ⟨D,_,rfl,run_takeDeferred (hk D List.mem_cons_self),?_⟩⟩
  have hp:Kept (fun b=>b∈D::ds) w (w.putObj D (.deferred none)):=(Kept.refl _ w).grown (grownBy_putObj' w D _) (fun k e=>by cases e;exact .inl List.mem_cons_self)
  refine leaves_marks ds _ hd.2 (fun D' hD'=>?_) (fun w' hk'=>h w' (hp.same (hk'.mono (fun b _ h=>List.mem_cons_of_mem _ h))));have hne:D'≠D:=fun e=>hd.1 (e ▸ hD');rw [World.putObj_heap_other (by omega)]
  exact hk D' (List.mem_cons_of_mem _ hD')
end
section
open Go.RowKit
attribute [local go_sem] Oper.semAt_some
theorem info_s1:(Tryz.prog.info? 9).map (fun i=>(i.zero,i.size,i.bytes))=some (some (.string ⟨#[]⟩),1,16):=by kernel_rfl
def unK (ms:List Es) (p:ByteArray) (k:Nat):List ByteArray:=((ms.take k).map fun f=>underE f (kb p)).flatten.map Prod.fst
theorem unK_succ {ms:List Es} {p:ByteArray} {k:Nat} {f:Es} (h:ms[k]? = some f):unK ms p (k+1)=unK ms p k++(underE f (kb p)).map Prod.fst:=by
 unfold unK;rw [List.take_add_one,h,Option.toList_some,List.map_append,List.flatten_append,List.map_append];simp
def UI (w:World) (N:Nat) (L:List ByteArray) (ds:List Nat) (W:World):Prop :=
 ds.Nodup∧(∀ D∈ds,N<D∧W.heap[D]? = some (.deferred (some []))) ∧
 (∃ A c,Blk W N 79 #[.slice A L.length c]∧Own W (fun b=>N<b) 9 1 (.slice A L.length c) L.length (L.map Value.string))∧Pure w W
theorem rg_under (w:World) (F:Nat→Prop) (m g:Nat) (es:Es) (p:ByteArray) (h:Rg m w F g es) (hn:es.length≤1000) :
  Calls Tryz.prog 65 #[ptrV g,.string p] w fun e w'=>∃ A c,e = .returned (.slice A (unE es p).length c)∧Own w' (fun b=>w.heap.size≤b) 9 1 (.slice A (unE es p).length c) (unE es p).length ((unE es p).map Value.string)∧Pure w w':=by
 obtain ⟨ms,A,c,gs,h⟩:=h;have hb:=h.blk;have hs:=h.own.sl;have hm:=h.pos;have hc:=hb.cell;obtain ⟨b,o,rfl,_,_,_⟩:=hs.2 (by omega)
 have hLn:∀ k,(unK ms p k).length≤1000:=fun k=>by
  have h1:(unK ms p k).length≤(unK ms p ms.length).length:=by
   rw [show unK ms p ms.length=(ms.map fun f=>underE f (kb p)).flatten.map Prod.fst from by unfold unK;rw [List.take_length]]
   unfold unK;rw [List.length_map,List.length_map];have:((ms.take k).map fun f=>underE f (kb p)).flatten.length≤((ms).map fun f=>underE f (kb p)).flatten.length:=by
    rw [←List.take_append_drop k ms,List.map_append,List.flatten_append,List.length_append,List.take_append_drop];omega
   exact this
  have h2:=(h.shd.under p).length_eq;rw [show unK ms p ms.length=(ms.map fun f=>underE f (kb p)).flatten.map Prod.fst from by unfold unK;rw [List.take_length]] at h1
  rw [List.length_map] at h1 h2;rw [unE,List.length_map] at h2;have h3:=List.length_filter_le (fun e:En Int=>Lib.hasPrefix (kb e.1) (kb p)) es;omega
 have hperm:(unK ms p m).Perm (unE es p):=by
  have:=h.shd.under p;unfold unK;rw [List.take_of_length_le (by rw [h.ml];omega)]
  exact this
 have hrise:=unE_rise h.shd.rise p;have hcells:∀ wx,Pure w wx→∀ k x,gs[k]? = some x→wx.cell? ⟨b,o+k,none⟩=some (ptrV x):=fun wx hp k x hx=>sl_one1 (hs.kept hp (fun _ _ _ h=>h)) (by rw [List.getElem?_map,hx];rfl)
 obtain ⟨U,hU⟩:∃ U,unE es p=U:=⟨_,rfl⟩;rw [hU] at hperm hrise ⊢;clear hU;have hgl:=h.gl;have hml:=h.ml;have H:=hI h;have Hcells:=hI hcells;have HLn:=hI hLn;have Hperm:=hI hperm;have Hrise:=hI hrise;have Hb:=hI hb;clear h hcells hLn hperm hrise hb;refine (callsIn_wide (n:=7)).1 ?_;refine callsIn_of_wp_marks Tryz.func65 rfl trivial ?_ rfl;simp only [Tryz.ntmps65,List.size_toArray,List.length_cons,List.length_nil,Nat.reduceAdd,Nat.reduceSub,Array.replicate_succ,Array.replicate_zero,List.push_toArray,List.append_toArray,List.nil_append,List.cons_append]
 refine wpIn_wide.2 ?_;obtain ⟨N,hN⟩:∃ N,w.heap.size=N:=⟨_,rfl⟩;have hc1:=(Hb.out.alloc (.cells #[.slice none 0 0] 79)).cell;have hui:UI w N (unK ms p 0) [] (w.alloc (.cells #[.slice none 0 0] 79)):=by
  refine ⟨List.nodup_nil,fun D h=>by simp at h,⟨none,0,?_,?_⟩,(Kept.refl _ _).alloc _⟩
  ·rw [←hN];exact Blk.new w _ _
  ·exact Own.nil _ _ _ _
 have Hui:=hI hui;have HN:=hI hN;clear hui hs;go_wp2;clear hN hc1;refine wp_loop (fun a' w'=>∃ (k:Nat) (ds:List Nat) (u7 u14 u15 u16 u17 u18 u19 u20 u27:Value),(u14 = .int .i64 k∧k≤m∧Hid (UI w N (unK ms p k) ds w')) ∧
   a'={ tmps:=#[ptrV g,.string p,undef,undef,.slice none 0 0,ptrV N,undef,u7,undef,ptrV g,ptrV g,ptrV g,.slice (some ⟨b,o,none⟩) m c,.int .i64 m,u14,u15,u16,u17,u18,u19,u20,undef,undef,undef,undef,undef,undef,u27,undef,undef,undef],defers:=ds.map markD })
  (fun a' _=>m-(intOf (a'.tmps.getD 14 undef)).toNat) ?_ ?_
 ·exact ⟨0,[],undef,_,undef,undef,undef,undef,undef,undef,undef,⟨rfl,Nat.zero_le _,Hui⟩,rfl⟩
 ·rintro _ wr ⟨k,ds,u7,u14,u15,u16,u17,u18,u19,u20,u27,⟨rfl,hk,hu⟩,rfl⟩
  by_cases hkm:k<m
  ·obtain ⟨x,hx⟩:∃ x,gs[k]? = some x:=⟨_,List.getElem?_eq_getElem (by omega)⟩
   obtain ⟨f,hf⟩:∃ f,ms[k]? = some f:=⟨_,List.getElem?_eq_getElem (by omega)⟩
   have hcx:=Hcells.out wr hu.out.2.2.2 k x hx;have hki:(k:Int)<(m:Int):=by omega
   have CU:=hI (fun w=>i_under w x p);go_wp2_with fail;refine (CU.out _).mono ?_;rintro e w9 ⟨rfl,rfl⟩;go_wp2;obtain ⟨L,hL⟩:∃ L,unK ms p k=L:=⟨_,rfl⟩;have hLs:unK ms p (k+1)=L++(underE f (kb p)).map Prod.fst:=by rw [←hL];exact unK_succ hf
   have hLz:=HLn.out (k+1);rw [hLs,List.length_append,List.length_map] at hLz;rw [hL] at hu;obtain ⟨hnd,hmk,⟨A,c1,hO,hrow⟩,hpw⟩:=hu.out;obtain ⟨B,hB⟩:∃ B,wr.heap.size=B:=⟨_,rfl⟩;obtain ⟨W0,hW0⟩:∃ W0,(wr.alloc (.cells #[.pointer (some ⟨x,0,none⟩)] 158)).alloc (.cells #[.string p] 9)=W0:=⟨_,rfl⟩;have k0:Pure wr W0:=by rw [←hW0];exact ((Kept.refl _ wr).alloc _).alloc _
   have s0:W0.heap.size=B+2:=by rw [←hW0,←hB];simp
   have bM:Blk W0 B 158 #[.pointer (some ⟨x,0,none⟩)]:=by rw [←hW0,←hB];exact (Blk.new wr _ _).alloc _
   have bP:Blk W0 (B+1) 9 #[.string p]:=by
    rw [←hW0,←hB];have:=Blk.new (wr.alloc (.cells #[.pointer (some ⟨x,0,none⟩)] 158)) 9 #[.string p];rw [World.size_alloc] at this;exact this
   have hNB:N<B:=by rw [←hB];exact hO.lt
   have hNw:=HN.out;have hO0:=hO.kept k0 (fun h=>h);have hrow0:Own W0 (fun b=>N<b∧b≠B∧b≠B+1) 9 1 (.slice A L.length c1) L.length (L.map Value.string):=(hrow.imp (G:=fun b=>N<b∧b≠B∧b≠B+1) (fun b hb h=>⟨h,by omega,by omega⟩)).kept k0 (fun _ _ _ h=>h)
   have hMp:Mpi W0 (fun b=>F b∧b<N) x f:=((H.out.map hx hf).imp (fun b hb h=>⟨h,by omega⟩)).kept (hpw.same k0) (fun _ _ _ h=>h)
   have hmk0:∀ D∈ds,N<D∧D<B+2∧W0.heap[D]? = some (.deferred (some [])):=fun D hD=>by
    have h1:=(hmk D hD).2;have h2:=(Array.getElem?_eq_some_iff.1 h1).1;exact ⟨(hmk D hD).1,by omega,(k0.block D h2 (fun h=>h)).trans h1⟩
   have hst:=i_stops (7-1) (by omega) B (B+1) x (fun b=>N≤b∧b≠B∧b≠B+1) _ f p W0 bM (by omega) bP (by omega) hMp (fun b h=>by omega)
   have Hmk0:=hI hmk0;have Hnd:=hI hnd;have HLs:=hI hLs;have Hk0:=hI (hpw.same k0);rw [hB,hW0];clear hW0 bM bP hMp hO hrow hmk hmk0 hnd hpw k0 hLs hL;refine (wpIn_wide (n:=7)).1 ?_;refine wpIn_rangeFunc_ownG rfl (by omega) (gf:=178) (lb:=#[.pointer (some ⟨B,0,none⟩),.pointer (some ⟨B+1,0,none⟩)]) rfl trivial (enters_of Tryz.func178 (by kernel_rfl) rfl) hst kept_t (kept_b (fun b hb=>by omega)) (Below.refl _ _) (fun _=>rfl)
    (fun pre W=>(∃ A c,Blk W N 79 #[.slice A (L.length+pre.length) c]∧Own W (fun b=>N<b∧b≠B∧b≠B+1) 9 1 (.slice A (L.length+pre.length) c) (L.length+pre.length) (L.map Value.string++pre.map fun e:En Int=>Value.string e.1))∧Kept (fun b=>N≤b∧b≠B∧b≠B+1) W0 W∧(∀ D∈ds,W.heap[D]? = some (.deferred (some []))))
    (fun _ _ _=>False)
    (OwnFrom.and (fun pre A B row ⟨a,c,h1,h2⟩ hg hr=>⟨a,c,h1.grown hg (fun r e=>(hr r e).2),h2.grown hg (fun r e=>(hr r e).2)⟩) (OwnFrom.and (ownFrom_kept (fun b hb=>by omega)) (fun pre A B row h hg hr D hD=>by
     have h1:=Hmk0.out D hD;have h2:=h D hD;exact (hg.block D (Array.getElem?_eq_some_iff.1 h2).1 (fun e=>by have:=(hr D e.symm).1;omega)).trans h2)))
    (fun _ _ _ _ _ hs _ _=>hs)
    ⟨⟨A,c1,hO0,by simpa using hrow0⟩,Kept.refl _ _,fun D hD=>(Hmk0.out D hD).2.2⟩
    (fun e=>{ tmps:=#[ptrV g,.string p,undef,undef,.slice none 0 0,ptrV N,undef,ptrV x,.string e.1,ptrV g,ptrV g,ptrV g,.slice (some ⟨b,o,none⟩) m c,.int .i64 m,.int .i64 k,.bool true,.pointer (some ⟨b,o+k,none⟩),ptrV x,ptrV x,.string p,.func (.func 178) #[] #[.pointer (some ⟨B,0,none⟩),.pointer (some ⟨B+1,0,none⟩)],.string e.1,.int .i64 e.2,undef,undef,undef,undef,u27,undef,undef,undef],defers:=[] }) ?assign ?body ?done ?stop
   case assign =>
    intro l e W K hK;simp only [encE]
    gi_wp2
    exact hK
   case body =>
    rintro l pre e W ⟨⟨A,c2,hv,hrow⟩,hk,hmw⟩ hlt;have hc:=hv.cell;have hsz:=hk.size
    gi_wp2_with (gi_at_builtin;refine held ?_)
    refine unheld ?_;refine wpIn_collectF Tryz.underlying79 info_s1 rfl (by omega) (by simp;omega) (hrow.alloc _) (Sl.one W (.string e.1) _) (by simp [Value.oneCell']) (by omega) (by omega) rfl _ _ rfl rfl rfl ?_
    intro A' c' w1 ho1 hk1 hoth1;have hv1:=(hv.alloc _).kept hk1 (fun h=>by omega)
    have hf1:=hv1.frozen 0;have hcw:=hv1.cell;have hb2:=hv1.set 0 (.slice A' (L.length+pre.length+1) c');have hks:=(Kept.refl (· = N) w1).setCell (p:=⟨N,0,none⟩) (.inl rfl) (.slice A' (L.length+pre.length+1) c');have ho2:=ho1.kept hks (fun b hl hb e=>by omega)
    have hkk:Kept (fun b=>N≤b∧b≠B∧b≠B+1) W (w1.setCell ⟨N,0,none⟩ (.slice A' (L.length+pre.length+1) c')):=(((Kept.refl (fun _=>False) W).alloc _).mono (fun _ _ h=>h.elim)).same ((hk1.mono (fun b _ h=>⟨by omega,h.2⟩)).same (hks.mono (fun b _ h=>by have e:b=N:=h;omega)))
    have hko:KeepsOthers W (w1.setCell ⟨N,0,none⟩ (.slice A' (L.length+pre.length+1) c')):=((KeepsOthers.alloc W _).trans hoth1).trans (KeepsOthers.setCell _ _ _);have Hb2:=hI hb2;have Ho2:=hI ho2;have Hkk:=hI hkk;have Hko:=hI hko;clear hb2 ho2 hkk hko hks hv1 hk1 hoth1 ho1
    gi_wp2
    refine ⟨Hko.out.from _,Hkk.out,⟨A',c',?_,?_⟩,hk.same Hkk.out,fun D hD=>Hko.out.same D _ (hmw D hD) rfl⟩
    ·simpa [Nat.add_assoc] using Hb2.out
    ·simpa [Nat.add_assoc] using Ho2.out
   case done =>
    rintro D ys W hD rfl ⟨⟨A,c2,hv,hrow⟩,hkW,hmw⟩ hK;have hkk:Pure w W:=Hk0.out.trans hkW (fun i hi h=>by omega)
    have hui:UI w N (unK ms p (k+1)) (D::ds) W:=by
     refine ⟨List.nodup_cons.2 ⟨fun hD'=>by have:=(Hmk0.out D hD').2.1;omega,Hnd.out⟩,fun D' hD'=>?_,⟨A,c2,?_,?_⟩,hkk⟩
     ·rcases List.mem_cons.1 hD' with rfl|hD'
      ·exact ⟨by omega,hK⟩
      ·exact ⟨(Hmk0.out D' hD').1,hmw D' hD'⟩
     ·rw [HLs.out,List.length_append,List.length_map];exact hv
     ·rw [HLs.out,List.length_append,List.length_map,List.map_append,List.map_map]
      exact hrow.imp (fun b _ h=>h.1)
    have Hui2:=hI hui;clear hui hkk hv hrow hkW hmw hK;go_wp2;refine ⟨⟨k+1,D::ds,?_,?_,?_,?_,?_,?_,?_,?_,?_,⟨?h14,by omega,Hui2⟩,?eq⟩,?meas⟩
    case eq=>rfl
    case h14=>first|rfl|go_num
    case meas=>simp [intOf];omega
   case stop =>
    rintro D c pre W _ _ h _;exact h.elim
  ·obtain rfl:k=m:=by omega
   obtain ⟨hnd,hmk,⟨A,c1,hO,hrow⟩,hpw⟩:=hu.out;obtain ⟨L,hL⟩:∃ L,unK ms p k=L:=⟨_,rfl⟩;have hLz:=HLn.out k;have hpm:=Hperm.out;rw [hL] at hO hrow hLz hpm;have hul:=hpm.length_eq;have hNw:=HN.out;rw [hul] at hO hrow hLz;clear hul;have hcO:=hO.cell;have hrowF:Own wr (fun b=>(Value.slice A U.length c1).ownBlock=some b) 9 1 (.slice A U.length c1) U.length (L.map Value.string):=⟨hrow.1,fun b h=>h⟩;have hapart:∀ D∈ds,¬(Value.slice A U.length c1).ownBlock=some D:=fun D hD h=>by
    have:=own_cells hrow h (hmk D hD).2;cases this
   have hbig:∀ b,(Value.slice A U.length c1).ownBlock=some b→N<b:=fun b h=>hrow.2 b h;have CS:=hI (sort_s wr _ A U.length c1 L U hrowF (by omega) hpm Hrise.out)
   have Hapart:=hI hapart;have Hbig:=hI hbig;have Hnd:=hI hnd;have Hmk:=hI hmk;have HO:=hI hO;have Hpw:=hI hpw;clear hrow hnd hmk hO hpw hL hpm hrowF hapart hbig;go_wp2_with fail;refine (CS.out).mono ?_;rintro e w2 ⟨rfl,ho2,hk2⟩;have hO2:=HO.out.kept hk2 (fun h=>by have:=Hbig.out N h;omega)
   have hc2:=hO2.cell;have Hk2:=hI hk2;have Ho2:=hI ho2;clear hO2 hk2 ho2;go_wp2;have hmk2:∀ D∈ds,w2.heap[D]? = some (.deferred (some [])):=fun D hD=>by
    have h1:=(Hmk.out D hD).2;exact (Hk2.out.block D (Array.getElem?_eq_some_iff.1 h1).1 (fun h=>Hapart.out D hD h)).trans h1
   have hkN:Kept (fun b=>N≤b) w w2:=(Hpw.out.mono (fun _ _ h=>h.elim)).same (Hk2.out.mono (fun b _ h=>Nat.le_of_lt (Hbig.out b h)));refine leaves_marks ds w2 Hnd.out hmk2 (fun w3 hk3=>⟨_,results_tmp rfl _ _ _,A,c1,rfl,?_,?_⟩)
   ·exact (Ho2.out.kept hk3 (fun b _ h hD=>Hapart.out b hD h)).imp (fun b _ h=>by have:=Hbig.out b h;omega)
   ·exact (hkN.same (hk3.mono (fun b _ h=>by have:=(Hmk.out b h).1;omega))).mono (fun b hb h=>by omega)
end
end Go.Proofs.YtjfpfeapbcjioaaGreat
