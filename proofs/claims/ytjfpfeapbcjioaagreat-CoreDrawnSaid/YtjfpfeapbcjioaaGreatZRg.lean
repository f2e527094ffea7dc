/-
  The texts of this claim, put together: Rg, Ob, ObI, RgN.
-/
import Derived.LoopTactic
import Derived.Deep.QuietTactic
import Derived.BigQuiet
import Derived.Test.YtjfpfeapbcjioaaGreatZRgF
import Derived.Test.YtjfpfeapbcjioaaGreatZOwnO
import Derived.Test.YtjfpfeapbcjioaaGreatZOmI
import Derived.Deep.RegionLaw
import Derived.Test.YtjfpfeapbcjioaaGreatZOmU
import Derived.Test.YtjfpfeapbcjioaaGreatZFree
set_option linter.unusedSimpArgs false
set_option linter.unusedVariables false
set_option maxHeartbeats 12800000
set_option maxRecDepth 100000
namespace Go.Proofs.YtjfpfeapbcjioaaGreat
section
open Go.RowKit
def mpC (g:Nat) (es:Es):Ch:=⟨fun w F=>Mpi w F g es,Mp.imp,Mp.kept⟩
abbrev ptrV (g:Nat):Value:=.pointer (some ⟨g,0,none⟩)
def rgL (g:Nat) (A:Option Addr) (m c:Nat) (gs:List Nat) (ms:List Es):List Ch:=blkC g 157 #[.slice A m c]::ownC 158 1 (.slice A m c) m (gs.map ptrV)::List.zipWith mpC gs ms
structure RgAt (m:Nat) (w:World) (F:Nat→Prop) (g:Nat) (es:Es) (ms:List Es) (A:Option Addr) (c:Nat) (gs:List Nat):Prop where
 shd:Shd (shd m) ms es
 ml:ms.length=m
 gl:gs.length=m
 el:es.length≤90000
 pos:0<m∧m≤1000
 star:Star w F (rgL g A m c gs ms)
def Rg (m:Nat) (w:World) (F:Nat→Prop) (g:Nat) (es:Es):Prop:=∃ ms A c gs,RgAt m w F g es ms A c gs
section
variable {m g c:Nat} {w w':World} {F G S:Nat→Prop} {es:Es} {ms:List Es} {A:Option Addr} {gs:List Nat} {f:Es} {k:ByteArray}
theorem Rg.imp (h:Rg m w F g es) (hF:∀ b,b<w.heap.size→F b→G b):Rg m w G g es:=by
 obtain ⟨ms,A,c,gs,h⟩:=h;exact ⟨ms,A,c,gs,h.shd,h.ml,h.gl,h.el,h.pos,h.star.imp hF⟩
theorem Rg.kept (h:Rg m w F g es) (hk:Kept S w w') (hd:∀ b,b<w.heap.size→F b→¬S b):Rg m w' F g es:=by
 obtain ⟨ms,A,c,gs,h⟩:=h;exact ⟨ms,A,c,gs,h.shd,h.ml,h.gl,h.el,h.pos,h.star.kept hk hd⟩
theorem RgAt.pure (h:RgAt m w F g es ms A c gs) (hk:Pure w w'):RgAt m w' F g es ms A c gs:=⟨h.shd,h.ml,h.gl,h.el,h.pos,h.star.pure hk⟩
theorem RgAt.blk (h:RgAt m w F g es ms A c gs):Blk w g 157 #[.slice A m c]:=(h.star.get 0 rfl).2
theorem RgAt.own (h:RgAt m w F g es ms A c gs):Own w F 158 1 (.slice A m c) m (gs.map ptrV):=h.star.get 1 rfl
theorem zip_at {i:Nat} {x:Nat} (hg:gs[i]? = some x) (hf:ms[i]? = some f):(rgL g A m c gs ms)[i+2]? = some (mpC x f):=by
 show (List.zipWith mpC gs ms)[i]? = _
 rw [List.getElem?_zipWith,hg,hf]
theorem RgAt.map (h:RgAt m w F g es ms A c gs) {i x:Nat} (hg:gs[i]? = some x) (hf:ms[i]? = some f):Mpi w F x f:=h.star.get (i+2) (zip_at hg hf)
theorem zip_set {x:Nat} (f':Es):∀ {gs:List Nat} {ms:List Es} {i:Nat},gs[i]? = some x→(List.zipWith mpC gs ms).set i (mpC x f')=List.zipWith mpC gs (ms.set i f')
 | [],ms,i,h=>by simp at h
 | y::gs,[],i,h=>by simp
 | y::gs,f::ms,0,h=>by simp at h;subst h;rfl
 | y::gs,f::ms,i+1,h=>by
  have ih:=zip_set f' (gs:=gs) (ms:=ms) (i:=i) (by simpa using h)
  simp only [List.zipWith_cons_cons,List.set_cons_succ];rw [ih]
theorem RgAt.at (h:RgAt m w F g es ms A c gs) {i x:Nat} (hg:gs[i]? = some x) (hf:ms[i]? = some f):∃ G,(∀ b,G b→F b)∧Mpi w G x f ∧
  ∀ (w':World) (f' es':Es),Mpi w' (fun b=>G b∨w.heap.size≤b) x f'→Kept G w w'→es'.length≤90000→Shd (YtjfpfeapbcjioaaGreat.shd m) (ms.set i f') es'→Rg m w' (fun b=>F b∨w.heap.size≤b) g es':=by
 obtain ⟨G,h1,h2,h3⟩:=h.star.at (i+2) (zip_at hg hf);refine ⟨G,h1,h2,fun w' f' es' hm hk hl hs=>⟨ms.set i f',A,c,gs,hs,by rw [List.length_set,h.ml],h.gl,hl,h.pos,?_⟩⟩
 have:=h3 w' (mpC x f') hm hk;have e:(rgL g A m c gs ms).set (i+2) (mpC x f')=rgL g A m c gs (ms.set i f'):=by
  unfold rgL;rw [List.set_cons_succ,List.set_cons_succ,zip_set f' hg]
 rwa [e] at this
theorem RgAt.ptr (h:RgAt m w F g es ms A c gs) (k:ByteArray):∃ x,gs[YtjfpfeapbcjioaaGreat.shd m k]? = some x:=⟨_,List.getElem?_eq_getElem (by rw [h.gl];exact shd_lt h.pos.1 k)⟩
end
theorem sl_one1 {w:World} {F:Nat→Prop} {b o n i:Nat} {xs:List Value} {x:Value} (h:Sl w F 1 (some ⟨b,o,none⟩) n xs) (hi:xs[i]? = some x):w.cell? ⟨b,o+i,none⟩=some x:=by
 have hl:=(List.getElem?_eq_some_iff.1 hi).1;obtain ⟨b',o',he,_,_,hc⟩:=h.2 (by have:=h.1;omega)
 injection he with he
 injection he with e1 e2
 subst e1 e2;rw [hc i hl,hi]
theorem rg_shard (w:World) (F:Nat→Prop) (m c:Nat) (A:Option Addr) (gs:List Nat) (g x:Nat) (k:ByteArray) (hb:Blk w g 157 #[.slice A m c]) (ho:Own w F 158 1 (.slice A m c) m (gs.map ptrV)) (hx:gs[shd m k]? = some x) (hk:k.size≤1000000) (hm:0<m∧m≤1000) :
  Calls Tryz.prog 117 #[ptrV g,.string k] w fun e w'=>e = .returned (ptrV x)∧Pure w w':=by
 have C:=hI (fun w=>f_shard k m w hk hm.1 hm.2);have hc:=hb.cell;have hlt:=shd_lt hm.1 k;obtain ⟨b,o,rfl,_,_,_⟩:=ho.sl.2 (by omega)
 have hcx:=sl_one1 ho.sl (i:=shd m k) (x:=ptrV x) (by rw [List.getElem?_map,hx];rfl)
 generalize shd m k=i at *;have hi:(i:Int)<(m:Int):=by omega
 clear hb ho hx;go_enter Tryz.func117,Tryz.ntmps117;go_wp2
 go_quiet ((go_at_call 165;refine Calls.quiet_of_same (C.out _)))
 go_wp2;go_ret;exact ⟨rfl,(Kept.refl _ _).drewN _⟩
theorem rg_find (w:World) (F:Nat→Prop) (m g:Nat) (es:Es) (k:ByteArray) (h:Rg m w F g es) (hk:k.size≤1000000) :
  Calls Tryz.prog 57 #[ptrV g,.string k] w fun e w'=>e = .returned (.int .i64 (fdE es k))∧Pure w w':=by
 obtain ⟨ms,A,c,gs,h⟩:=h;obtain ⟨x,hx⟩:=h.ptr k;obtain ⟨f,hf⟩:=h.shd.get k;have C1:=hI (rg_shard w F m c A gs g x k h.blk h.own hx hk h.pos);have c2:=fun (w':World) (hp:Pure w w')=>i_get w' F x f k ((h.pure hp).map hx hf);rw [h.shd.val hf] at c2;unfold fdE;obtain ⟨V,hV⟩:∃ V,valAt es (kb k)=V:=⟨_,rfl⟩;rw [hV] at c2 ⊢;have C2:=hI c2;clear c2 h hx hf hV;go_enter Tryz.func57,Tryz.ntmps57;go_wp2_with fail
 refine (C1.out).mono ?_;rintro e w1 ⟨rfl,hk1⟩;go_wp2_with fail;refine (C2.out _ hk1).mono ?_;rintro e w2 ⟨rfl,hk2⟩;cases V with
 | none =>
  go_wp2;go_ret;exact ⟨rfl,hk1.same hk2⟩
 | some v =>
  go_wp2;go_ret;exact ⟨rfl,hk1.same hk2⟩
theorem rg_add (w:World) (F:Nat→Prop) (m g:Nat) (es:Es) (k:ByteArray) (id:Int) (h:Rg m w F g es) (hk:k.size≤1000000) (hn:es.length<90000) (hF:∀ b,F b→b<w.heap.size) :
  Calls Tryz.prog 76 #[ptrV g,.string k,.int .i64 id] w fun e w'=>e = .returned (.bool (addE es k id).1)∧Rg m w' (fun b=>F b∨w.heap.size≤b) g (addE es k id).2∧Kept F w w':=by
 have C1:=hI (fun (w':World) (hp:Pure w w')=>rg_find w' F m g es k (h.kept hp (fun _ _ _ h=>h)) hk);have H:=hI h;clear h
 by_cases hid:id<0
 ·have he:addE es k id=(false,es):=by unfold addE;rw [if_pos (.inl hid)]
  rw [he];clear he;go_enter Tryz.func76,Tryz.ntmps76;go_wp2;go_ret;exact ⟨rfl,H.out.imp (fun b _ h=>.inl h),Kept.refl _ _⟩
 ·have hid':(id<0)=False:=by simp;omega
  have hid0:0≤id:=by omega
  by_cases hfd:0≤fdE es k
  ·have he:addE es k id=(false,es):=by unfold addE;rw [if_pos (.inr hfd)]
   rw [he];generalize fdE es k=fd at *;clear he hid;go_enter Tryz.func76,Tryz.ntmps76;go_wp2_with fail;refine (C1.out _ (Kept.refl _ _)).mono ?_;rintro e w1 ⟨rfl,hk1⟩;have h1:=hI (H.out.kept hk1 (fun _ _ _ h=>h));go_wp2;go_ret;exact ⟨rfl,h1.out.imp (fun b _ h=>.inl h),hk1.mono (fun _ _ h=>h.elim)⟩
  ·have he:addE es k id=(true,putE es k id):=by unfold addE;rw [if_neg (by omega)]
   rw [he];obtain ⟨ms,A,c,gs,h⟩:=H.out;obtain ⟨x,hx⟩:=h.ptr k;obtain ⟨f,hf⟩:=h.shd.get k;have hno:has es (kb k)=false:=by
    have:=fd_pos h.shd k;simpa [hfd] using this
   have hfl:=h.shd.len hf;have hno2:has f (kb k)=false:=by rw [h.shd.has hf];exact hno
   have hpl:=putE_le es k id;have C2:=hI (fun (w':World) (hp:Pure w w')=>rg_shard w' F m c A gs g x k (h.pure hp).blk (h.pure hp).own hx hk h.pos);have hup:∀ w',Pure w w'→∃ G,(∀ b,G b→F b)∧Mpi w' G x f∧(∀ (w3:World),Mpi w3 (fun b=>G b∨w'.heap.size≤b) x (putE f k id)→Kept G w' w3→Rg m w3 (fun b=>F b∨w'.heap.size≤b) g (putE es k id)):=fun w' hp=>by
    obtain ⟨G,h1,h2,h3⟩:=(h.pure hp).at hx hf;exact ⟨G,h1,h2,fun w3 hm hk3=>h3 w3 _ _ hm hk3 (by omega) (h.shd.put hf hid0 hno)⟩
   have Hup:=hI hup;have C3:=hI (fun (w':World) (hp:Pure w w') (G:Nat→Prop) (hG:∀ b,G b→F b) (hm:Mpi w' G x f)=>i_put w' G x f k id hm (by omega) (fun b hb=>Nat.lt_of_lt_of_le (hF b (hG b hb)) hp.size))
   rw [hno2] at C3;generalize fdE es k=fd at *;clear h hx hf hno hno2 hup he hid;go_enter Tryz.func76,Tryz.ntmps76;go_wp2_with fail;refine (C1.out _ (Kept.refl _ _)).mono ?_;rintro e w1 ⟨rfl,hk1⟩;go_wp2_with fail;refine (C2.out _ hk1).mono ?_;rintro e w2 ⟨rfl,hk2⟩;obtain ⟨G,h1,h2,h3⟩:=Hup.out w2 (hk1.same hk2);have H3:=hI h3;clear h3;go_wp2_with fail;refine (C3.out _ (hk1.same hk2) G h1 h2).mono ?_
   rintro e w3 ⟨rfl,h4,h5⟩;have hfin:=H3.out w3 h4 h5;have Hfin:=hI hfin;have Hk5:=hI h5;clear hfin h4 h2 h5;go_wp2;go_ret;have hz:=(hk1.same hk2).size;exact cz56
theorem rg_rem (w:World) (F:Nat→Prop) (m g:Nat) (es:Es) (k:ByteArray) (id:Int) (h:Rg m w F g es) (hk:k.size≤1000000) :
  Calls Tryz.prog 119 #[ptrV g,.string k,.int .i64 id] w fun e w'=>e = .returned (.bool (remE es k id).1)∧Rg m w' (fun b=>F b∨w.heap.size≤b) g (remE es k id).2∧Kept F w w':=by
 have C1:=hI (fun (w':World) (hp:Pure w w')=>rg_find w' F m g es k (h.kept hp (fun _ _ _ h=>h)) hk);have H:=hI h;clear h
 by_cases hid:id<0
 ·have he:remE es k id=(false,es):=by unfold remE;rw [if_pos (.inl hid)]
  rw [he];clear he;go_enter Tryz.func119,Tryz.ntmps119;go_wp2;go_ret;exact ⟨rfl,H.out.imp (fun b _ h=>.inl h),Kept.refl _ _⟩
 ·have hid':(id<0)=False:=by simp;omega
  have hid0:0≤id:=by omega
  by_cases hfd:fdE es k=id
  ·have he:remE es k id=(true,delE es (kb k)):=by unfold remE;rw [if_neg (by simp [hfd];omega)]
   rw [he];obtain ⟨ms,A,c,gs,h⟩:=H.out;obtain ⟨x,hx⟩:=h.ptr k;obtain ⟨f,hf⟩:=h.shd.get k;have hyes:has es (kb k)=true:=(fd_pos h.shd k).1 (by omega)
   have hyes2:has f (kb k)=true:=by rw [h.shd.has hf];exact hyes
   have hpl:=delE_le es (kb k);have hel:=h.el;have C2:=hI (fun (w':World) (hp:Pure w w')=>rg_shard w' F m c A gs g x k (h.pure hp).blk (h.pure hp).own hx hk h.pos);have hup:∀ w',Pure w w'→∃ G,(∀ b,G b→F b)∧Mpi w' G x f∧(∀ (w3:World),Mpi w3 (fun b=>G b∨w'.heap.size≤b) x (delE f (kb k))→Kept G w' w3→Rg m w3 (fun b=>F b∨w'.heap.size≤b) g (delE es (kb k))):=fun w' hp=>by
    obtain ⟨G,h1,h2,h3⟩:=(h.pure hp).at hx hf;exact ⟨G,h1,h2,fun w3 hm hk3=>h3 w3 _ _ hm hk3 (by omega) (h.shd.del hf)⟩
   have Hup:=hI hup;have C3:=hI (fun (w':World) (G:Nat→Prop) (hm:Mpi w' G x f)=>i_mdel w' G x f k hm);rw [hyes2] at C3;rw [hfd] at C1;clear h hx hf hyes hyes2 hup he hid hfd hel;go_enter Tryz.func119,Tryz.ntmps119;go_wp2_with fail;refine (C1.out _ (Kept.refl _ _)).mono ?_;rintro e w1 ⟨rfl,hk1⟩;go_wp2_with fail;refine (C2.out _ hk1).mono ?_;rintro e w2 ⟨rfl,hk2⟩;obtain ⟨G,h1,h2,h3⟩:=Hup.out w2 (hk1.same hk2)
   have H3:=hI h3;clear h3;go_wp2_with fail;refine (C3.out _ G h2).mono ?_;rintro e w3 ⟨rfl,h4,h5⟩;have hfin:=H3.out w3 h4 h5;have Hfin:=hI hfin;have Hk5:=hI h5;clear hfin h4 h2 h5;go_wp2;go_ret;have hz:=(hk1.same hk2).size;exact cz56
  ·have he:remE es k id=(false,es):=by unfold remE;rw [if_pos (.inr hfd)]
   rw [he];have hne:(fdE es k == id)=false:=by simpa using hfd
   generalize fdE es k=fd at *;clear he hid;go_enter Tryz.func119,Tryz.ntmps119;go_wp2_with fail;refine (C1.out _ (Kept.refl _ _)).mono ?_;rintro e w1 ⟨rfl,hk1⟩;have h1:=hI (H.out.kept hk1 (fun _ _ _ h=>h));go_wp2;go_ret;exact ⟨rfl,h1.out.imp (fun b _ h=>.inl h),hk1.mono (fun _ _ h=>h.elim)⟩
end
section
open Go.RowKit
theorem b_key (k t:ByteArray) (v:Nat) (w:World):Calls Tryz.prog 233 #[.agg #[.string k,ptrV v],.string t] w fun e w'=>e = .returned (.int .i64 (Lib.compareBytes (kb k) (kb t)))∧Pure w w':=by
 have hb:=Blk.new w 274 #[.string k,ptrV v];have hk:Pure w (w.alloc (.cells #[.string k,ptrV v] 274)):=(Kept.refl _ _).alloc _;have C:=hI (fun w=>cmp_any k t w);go_enter Tryz.func233,Tryz.ntmps233;have hc:=hb.cell;go_wp2_with fail;refine (C.out _).mono ?_;rintro e w' ⟨rfl,rfl⟩;go_wp2;go_ret;exact ⟨rfl,hk⟩
theorem b_bs (es:List (En Nat)) (hr:Rises es) (A:Option Addr) (n c:Nat) (t:ByteArray) (w:World) (F:Nat→Prop) (hs:Sl w F 2 A n (ecs ptrV es)) (hn:n≤1000000) :
  Calls Tryz.prog 232 #[.slice A n c,.string t,.func (.func 233) #[] #[]] w fun e w'=>e = .returned (.tuple #[.int .i64 (low es (kb t):Nat),.bool (has es (kb t))])∧Pure w w':=by
 have hl:=sl_len hs;have Hr:=hI hr;have Hl:=hI hl;have Hs:=hI hs;clear hl hs hr;go_enter Tryz.func232,Tryz.ntmps232;go_wp2
 go_loopw [9,10] (fun i j wr=>∃ a b:Nat,i = .int .i64 a∧j = .int .i64 b∧a≤b∧b≤n∧Hid ((∀ p e,p<a→es[p]? = some e→kb e.1<kb t)∧(∀ p e,b≤p→es[p]? = some e→¬kb e.1<kb t))∧Pure w wr) (fun i j _=>(intOf j).toNat-(intOf i).toNat)
 case atStart=>exact ⟨0,n,rfl,rfl,Nat.zero_le _,Nat.le_refl _,⟨fun p e h=>by omega,fun p e h h'=>by have:=(List.getElem?_eq_some_iff.1 h').1;have:=Hl.out;omega⟩,Kept.refl _ _⟩
 case round =>
  obtain ⟨a,b,rfl,rfl,hab,hbn,hcut,hp⟩:=hrel
  by_cases hlt:a<b
  ·obtain ⟨m,hm⟩:∃ m,(a+b) / 2=m:=⟨_,rfl⟩
   have hmn:m<n:=by omega
   obtain ⟨e,he⟩:∃ e,es[m]? = some e:=⟨_,List.getElem?_eq_getElem (by have:=Hl.out;omega)⟩
   obtain ⟨bb,oo,rfl,_,_,_⟩:=Hs.out.2 (by omega)
   have hsw:=Hs.out.kept hp (fun _ _ _ h=>h);obtain ⟨hc1,hc2⟩:=en_cells hsw he;have hmd:((a:Int)+(b:Int)) / 2=(m:Int):=by omega
   have hmi:(m:Int)<(n:Int):=by omega
   have hbd:a<m+1∧m<b:=by omega
   have hab2:0≤(a:Int)+(b:Int)∧(a:Int)+(b:Int)≤2000000:=by omega
   have C:=hI (fun w=>b_key e.1 t e.2 w);obtain ⟨V,hV⟩:∃ V,Lib.compareBytes (kb e.1) (kb t)=V:=⟨_,rfl⟩;rw [hV] at C;have hlt0:=cmp_lt (kb e.1) (kb t);rw [hV] at hlt0;obtain ⟨k1,v1⟩:=e;simp only at hc1 hc2 C
   by_cases hv:V<0
   ·have hcut2:Hid ((∀ p e,p<m+1→es[p]? = some e→kb e.1<kb t)∧(∀ p e,b≤p→es[p]? = some e→¬kb e.1<kb t)):=⟨Hr.out.below he (hlt0.1 hv),hcut.out.2⟩
    clear hm hlt0 hV he hsw;go_wp2_with fail;refine (C.out _).mono ?_;rintro e w1 ⟨rfl,hk1⟩;go_wp2
    go_roundw
    case measure=>simp [intOf];omega
    case rel=>exact ⟨m+1,b,by first|rfl|go_num,rfl,by omega,hbn,hcut2,hp.same hk1⟩
   ·have hcut2:Hid ((∀ p e,p<a→es[p]? = some e→kb e.1<kb t)∧(∀ p e,m≤p→es[p]? = some e→¬kb e.1<kb t)):=⟨hcut.out.1,Hr.out.above he (fun h=>hv (hlt0.2 h))⟩
    clear hm hlt0 hV he hsw;go_wp2_with fail;refine (C.out _).mono ?_;rintro e w1 ⟨rfl,hk1⟩;go_wp2
    go_roundw
    case measure=>simp [intOf];omega
    case rel=>exact ⟨a,m,rfl,rfl,by omega,by omega,hcut2,hp.same hk1⟩
  ·obtain rfl:a=b:=by omega
   have hlow:low es (kb t)=a:=low_of es a (by have:=Hl.out;omega) hcut.out.1 (fun e he=>hcut.out.2 a e (Nat.le_refl _) he)
   have Hlow:=hI hlow
   by_cases hin:a<n
   ·obtain ⟨e,he⟩:∃ e,es[a]? = some e:=⟨_,List.getElem?_eq_getElem (by have:=Hl.out;omega)⟩
    obtain ⟨bb,oo,rfl,_,_,_⟩:=Hs.out.2 (by omega)
    have hsw:=Hs.out.kept hp (fun _ _ _ h=>h);obtain ⟨hc1,hc2⟩:=en_cells hsw he;have C:=hI (fun w=>b_key e.1 t e.2 w);obtain ⟨V,hV⟩:∃ V,Lib.compareBytes (kb e.1) (kb t)=V:=⟨_,rfl⟩;rw [hV] at C;have heq0:=cmp_eq0 (kb e.1) (kb t);rw [hV] at heq0;have hhas:has es (kb t)=(V == 0):=by
     unfold has;rw [hlow,he,Bool.eq_iff_iff];simp only [beq_iff_eq];exact heq0.symm
    have Hhas:=hI hhas;obtain ⟨k1,v1⟩:=e;simp only at hc1 hc2 C;have hmi:(a:Int)<(n:Int):=by omega
    clear heq0 hV he hsw hlow hhas hcut;go_wp2_with fail;refine (C.out _).mono ?_;rintro e w1 ⟨rfl,hk1⟩;go_wp2
    go_ret2
    exact ⟨by rw [Hlow.out,Hhas.out];rfl,hp.same hk1⟩
   ·have hhas:has es (kb t)=false:=by
     unfold has;rw [hlow,List.getElem?_eq_none (by have:=Hl.out;omega)]
    have Hhas:=hI hhas;have hmi:¬(a:Int)<(n:Int):=by omega
    clear hlow hhas hcut;go_wp2
    go_ret2
    exact ⟨by rw [Hlow.out,Hhas.out];rfl,hp⟩
abbrev Mpb:=Mp (α:=Nat) 162 274 ptrV
theorem b_find (w:World) (F:Nat→Prop) (g:Nat) (es:List (En Nat)) (t:ByteArray) (h:Mpb w F g es) :
  Calls Tryz.prog 190 #[.pointer (some ⟨g,0,none⟩),.string t] w fun e w'=>e = .returned (.tuple #[.int .i64 (low es (kb t):Nat),.bool (has es (kb t))])∧Pure w w':=by
 obtain ⟨h0,h1,h2,A,c,hb,ho⟩:=h;have C:=hI (b_bs es h1 A es.length c t w _ ho.sl (by omega))
 have hc:=hb.cell;clear hb ho h1 h2;go_enter Tryz.func190,Tryz.ntmps190;go_wp2_with fail;refine (C.out).mono ?_;rintro e w1 ⟨rfl,hk1⟩;go_wp2
 go_ret2
 exact ⟨rfl,hk1⟩
theorem b_get (w:World) (F:Nat→Prop) (g:Nat) (es:List (En Nat)) (t:ByteArray) (h:Mpb w F g es) :
  Calls Tryz.prog 141 #[.pointer (some ⟨g,0,none⟩),.string t] w fun e w'=>e = .returned (match valAt es (kb t) with|some v=>.tuple #[ptrV v,.bool true]|none=>.tuple #[.pointer none,.bool false])∧Pure w w':=by
 have C:=hI (b_find w F g es t h);have hv:=has_val es (kb t);cases hx:valAt es (kb t) with
 | none =>
  rw [hx] at hv;simp only [Option.isSome_none] at hv;rw [hv] at C;clear h hv hx;go_enter Tryz.func141,Tryz.ntmps141;go_wp2_with fail;refine (C.out).mono ?_;rintro e w1 ⟨rfl,hk1⟩;go_wp2
  go_ret2
  exact ⟨rfl,hk1⟩
 | some v =>
  rw [hx] at hv;simp only [Option.isSome_some] at hv;rw [hv] at C;obtain ⟨e,he,hev⟩:∃ e,es[low es (kb t)]? = some e∧e.2=v:=by
   unfold valAt at hx;cases hl:es[low es (kb t)]? with
   | none=>rw [hl] at hx;cases hx
   | some e =>
    rw [hl] at hx;simp only at hx
    split at hx
    ·injection hx with hx;exact ⟨e,rfl,hx⟩
    ·cases hx
  have hk:=(List.getElem?_eq_some_iff.1 he).1;obtain ⟨k1,v1⟩:=e;simp only at hev;subst hev;have H:=hI h;generalize low es (kb t)=k at *;have He:=hI he;have hki:(k:Int)<(es.length:Int):=by omega
  clear h hv hx he;go_enter Tryz.func141,Tryz.ntmps141;go_wp2_with fail;refine (C.out).mono ?_;rintro e w1 ⟨rfl,hk1⟩;obtain ⟨h0,h1,h2,A,c,hb,ho⟩:=H.out.kept hk1 (fun _ _ _ h=>h);have hc:=hb.cell;obtain ⟨b,o,rfl,_,_,_⟩:=ho.sl.2 (by omega)
  obtain ⟨hc1,hc2⟩:=en_cells ho.sl He.out;simp only at hc1 hc2;clear hb ho h1;go_wp2
  go_ret2
  exact ⟨rfl,hk1⟩
end
section
open Go.RowKit
theorem info_b:(Tryz.prog.info? 274).map (fun i=>(i.zero,i.size,i.bytes))=some (some (.agg #[.string ⟨#[]⟩,.pointer none]),2,24):=by kernel_rfl
theorem b_ins_end (es:List (En Nat)) (A:Option Addr) (n c vb:Nat) (e:En Nat) (w:World) (F:Nat→Prop) (ho:Own w F 274 2 (.slice A n c) n (ecs ptrV es)) (hn:n≤100000) (hv:Blk w vb 274 #[.string e.1,ptrV e.2]) :
  Calls Tryz.prog 191 #[.slice A n c,.int .i64 n,.slice (some ⟨vb,0,none⟩) 1 1] w (InsP 274 ptrV F n (es++[e]) w):=by
 have hl:=sl_len ho.sl;obtain ⟨A',c',hAc,hnc,hcm,_,_⟩:=ho.form;obtain ⟨rfl,rfl⟩:A=A'∧c=c':=by injection hAc with h1 _ h2;exact ⟨h1,h2⟩
 unfold maxLen at hcm;have hsv:Sl w (fun b=>b=vb) 2 (some ⟨vb,0,none⟩) 1 (enCells ptrV e):=⟨rfl,fun _=>⟨vb,0,rfl,rfl,hv.lt,fun j hj=>by rw [Nat.zero_add,hv.cell];simp [enCells]⟩⟩
 have Ho:=hI ho;have Hsv:=hI hsv;have hcs:(A=none∧n=0∧c=0)∨(∃ g,A=some ⟨g,0,none⟩):=by
  rcases ho.1.2 with ⟨h1,h2⟩|⟨g,cap,cur,h1,_⟩
  ·injection h1 with h1 h3 h4;exact .inl ⟨h1,h3,h4⟩
  ·injection h1 with h1 _ _;exact .inr ⟨g,h1⟩
 clear hl hAc ho hsv hv;rcases hcs with ⟨rfl,rfl,rfl⟩|⟨g,rfl⟩
 ·go_enter Tryz.func191,Tryz.ntmps191
  go_wp2_with (at_builtin;refine held ?_)
  refine unheld ?_;refine gz34 ?_;intro v' w8 ho8 hk8;obtain ⟨A8,c8,rfl,_⟩:=ho8.form;go_wp2;go_ret;refine ⟨A8,c8,rfl,?_,hk8⟩;rw [ecs_append];simpa [ecs] using ho8.imp (fun b _ h=>by rcases h with h|h;exact .inl h;exact .inr (by omega))
 ·by_cases hcn:c=n
  ·go_enter Tryz.func191,Tryz.ntmps191
   go_wp2_with (at_builtin;refine held ?_)
   refine unheld ?_;refine gz34 ?_;intro v' w8 ho8 hk8;obtain ⟨A8,c8,rfl,_⟩:=ho8.form;go_wp2;go_ret;refine ⟨A8,c8,rfl,?_,hk8⟩;rw [ecs_append];simpa [ecs] using ho8.imp (fun b _ h=>by rcases h with h|h;exact .inl h;exact .inr (by omega))
  ·go_enter Tryz.func191,Tryz.ntmps191
   go_wp2_with (at_builtin;refine held ?_)
   refine unheld ?_;refine gz34 ?_;intro v' w8 ho8 hk8;obtain ⟨A8,c8,rfl,_⟩:=ho8.form;go_wp2;go_ret;refine ⟨A8,c8,rfl,?_,hk8⟩;rw [ecs_append];simpa [ecs] using ho8.imp (fun b _ h=>by rcases h with h|h;exact .inl h;exact .inr (by omega))
theorem b_ins_grow (es:List (En Nat)) (A:Option Addr) (n c i vb:Nat) (e:En Nat) (w:World) (F:Nat→Prop) (ho:Own w F 274 2 (.slice A n c) n (ecs ptrV es)) (hn:n≤100000) (hv:Blk w vb 274 #[.string e.1,ptrV e.2]) (hi:i<n) (hc:c<n+1) :
  Calls Tryz.prog 191 #[.slice A n c,.int .i64 i,.slice (some ⟨vb,0,none⟩) 1 1] w (InsP 274 ptrV F n (es.take i++[e]++es.drop i) w):=by
 have hl:=sl_len ho.sl;obtain ⟨g,cur,rfl,hFg,hg,hnc,hcm,hcs,hct⟩:=own_row ho (by omega)
 obtain rfl:c=n:=by omega
 obtain ⟨i0,hi0,hz0,hsz0,hby0⟩:=info_parts info_b;have hz1:¬((i:Int)=(c:Int)):=by omega
 have hroom:(c:Int)<(c:Int)+1:=by omega
 have hin:i≤c:=by omega
 have hci:¬c=i:=by omega
 have hel:(ecs ptrV es).length=c*2:=by rw [ecs_length];omega
 have hcc:∀ j v,(ecs ptrV es)[j]? = some v→w.cell? ⟨g,j,none⟩=some v:=fun j v hj=>by
  have h:=(List.getElem?_eq_some_iff.1 hj).1;rw [hg.cell,←hj,←hct,List.getElem?_take,if_pos (by omega),Array.getElem?_toList]
 have hmi:((c:Int)+1-(i:Int))=((c+1-i:Nat):Int):=by omega
 have hsum:i+(c+1-i)=c+1:=by omega
 have hap:=fun ty=>run_append_makeK (P:=Tryz.prog) w 160 3 ty 274 i0 _ .i64 .i64 Tryz.underlying160 Tryz.underlying3 hi0 hz0 ⟨g,0,none⟩ i c (c+1-i) ((ecs ptrV es).take (i*2)) (by rw [List.length_take,hsz0];omega)
  (fun j u hj=>by
   rw [Addr.add_lit,Nat.zero_add];have h:=(List.getElem?_eq_some_iff.1 hj).1;rw [List.length_take] at h;rw [List.getElem?_take,if_pos (by omega)] at hj
   exact hcc j u hj) (by omega) (by omega) (by omega) (by rw [hby0];omega) (by omega)
 rw [hsum] at hap;obtain ⟨cap,hcap⟩:∃ cap,grownCap w (c+1) c 274=cap:=⟨_,rfl⟩;have hge:=grownCap_ge w (c+1) c 274;have hle:=grownCap_le_maxLen w (c+1) c 274 (by unfold maxLen;omega)
 rw [hcap] at hap hge hle;obtain ⟨cur1,hcur1⟩:∃ cur1,((ecs ptrV es).take (i*2)).toArray++Builtin.zeroCells (Value.agg #[.string ⟨#[]⟩,.pointer none]).cells (c+1-i)++Builtin.zeroCells (Value.agg #[.string ⟨#[]⟩,.pointer none]).cells (cap-(c+1))=cur1:=⟨_,rfl⟩;have hs1:cur1.size=cap*2:=by
  rw [←hcur1];simp only [Array.size_append,List.size_toArray,List.length_take,size_zeroCells,hel];have:(Value.agg #[.string ⟨#[]⟩,.pointer none]).cells.size=2:=by kernel_rfl
  rw [this];omega
 have ht1:cur1.toList.take (i*2)=(ecs ptrV es).take (i*2):=by
  rw [←hcur1,Array.append_assoc,Array.toList_append,List.take_append_of_le_length (by simp [hel];omega)]
  simp only [List.take_take,Nat.min_self]
 rw [hcur1] at hap;obtain ⟨N,hN⟩:∃ N,w.heap.size=N:=⟨_,rfl⟩;obtain ⟨W1,hW1⟩:∃ W1,w.drew.alloc (.cells cur1 274)=W1:=⟨_,rfl⟩;have hB1:Blk W1 N 274 cur1:=by rw [←hW1,←hN];exact Blk.new w.drew _ _
 have hp1:Pure w W1:=by rw [←hW1];exact (Kept.refl _ w).drew.alloc _
 have hgN:g<N:=by rw [←hN];exact hg.lt
 have hvN:vb<N:=by rw [←hN];exact hv.lt
 rw [hW1,hN] at hap;have hapr:=hI hap;have hcp1:∀ ty dc,(Builtin.copy_ #[160,160] ty #[.slice (some ⟨N,i*2,none⟩) (c+1-i) dc,.slice (some ⟨vb,0,none⟩) 1 1]).run Tryz.prog W1 = .ok (goInt 1) (W1.setRow N (splice cur1.toList (i*2) (enCells ptrV e)).toArray):=fun ty dc=>by
  have hmin:Nat.min 1 (c+1-i)=1:=by simp only [Nat.min_def];split <;> omega
  have:=run_copyK (P:=Tryz.prog) W1 160 160 ty 274 2 N (i*2) (c+1-i) dc ⟨vb,0,none⟩ 1 1 cur1 274 (enCells ptrV e) Tryz.underlying160 (by rw [hi0];simp [hsz0]) hB1 (by rw [hmin];rfl)
   (fun j v hj=>by rw [Addr.add_lit,Nat.zero_add,(hv.kept hp1 (fun h=>h)).cell];simpa [enCells] using hj) (by rw [hs1];simp [enCells];omega) (by intro u hu;simp [enCells] at hu;rcases hu with rfl|rfl <;> rfl)
  rw [hmin] at this;rw [this];simp [splice]
 obtain ⟨cur2,hcur2⟩:∃ cur2,splice cur1.toList (i*2) (enCells ptrV e)=cur2:=⟨_,rfl⟩;have hs2:cur2.length=cap*2:=by rw [←hcur2,length_splice _ _ _ (by simp [enCells,hs1];omega)];simpa using hs1
 rw [hcur2] at hcp1;obtain ⟨W2,hW2⟩:∃ W2,W1.setRow N cur2.toArray=W2:=⟨_,rfl⟩;have hB2:Blk W2 N 274 cur2.toArray:=by rw [←hW2];exact setRow_blk hB1 _
 have hk2:Kept (· = N) W1 W2:=by rw [←hW2];exact setRow_kept _ _ _
 rw [hW2] at hcp1;have hcp1r:=hI hcp1;have hcp2:∀ ty dc sc,(Builtin.copy_ #[160,160] ty #[.slice (some ⟨N,(i+1)*2,none⟩) (c-i) dc,.slice (some ⟨g,i*2,none⟩) (c-i) sc]).run Tryz.prog W2.drew = .ok (goInt (c-i:Nat)) (W2.drew.setRow N (splice cur2 ((i+1)*2) ((ecs ptrV es).drop (i*2))).toArray):=fun ty dc sc=>by
  have hmin:Nat.min (c-i) (c-i)=c-i:=Nat.min_self _;have:=run_copyK (P:=Tryz.prog) W2.drew 160 160 ty 274 2 N ((i+1)*2) (c-i) dc ⟨g,i*2,none⟩ (c-i) sc cur2.toArray 274 ((ecs ptrV es).drop (i*2)) Tryz.underlying160 (by rw [hi0];simp [hsz0]) hB2 (by rw [hmin,List.length_drop,hel];omega)
   (fun j v hj=>by
    rw [Addr.add_lit];rw [List.getElem?_drop] at hj;have h1:=hcc (i*2+j) v hj;have hgk:=(hg.kept hp1 (fun h=>h)).kept hk2 (by omega)
    have h2:=hgk.cell (i*2+j);have h3:=hg.cell (i*2+j);exact (h2.trans h3.symm).trans h1) (by simp [hs2,hel];omega) (by
    intro u hu;have hu':=List.mem_of_mem_drop hu;simp only [ecs,List.mem_flatMap,enCells,List.mem_cons,List.not_mem_nil,or_false] at hu';obtain ⟨x,_,rfl|rfl⟩:=hu' <;> rfl)
  rw [hmin] at this;rw [this];simp [splice]
 obtain ⟨cur3,hcur3⟩:∃ cur3,splice cur2 ((i+1)*2) ((ecs ptrV es).drop (i*2))=cur3:=⟨_,rfl⟩;have hs3:cur3.length=cap*2:=by rw [←hcur3,length_splice _ _ _ (by simp [hel,hs2];omega)];exact hs2
 have hfin:cur3.take ((c+1)*2)=ecs ptrV (es.take i++[e]++es.drop i):=by
  have h1:=splice_two cur1.toList (enCells ptrV e) ((ecs ptrV es).drop (i*2)) (i*2) (by simp [enCells,hs1,hel];omega)
  rw [←hcur3,←hcur2,ecs_append,ecs_append,ecs_take,ecs_drop,←ht1];have e1:i*2+(enCells ptrV e).length=(i+1)*2:=by simp [enCells];omega
  have e2:(i+1)*2+((ecs ptrV es).drop (i*2)).length=(c+1)*2:=by rw [List.length_drop,hel];omega
  rw [e1,e2] at h1;rw [h1];simp [ecs]
 rw [hcur3] at hcp2;have hcp2r:=hI hcp2;have hB3:Blk (W2.drew.setRow N cur3.toArray) N 274 cur3.toArray:=setRow_blk (w:=W2.drew) hB2 _;have hk3:Kept F w (W2.drew.setRow N cur3.toArray):=by
  have h1:Kept (· = N) W1 (W2.drew.setRow N cur3.toArray):=hk2.drew.same (setRow_kept W2.drew N cur3.toArray);exact cz75
 have HB3:=hI hB3;have Hk3:=hI hk3;have HN:=hI hN;clear hap hcp1 hcp2 hB1 hB2 hB3 hk2 hk3 hp1 hcc hW1 hW2 hcur1 hcur2 hcur3 hcap ht1 ho hct hel hN;go_enter Tryz.func191,Tryz.ntmps191;go_wp2_with (at_builtin;refine held ?_);refine unheld ?_;refine gz81 ?_;have hNi:¬cap=i:=by omega
 have hNi1:¬cap=i+1:=by omega
 have hcp1:=hcp1r.out;go_wp2_with (simp only [hcp1]);clear hcp1;have hi1:((i:Int)+1).toNat=i+1:=by omega
 have hwi:IntKind.i64.wrap ((i:Int)+1)=(i:Int)+1:=by rw [IntKind.wrap_i64];omega
 have hb1:(0:Int)≤(i:Int)+1∧(i:Int)+1≤(c:Int)+1:=by omega
 have hb2:(i:Int)≤(c:Int):=by omega
 have hcp2:=hcp2r.out
 go_region
 clear hcp2;go_wp2;go_ret;refine ⟨some ⟨N,0,none⟩,cap,rfl,?_,Hk3.out⟩;refine ⟨⟨by rw [ecs_length];simp;omega,.inr ⟨N,cap,cur3.toArray,rfl,Nat.zero_le _,HB3.out,by omega,hle,by simp [hs3],by simpa using hfin⟩⟩,fun b hb=>?_⟩
 simp [Value.ownBlock] at hb;exact .inr (by have:=HN.out;omega)
theorem b_ins_room (es:List (En Nat)) (A:Option Addr) (n c i vb:Nat) (e:En Nat) (w:World) (F:Nat→Prop) (ho:Own w F 274 2 (.slice A n c) n (ecs ptrV es)) (hn:n≤100000) (hv:Blk w vb 274 #[.string e.1,ptrV e.2]) (hvF:¬F vb) (hi:i<n) (hc:n+1≤c) :
  Calls Tryz.prog 191 #[.slice A n c,.int .i64 i,.slice (some ⟨vb,0,none⟩) 1 1] w (InsP 274 ptrV F n (es.take i++[e]++es.drop i) w):=by
 have hl:=sl_len ho.sl;obtain ⟨g,cur,rfl,hFg,hg,hnc,hcm,hcs,hct⟩:=own_row ho (by omega)
 have hcm':=hcm;unfold maxLen at hcm';obtain ⟨i0,hi0,hz0,hsz0,hby0⟩:=info_parts info_b;have hvg:vb≠g:=fun h=>hvF (h ▸ hFg);have hel:(ecs ptrV es).length=n*2:=by rw [ecs_length];omega
 have hcc:∀ j v,(ecs ptrV es)[j]? = some v→w.cell? ⟨g,j,none⟩=some v:=fun j v hj=>by
  have h:=(List.getElem?_eq_some_iff.1 hj).1;rw [hg.cell,←hj,←hct,List.getElem?_take,if_pos (by omega),Array.getElem?_toList]
 have hov:∀ lb cb,(callFunc 234 #[.slice (some ⟨vb,0,none⟩) 1 1,.slice (some ⟨g,(i+1)*2,none⟩) lb cb]).run Tryz.prog w = .ok (.value (.bool false)) w:=fun lb cb=>by
  rw [run_callFunc_extern Tryz.func234 (by kernel_rfl) (by kernel_rfl) (by kernel_rfl) (e:=Extern.SlicesOverlaps.overlaps #[160,160] #[4]) (by kernel_rfl),
   Lib.run_overlaps_apart w 160 4 274 Tryz.underlying160 2 Tryz.sizeOf274 ⟨vb,0,none⟩ ⟨g,(i+1)*2,none⟩ 1 1 lb cb hvg 274 274 2 cur.size (blk_shape hv) (blk_shape hg) (by omega) (hv.frozen 0) (hv.frozen 2)]
  rfl
 have hcp1:∀ ty dc sc,(Builtin.copy_ #[160,160] ty #[.slice (some ⟨g,(i+1)*2,none⟩) (n-i) dc,.slice (some ⟨g,i*2,none⟩) (n+1-i) sc]).run Tryz.prog w.drew = .ok (goInt (n-i:Nat)) (w.drew.setRow g (splice cur.toList ((i+1)*2) ((ecs ptrV es).drop (i*2))).toArray):=fun ty dc sc=>by
  have hmin:Nat.min (n+1-i) (n-i)=n-i:=by simp only [Nat.min_def];split <;> omega
  have:=run_copyK (P:=Tryz.prog) w.drew 160 160 ty 274 2 g ((i+1)*2) (n-i) dc ⟨g,i*2,none⟩ (n+1-i) sc cur 274 ((ecs ptrV es).drop (i*2)) Tryz.underlying160 (by rw [hi0];simp [hsz0]) hg (by rw [hmin,List.length_drop,hel];omega)
   (fun j v hj=>by
    rw [Addr.add_lit];rw [List.getElem?_drop] at hj;exact hcc (i*2+j) v hj) (by simp [hcs,hel];omega) (by
    intro u hu;have hu':=List.mem_of_mem_drop hu;simp only [ecs,List.mem_flatMap,enCells,List.mem_cons,List.not_mem_nil,or_false] at hu';obtain ⟨x,_,rfl|rfl⟩:=hu' <;> rfl)
  rw [hmin] at this;rw [this];simp [splice]
 obtain ⟨cur2,hcur2⟩:∃ cur2,splice cur.toList ((i+1)*2) ((ecs ptrV es).drop (i*2))=cur2:=⟨_,rfl⟩;have hs2:cur2.length=c*2:=by rw [←hcur2,length_splice _ _ _ (by simp [hel,hcs];omega)];simpa using hcs
 rw [hcur2] at hcp1;obtain ⟨W2,hW2⟩:∃ W2,w.drew.setRow g cur2.toArray=W2:=⟨_,rfl⟩;have hB2:Blk W2 g 274 cur2.toArray:=by rw [←hW2];exact setRow_blk (w:=w.drew) hg _
 have hk2:Kept (· = g) w W2:=by rw [←hW2];exact (Kept.refl _ w).drew.same (setRow_kept w.drew g cur2.toArray)
 rw [hW2] at hcp1;have hcp2:∀ ty dc,(Builtin.copy_ #[160,160] ty #[.slice (some ⟨g,i*2,none⟩) (n+1-i) dc,.slice (some ⟨vb,0,none⟩) 1 1]).run Tryz.prog W2 = .ok (goInt 1) (W2.setRow g (splice cur2 (i*2) (enCells ptrV e)).toArray):=fun ty dc=>by
  have hmin:Nat.min 1 (n+1-i)=1:=by simp only [Nat.min_def];split <;> omega
  have:=run_copyK (P:=Tryz.prog) W2 160 160 ty 274 2 g (i*2) (n+1-i) dc ⟨vb,0,none⟩ 1 1 cur2.toArray 274 (enCells ptrV e) Tryz.underlying160 (by rw [hi0];simp [hsz0]) hB2 (by rw [hmin];rfl)
   (fun j v hj=>by rw [Addr.add_lit,Nat.zero_add,(hv.kept hk2 hvg).cell];simpa [enCells] using hj) (by simp [enCells,hs2];omega) (by intro u hu;simp [enCells] at hu;rcases hu with rfl|rfl <;> rfl)
  rw [hmin] at this;rw [this];simp [splice]
 obtain ⟨cur3,hcur3⟩:∃ cur3,splice cur2 (i*2) (enCells ptrV e)=cur3:=⟨_,rfl⟩;have hs3:cur3.length=c*2:=by rw [←hcur3,length_splice _ _ _ (by simp [enCells,hs2];omega)];exact hs2
 have hfin:cur3.take ((n+1)*2)=ecs ptrV (es.take i++[e]++es.drop i):=by
  have h1:=splice_rev cur.toList (enCells ptrV e) ((ecs ptrV es).drop (i*2)) (i*2) (by simp [enCells,hcs,hel];omega)
  have e1:i*2+(enCells ptrV e).length=(i+1)*2:=by simp [enCells];omega
  have e2:(i+1)*2+((ecs ptrV es).drop (i*2)).length=(n+1)*2:=by rw [List.length_drop,hel];omega
  have e3:cur.toList.take (i*2)=(ecs ptrV es).take (i*2):=by rw [←hct,List.take_take,Nat.min_eq_left (by omega)]
  rw [e1,e2,hcur2,hcur3,e3] at h1;rw [h1,ecs_append,ecs_append,ecs_take,ecs_drop];simp [ecs]
 rw [hcur3] at hcp2;have hB3:Blk (W2.setRow g cur3.toArray) g 274 cur3.toArray:=setRow_blk hB2 _;have hk3:Kept F w (W2.setRow g cur3.toArray):=(hk2.same (setRow_kept W2 g cur3.toArray)).mono (fun j _ h=>by have h2:j=g:=h;rw [h2];exact hFg)
 have HB3:=hI hB3;have Hk3:=hI hk3;have hcp1r:=hI hcp1;have hcp2r:=hI hcp2;have hovr:=hI hov;clear hcp1 hcp2 hov hB2 hB3 hk2 hk3 hcc hW2 hcur2 hcur3 ho hct hel hcm;have hz1:¬((i:Int)=(n:Int)):=by omega
 have hroom:(n:Int)+1≤(c:Int):=by omega
 have hin:i≤n:=by omega
 have hci:¬c=i:=by omega
 have hci1:¬c=i+1:=by omega
 have hi1:((i:Int)+1).toNat=i+1:=by omega
 have hn1:((n:Int)+1).toNat=n+1:=by omega
 have hwi:IntKind.i64.wrap ((i:Int)+1)=(i:Int)+1:=by rw [IntKind.wrap_i64];omega
 have hb1:(0:Int)≤(i:Int)+1∧(i:Int)+1≤(n:Int)+1:=by omega
 have hb2:(i:Int)≤(n:Int)+1∧(i:Int)≤(n:Int):=by omega
 go_enter Tryz.func191,Tryz.ntmps191
 have hov:=hovr.out;go_wp2_with (simp only [hov]);clear hov;have hcp1:=hcp1r.out
 go_region
 clear hcp1;have hcp2:=hcp2r.out;go_wp2_with (simp only [hcp2]);go_ret;refine ⟨some ⟨g,0,none⟩,c,rfl,?_,Hk3.out⟩;refine ⟨⟨by rw [ecs_length];simp;omega,.inr ⟨g,c,cur3.toArray,rfl,Nat.zero_le _,HB3.out,hc,by unfold maxLen;omega,by simp [hs3],by simpa using hfin⟩⟩,fun b hb=>?_⟩
 simp [Value.ownBlock] at hb;subst hb;exact .inl hFg
theorem b_insert (es:List (En Nat)) (A:Option Addr) (n c i vb:Nat) (e:En Nat) (w:World) (F:Nat→Prop) (ho:Own w F 274 2 (.slice A n c) n (ecs ptrV es)) (hn:n≤100000) (hv:Blk w vb 274 #[.string e.1,ptrV e.2]) (hvF:¬F vb) (hi:i≤n) :
  Calls Tryz.prog 191 #[.slice A n c,.int .i64 i,.slice (some ⟨vb,0,none⟩) 1 1] w (InsP 274 ptrV F n (es.take i++[e]++es.drop i) w):=by
 have hl:=sl_len ho.sl
 by_cases h:i=n
 ·subst h
  have:=b_ins_end es A i c vb e w F ho hn hv
  rwa [show es.take i++[e]++es.drop i=es++[e] from by rw [List.take_of_length_le (by omega),List.drop_eq_nil_of_le (by omega),List.append_nil]]
 ·by_cases hc:n+1≤c
  ·exact b_ins_room es A n c i vb e w F ho hn hv hvF (by omega) hc
  ·exact b_ins_grow es A n c i vb e w F ho hn hv (by omega) (by omega)
theorem b_put (w:World) (F:Nat→Prop) (g:Nat) (es:List (En Nat)) (k:ByteArray) (v:Nat) (h:Mpb w F g es) (hn:es.length<100000) (hF:∀ b,F b→b<w.heap.size) :
  Calls Tryz.prog 143 #[.pointer (some ⟨g,0,none⟩),.string k,ptrV v] w (MpP 162 274 ptrV F g (putE es k v) (!has es (kb k)) w):=by
 have C:=hI (b_find w F g es k h);have hrp:=rises_put h.2.1 k v;have hgF:=h.1;cases hh:has es (kb k) with
 | true =>
  rw [hh] at C;obtain ⟨e,he⟩:∃ e,es[low es (kb k)]? = some e:=by
   cases hl:es[low es (kb k)]? with
   | none=>unfold has at hh;rw [hl] at hh;cases hh
   | some e=>exact ⟨e,rfl⟩
  have hput:putE es k v=es.modify (low es (kb k)) (fun e=>(e.1,v)):=by unfold putE;rw [if_pos hh]
  rw [hput] at hrp ⊢;have hk:=(List.getElem?_eq_some_iff.1 he).1;generalize low es (kb k)=i at *;have H:=hI h;have He:=hI he;have Hrp:=hI hrp;have hki:(i:Int)<(es.length:Int):=by omega
  clear h he hput hrp hh;go_enter Tryz.func143,Tryz.ntmps143;go_wp2_with fail;refine (C.out).mono ?_;rintro e w1 ⟨rfl,hk1⟩;obtain ⟨h0,h1,h2,A,c,hb,ho⟩:=H.out.kept hk1 (fun _ _ _ h=>h);have hc:=hb.cell;obtain ⟨gr,cur,rfl,hgr,hgb,hnc,hcm,hcs,hct⟩:=own_row ho (by omega)
  obtain ⟨hc1,hc2⟩:=en_cells ho.sl He.out;rw [Nat.zero_add] at hc1 hc2;have hf1:=hgb.frozen (i*2+1);have hb2:=hgb.set (i*2+1) (ptrV v);have hks:=(Kept.refl (· = gr) w1).setCell (p:=⟨gr,i*2+1,none⟩) (.inl rfl) (ptrV v);have hbg:=hb.kept hks (fun e=>hgr.2 e.symm);have hkF:Kept F w (w1.setCell ⟨gr,i*2+1,none⟩ (ptrV v)):=(hk1.mono (fun _ _ h=>h.elim)).same (hks.mono (fun j _ h=>by have h2:j=gr:=h;rw [h2];exact hgr.1))
  have hlen:(es.modify i (fun e=>(e.1,v))).length=es.length:=by simp
  have hown:Own (w1.setCell ⟨gr,i*2+1,none⟩ (ptrV v)) (fun b=>(F b∨w.heap.size≤b)∧b≠g) 274 2 (.slice (some ⟨gr,0,none⟩) es.length c) es.length (ecs ptrV (es.modify i (fun e=>(e.1,v)))):=by
   refine ⟨⟨by rw [ecs_length,hlen],.inr ⟨gr,c,_,rfl,Nat.zero_le _,hb2,hnc,hcm,by simpa using hcs,?_⟩⟩,fun b hb=>?_⟩
   ·rw [Array.toList_setIfInBounds,List.take_set,hct,ecs_modify ptrV es i v (by omega)]
   ·simp [Value.ownBlock] at hb
    subst hb;exact ⟨.inl hgr.1,hgr.2⟩
  have Hown:=hI hown;have Hbg:=hI hbg;have HkF:=hI hkF;clear hb ho h1 hgb hct hcs hb2 hks hbg hkF hown;go_wp2;go_ret;exact ⟨rfl,⟨.inl hgF,Hrp.out,by rw [hlen];exact h2,_,c,by rw [hlen];exact Hbg.out,by rw [hlen];exact Hown.out⟩,HkF.out⟩
 | false =>
  rw [hh] at C;have hput:putE es k v=insE es (low es (kb k)) (k,v):=by unfold putE;rw [if_neg (by rw [hh];simp)]
  rw [hput] at hrp ⊢;have hle:=low_le es (kb k);generalize low es (kb k)=i at *;have H:=hI h;have Hrp:=hI hrp;clear h hput hrp hh;go_enter Tryz.func143,Tryz.ntmps143;go_wp2_with fail;refine (C.out).mono ?_;rintro e w1 ⟨rfl,hk1⟩;obtain ⟨h0,h1,h2,A,c,hb,ho⟩:=H.out.kept hk1 (fun _ _ _ h=>h);have hc:=hb.cell;have hsz:=hk1.size;have hgl:=hF g hgF;have C2:=hI (b_insert es A es.length c i w1.heap.size (k,v) (w1.alloc (.cells #[.string k,ptrV v] 274)) (fun b=>F b∧b≠g) (ho.alloc _) (by omega) (Blk.new _ _ _) (fun h=>absurd (hF _ h.1) (by omega)) hle)
  have Hbg:=hI (hb.alloc (.cells #[.string k,ptrV v] 274));have Hk2:=hI (hk1.alloc (.cells #[.string k,ptrV v] 274));clear hb ho h1;go_wp2_with fail;refine C2.out.mono ?_;rintro e w3 ⟨A',c',rfl,ho3,hk3⟩;have hlen:(insE es i (k,v)).length=es.length+1:=insE_length _ _ _;have hbg3:=Hbg.out.kept hk3 (fun h=>h.2 rfl);have hc3:=hbg3.cell;have hf3:=hbg3.frozen 0;have hgl3:g<w3.heap.size:=hbg3.lt
  have hb4:=hbg3.set 0 (.slice A' (es.length+1) c');have hks:=(Kept.refl (· = g) w3).setCell (p:=⟨g,0,none⟩) (.inl rfl) (.slice A' (es.length+1) c');have hsz3:w.heap.size≤(w1.alloc (.cells #[.string k,ptrV v] 274)).heap.size:=by simp;omega
  have ho3':Own w3 (fun b=>(F b∨w.heap.size≤b)∧b≠g) 274 2 (.slice A' (es.length+1) c') (es.length+1) (ecs ptrV (insE es i (k,v))):=ho3.imp (fun b hl hb=>by
   rcases hb with hb|hb
   ·exact ⟨.inl hb.1,hb.2⟩
   ·exact ⟨.inr (by omega),by omega⟩)
  have hown:=ho3'.kept hks (fun b hl hb e=>hb.2 e);have hkF:Kept F w (w3.setCell ⟨g,0,none⟩ (.slice A' (es.length+1) c')):=(((Hk2.out.mono (fun _ _ h=>h.elim)).same (hk3.mono (fun _ _ h=>h.1)))).same (hks.mono (fun j _ h=>by have h2:j=g:=h;rw [h2];exact hgF))
  have Hown:=hI hown;have Hbg:=hI hb4;have HkF:=hI hkF;clear ho3 ho3' hk3 hb4 hbg3 hks hown hkF;go_wp2;go_ret;exact ⟨rfl,⟨.inl hgF,Hrp.out,by rw [hlen];omega,A',c',by rw [hlen];exact Hbg.out,by rw [hlen];exact Hown.out⟩,HkF.out⟩
theorem b_new (w:World):Calls Tryz.prog 52 #[] w fun e w'=>e = .returned (.pointer (some ⟨w.heap.size,0,none⟩))∧Mpb w' (fun b=>b=w.heap.size) w.heap.size []∧Pure w w':=by
 have h:Mpb (w.alloc (.cells #[.slice none 0 0] 162)) (fun b=>b=w.heap.size) w.heap.size [] :=
  ⟨rfl,List.Pairwise.nil,by simp,none,0,Blk.new w _ _,Own.nil _ _ _ _⟩
 have H:=hI h;clear h;go_enter Tryz.func52,Tryz.ntmps52;go_wp2;go_ret;exact ⟨rfl,H.out,(Kept.refl _ _).alloc _⟩
end
section
open Go.RowKit
def mS (a:Int):Nat:=max a.toNat 1
theorem zip_nil (gs:List Nat):List.zipWith mpC gs (List.replicate gs.length [])=gs.map (fun g=>mpC g []):=by
 induction gs with
 | nil=>rfl
 | cons g gs ih=>simp only [List.length_cons,List.replicate_succ,List.zipWith_cons_cons,List.map_cons,ih]
theorem info_ptr:(Tryz.prog.info? 158).map (fun i=>(i.zero,i.size,i.bytes))=some (some (.pointer none),1,8):=by kernel_rfl
theorem rg_new (w:World) (a:Int) (ha:a≤64) :
  Calls Tryz.prog 51 #[.int .i64 a] w fun e w'=>e = .returned (ptrV w.heap.size)∧Rg (mS a) w' (fun b=>w.heap.size≤b) w.heap.size []∧Pure w w':=by
 have CN:=hI i_new;obtain ⟨N,hN⟩:∃ N,w.heap.size=N:=⟨_,rfl⟩;obtain ⟨m,hm⟩:∃ m,mS a=m:=⟨_,rfl⟩;have hm1:1≤m∧m≤64:=by unfold mS at hm;omega
 have hr0:Run w (fun _=>False) (w.alloc (.cells #[.slice none 0 0] 157)) (blkC N 157 #[.slice none 0 0]::ownC 158 1 (.slice none 0 0) 0 []::[]):=by
  have h:=((Run.start (F:=fun _=>False) (w:=w) (Ps:=[]) trivial).addNil 158 1).addBlk #[.slice none 0 0] 157;rw [hN] at h;exact h
 have hmx:max a 1=(m:Int):=by unfold mS at hm;omega
 have Hr0:=hI hr0;have HN:=hI hN;rw [hm];rw [hN];clear hr0 hm;go_enter Tryz.func51,Tryz.ntmps51;go_wp2;obtain ⟨W0,hW0⟩:∃ x,w.alloc (.cells #[.slice none 0 0] 157)=x:=⟨_,rfl⟩;rw [hW0] at Hr0 ⊢;clear hW0 hmx ha
 go_loopw [8] (fun i wr=>∃ (k c:Nat) (A:Option Addr) (gs:List Nat),i = .int .i64 k∧k≤m∧Hid (gs.length=k)∧Hid (Run w (fun _=>False) wr (blkC N 157 #[.slice A k c]::ownC 158 1 (.slice A k c) k (gs.map ptrV)::gs.map (fun g=>mpC g [])))) (fun i _=>m-(intOf i).toNat)
 case atStart=>exact ⟨0,0,none,[],rfl,Nat.zero_le _,rfl,Hr0⟩
 case round =>
  obtain ⟨k,c,A,gs,rfl,hk,hgl,hr⟩:=hrel;have hrb:=hr.out.blk 0 rfl;have hc:=hrb.cell;have hNr:¬wr.heap.size=N:=by have:=hrb.lt;omega
  by_cases hkm:k<m
  ·have hki:(k:Int)<(m:Int):=by omega
   go_wp2;refine wp_region_late (fun x=>x.cell? ⟨N,0,none⟩=some (.slice A k c)) [5,6,7,10] [0,1,2,3,4] [10] (by kernel_rfl) (by kernel_rfl) (by kernel_rfl) (by kernel_rfl) (hc 0) ?_
   repeat (with_reducible refine late_free (by decide) (by decide) (fun K hK=>?_);go_simp;first|(refine ex_steadyF ?_ (fun w' hw'=>?_) ?_;rotate_left;(skip;go_simp;first|done|rfl);(refine hK _ _ ?_;clear hK K))|(refine hK _ _ ?_;clear hK K))
   repeat (with_reducible refine late_step (by decide) (by decide) (fun K hK=>?_);go_simp;refine hK _ _ ?_;clear hK K)
   with_reducible refine late_move (by decide) (fun K hK=>?_)
   go_simp;refine up_enter ((CN.out _).mono ?_);rintro e w5 ⟨rfl,hm5,hk5⟩;have hr5:=(hr.out.drew.add (Q:=mpC wr.drew.heap.size []) hk5 (Mp.imp hm5 (fun b _ h=>by omega)))
   obtain ⟨x,hx⟩:∃ x,wr.drew.heap.size=x:=⟨_,rfl⟩;rw [hx] at hr5 ⊢;refine ⟨_,rfl,(hr5.blk 1 rfl).cell 0,hK _ _ ?_⟩;clear hK K
   repeat (with_reducible refine late_step (by decide) (by decide) (fun K hK=>?_);go_simp;refine hK _ _ ?_;clear hK K)
   with_reducible refine late_move (by decide) (fun K hK=>?_)
   go_simp;have hr6:=hr5.alloc (.cells #[ptrV x] 158);refine up_value ⟨(hr6.blk 1 rfl).cell 0,?_⟩;refine hK _ _ ?_;clear hK K;obtain ⟨G6,_,hp6,hup6⟩:=hr6.at 2 rfl;have hlit:=Sl.lit w5 #[ptrV x] 158 1 1 _ rfl rfl;refine late_move0 (by decide) rfl ?_
   refine up_app Tryz.underlying155 info_ptr rfl (by omega) hp6 hlit (fun u hu=>by simp at hu;subst hu;rfl) (by omega) (by omega) _ _ rfl rfl rfl (fun v7 w7 ho7 hk7=>?_)
   obtain ⟨A7,c7,rfl,_⟩:=ho7.form;have hr7:Run w (fun _=>False) w7 (mpC x []::blkC N 157 #[.slice A k c]::ownC 158 1 (.slice A7 (k+1) c7) (k+1) (gs.map ptrV++[ptrV x])::gs.map (fun g=>mpC g [])) :=
    hup6 w7 (ownC 158 1 (.slice A7 (k+1) c7) (k+1) (gs.map ptrV++[ptrV x])) (ho7.imp (fun b _ h=>h.imp (fun h=>h) (fun h=>Nat.le_of_eq h.symm))) hk7
   refine ⟨fun _=>(hr7.blk 1 rfl).cell 0,?_⟩;have hf7:=(hr7.blk 1 rfl).frozen;have hc7:=(hr7.blk 1 rfl).cell;have Hr7:=hI hr7;clear hr5 hr6 hp6 hup6 ho7 hk7 hr7 hm5 hk5
   repeat (with_reducible refine late_step (by decide) (by decide) (fun K hK=>?_);go_simp;refine hK _ _ ?_;clear hK K)
   with_reducible refine late_move (by decide) (fun K hK=>?_)
   go_simp;refine up_skip (hK _ _ ?_);clear hK K;refine late_nil ?_;have hr8:Run w (fun _=>False) (w7.setCell ⟨N,0,none⟩ (.slice A7 (k+1) c7)) (mpC x []::blkC N 157 #[.slice A7 (k+1) c7]::ownC 158 1 (.slice A7 (k+1) c7) (k+1) (gs.map ptrV++[ptrV x])::gs.map (fun g=>mpC g [])):=Hr7.out.set 1 rfl 0 _;obtain ⟨w8,hw8⟩:∃ y,w7.setCell ⟨N,0,none⟩ (.slice A7 (k+1) c7)=y:=⟨_,rfl⟩;rw [hw8] at hr8 ⊢;have hr9:Run w (fun _=>False) w8 (blkC N 157 #[.slice A7 (k+1) c7]::ownC 158 1 (.slice A7 (k+1) c7) (k+1) ((gs++[x]).map ptrV)::(gs++[x]).map (fun g=>mpC g [])):=by
    rw [List.map_append,List.map_append];exact hr8.perm (List.perm_append_singleton _ _).symm
   have Hr9:=hI hr9;clear hw8 hr8 hr9 hc7 hf7 hc hrb;go_wp2
   go_roundw
   case measure=>simp [intOf];omega
   case rel=>exact ⟨k+1,c7,A7,gs++[x],by first|rfl|go_num,by omega,by rw [Hid,List.length_append,hgl.out];rfl,Hr9⟩
  ·obtain rfl:k=m:=by omega
   have hsh:=Shd.nil (shd k) k (fun s=>shd_lt (by omega) s)
   have hst:=hr.out.star;have hkp:=hr.out.kept;rw [←zip_nil,hgl.out] at hst;have hfin:Rg k wr (fun b=>N≤b) N []:=⟨List.replicate k [],A,c,gs,hsh,by simp,hgl.out,by simp,⟨by omega,by omega⟩,hst.imp (fun b _ h=>h.elim (fun h=>h.elim) (fun h=>by have:=HN.out;omega))⟩
   have Hfin:=hI hfin;have Hkp:=hI hkp;clear hsh hst hkp hfin;go_wp2;go_ret;exact ⟨rfl,Hfin.out,Hkp.out⟩
end
end Go.Proofs.YtjfpfeapbcjioaaGreat
