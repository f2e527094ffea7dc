/-
  The texts of this claim, put together: CaK, CaL, CaO.
-/
import Derived.Test.YtjfpfeapbcjioaaGreatZCaF
import Derived.Test.YtjfpfeapbcjioaaGreatZDel
import Derived.Test.YtjfpfeapbcjioaaGreatZFree
import Derived.Test.YtjfpfeapbcjioaaGreatZId
set_option linter.unusedSimpArgs false
set_option linter.unusedVariables false
set_option maxHeartbeats 12800000
set_option maxRecDepth 100000
namespace Go.Proofs.YtjfpfeapbcjioaaGreat
section
open Go.RowKit Go.PlainAid
def Fd.cells (f:Fd):List Value:=[.int .i64 f.kind,.int .i64 f.label,.string f.value]
theorem Fd.cells_len (f:Fd):f.cells.length=3:=rfl
abbrev fdc (l:List Fd):List Value:=l.flatMap Fd.cells
theorem fdc_len (l:List Fd):(fdc l).length=l.length*3:=fm_length _ 3 Fd.cells_len l
theorem fdc_one (l:List Fd):∀ u∈fdc l,u.oneCell'=true:=fun u hu=>by
 obtain ⟨f,_,hf⟩:=List.mem_flatMap.1 hu;simp [Fd.cells] at hf;rcases hf with rfl|rfl|rfl <;> rfl
theorem fd_at {w:World} {F:Nat→Prop} {b o n:Nat} {l:List Fd} (h:Sl w F 3 (some ⟨b,o,none⟩) n (fdc l)) {i:Nat} {f:Fd} (hi:l[i]? = some f) :
  w.cell? ⟨b,o+i*3,none⟩=some (.int .i64 f.kind)∧w.cell? ⟨b,o+i*3+1,none⟩=some (.int .i64 f.label)∧w.cell? ⟨b,o+i*3+2,none⟩=some (.string f.value):=by
 have hn:0<n:=by
  have:=h.1;rw [fdc_len] at this;have:=(List.getElem?_eq_some_iff.1 hi).1;omega
 have h0:=sl_at Fd.cells_len h hn hi 0 (by omega)
 have h1:=sl_at Fd.cells_len h hn hi 1 (by omega)
 have h2:=sl_at Fd.cells_len h hn hi 2 (by omega)
 exact ⟨h0,h1,h2⟩
def lessF (a b:Fd):Bool:=if a.kind≠b.kind then decide (a.kind<b.kind) else if a.label≠b.label then decide (a.label<b.label) else Op.bytesLess a.value.toList b.value.toList
theorem ref_less (a b:Fd) (w:World):Calls Tryz.prog 272 #[a.val,b.val] w (BoolPu (lessF a b) w):=by
 obtain ⟨R,hR⟩:∃ R,lessF a b=R:=⟨_,rfl⟩;rw [hR];unfold lessF at hR;have ha:=(Blk.new w 265 a.row).alloc (.cells b.row 265);have hb:=Blk.new (w.alloc (.cells a.row 265)) 265 b.row;rw [World.size_alloc] at hb;have hp:=((Kept.refl (fun _=>False) w).alloc (.cells a.row 265)).alloc (.cells b.row 265);have hca:=ha.cell;have hcb:=hb.cell;have Hp:=hI hp;obtain ⟨ka,la,va⟩:=a;obtain ⟨kb,lb,vb⟩:=b;simp only at hR
 clear ha hb hp
 by_cases c1:ka=kb
 ·subst c1
  rw [if_neg (by simp)] at hR
  have d1:(ka != ka)=false:=by simp
  by_cases c2:la=lb
  ·subst c2
   rw [if_neg (by simp)] at hR
   have d2:(la != la)=false:=by simp
   subst hR;go_enter Tryz.func272,Tryz.ntmps272;go_wp2;go_ret;exact ⟨rfl,Hp.out⟩
  ·rw [if_pos c2] at hR
   have d2:(la != lb)=true:=by simpa using c2
   subst hR;clear c2;go_enter Tryz.func272,Tryz.ntmps272;go_wp2;go_ret;exact ⟨rfl,Hp.out⟩
 ·rw [if_pos c1] at hR
  have d1:(ka != kb)=true:=by simpa using c1
  subst hR;clear c1;go_enter Tryz.func272,Tryz.ntmps272;go_wp2;go_ret;exact ⟨rfl,Hp.out⟩
theorem ref_has (A:Option Addr) (n c:Nat) (l:List Fd) (f:Fd) (w:World) (F:Nat→Prop) (h:Sl w F 3 A n (fdc l)) (hn:n≤100000) :
  Calls Tryz.prog 271 #[.slice A n c,f.val] w (BoolPu (decide (f∈l)) w):=by
 have hl:l.length=n:=by have:=h.1;rw [fdc_len] at this;omega
 have hb:=Blk.new w 265 f.row;have hp:=(Kept.refl (fun _=>False) w).alloc (.cells f.row 265);obtain ⟨R,hR⟩:∃ R,decide (f∈l)=R:=⟨_,rfl⟩;rw [hR];have HR:=hI hR;have Hb:=hI hb;have Hp:=hI hp;have H:=hI h;have Hl:=hI hl;clear hR hb hp h hl;go_enter Tryz.func271,Tryz.ntmps271;go_wp2_with fail
 go_loopw [5] (fun vi wr=>∃ k:Nat,vi = .int .i64 k∧k≤n∧Hid (∀ g∈l.take k,¬g=f)∧Hid (Pure (w.alloc (.cells f.row 265)) wr)) (fun vi _=>n-(intOf vi).toNat)
 case atStart=>exact ⟨0,rfl,Nat.zero_le _,hI (fun g hg=>by cases hg),hI (Kept.refl _ _)⟩
 case round =>
  obtain ⟨k,rfl,hk,hall,hpk⟩:=hrel
  by_cases hlt:k<n
  ·obtain ⟨g,hg⟩:∃ g,l[k]? = some g:=⟨_,List.getElem?_eq_getElem (by have:=Hl.out;omega)⟩
   have hs:=(H.out.alloc (.cells f.row 265)).kept (S:=fun _=>False) hpk.out (fun _ _ _ h=>h);obtain ⟨b,o,rfl,_,hb1,_⟩:=hs.2 (by omega)
   obtain ⟨x0,x1,x2⟩:=fd_at hs hg;have hcf:=(Hb.out.kept (S:=fun _=>False) hpk.out (fun h=>h)).cell;have heq:=eq_fd g f;have hgd:=fun x y xs ys=>guard_fd x y xs ys .eql;have hki:(k:Int)<(n:Int):=by omega
   have Hg:=hI hg;clear hs hg
   by_cases hgf:g=f
   ·have e:R=true:=by rw [←HR.out];exact decide_eq_true (by rw [←hgf];exact List.mem_of_getElem? Hg.out)
    have E:=hI e;rw [decide_eq_true hgf] at heq;clear e hgf;go_wp2_with fail;refine gz42 ?_;refine gz2 ?_;refine gz13 ?_;go_wp2;go_ret;exact ⟨by rw [E.out];rfl,Hp.out.same hpk.out.drew⟩
   ·have HN:Hid (∀ x∈l.take (k+1),¬x=f):=fun x hx=>by
     rw [List.take_add_one,Hg.out,Option.toList_some] at hx;rcases List.mem_append.1 hx with hx|hx
     ·exact hall.out x hx
     ·rw [List.mem_singleton.1 hx];exact hgf
    rw [decide_eq_false hgf] at heq;clear hgf;go_wp2_with fail;refine gz42 ?_;refine gz2 ?_;refine gz13 ?_;go_wp2
    go_roundw
    case measure=>first|omega|(simp [intOf];done)|(simp [intOf];omega)
    case rel=>exact ⟨k+1,by first|rfl|go_num,by omega,HN,hI hpk.out.drew⟩
  ·obtain rfl:k=n:=by omega
   have e:R=false:=by
    rw [←HR.out];refine decide_eq_false (fun hm=>hall.out f ?_ rfl);rw [List.take_of_length_le (by have:=Hl.out;omega)];exact hm
   have E:=hI e;clear e;go_wp2;go_ret;exact ⟨by rw [E.out];rfl,Hp.out.same hpk.out⟩
def lowF (out:List Fd) (f:Fd):Nat:=(out.takeWhile fun g=>lessF g f).length
def riseS (out:List Fd) (f:Fd):List Fd:=if f∈out then out else out.take (lowF out f)++[f]++out.drop (lowF out f)
def riseL (l:List Fd):List Fd:=l.foldl riseS []
theorem riseL_take {l:List Fd} {i:Nat} {f:Fd} (h:l[i]? = some f):riseL (l.take (i+1))=riseS (riseL (l.take i)) f:=by
 unfold riseL;rw [List.take_add_one,h,Option.toList_some,List.foldl_append];rfl
theorem riseS_len (out:List Fd) (f:Fd):(riseS out f).length≤out.length+1:=by
 unfold riseS
 split
 ·omega
 ·simp only [List.length_append,List.length_take,List.length_drop,List.length_singleton];omega
theorem riseL_len (l:List Fd):(riseL l).length≤l.length:=by
 have:∀ (l o:List Fd),(l.foldl riseS o).length≤o.length+l.length:=by
  intro l
  induction l with
  | nil=>intro o;simp
  | cons f l ih =>
   intro o;have h1:=ih (riseS o f);have h2:=riseS_len o f;simp only [List.foldl_cons,List.length_cons];omega
 simpa [riseL] using this l []
theorem lowF_of {f:Fd}:∀ {out:List Fd} {k:Nat},k≤out.length→(∀ j g,j<k→out[j]? = some g→lessF g f=true)→(∀ g,out[k]? = some g→lessF g f=false)→lowF out f=k
 | [],k,hk,_,_=>by simp at hk;subst hk;rfl
 | g::out,0,_,_,h2=>by
  unfold lowF;rw [List.takeWhile_cons,h2 g rfl];rfl
 | g::out,k+1,hk,h1,h2=>by
  have h3:=lowF_of (f:=f) (out:=out) (k:=k) (by simpa using hk) (fun j x hj hx=>h1 (j+1) x (by omega) (by simpa using hx)) (fun x hx=>h2 x (by simpa using hx))
  unfold lowF at h3 ⊢;rw [List.takeWhile_cons,h1 0 g (by omega) rfl,if_pos rfl,List.length_cons,h3]
theorem Sl.tail {w:World} {F:Nat→Prop} {k b o n:Nat} {xs:List Value} (h:Sl w F k (some ⟨b,o,none⟩) n xs) (m:Nat) (hm:m≤n):Sl w F k (some ⟨b,o+m*k,none⟩) (n-m) (xs.drop (m*k)):=by
 have h1:m*k≤n*k:=Nat.mul_le_mul_right _ hm;have h2:(n-m)*k=n*k-m*k:=Nat.sub_mul _ _ _;refine ⟨by rw [List.length_drop,h.1,h2],fun hlt=>?_⟩
 obtain ⟨b',o',e,hF,hb,hc⟩:=h.2 (by omega)
 injection e with e
 injection e with e1 e2
 subst e1 e2;exact ⟨_,_,rfl,hF,hb,fun j hj=>by rw [List.length_drop] at hj;rw [Nat.add_assoc,hc (m*k+j) (by omega),List.getElem?_drop]⟩
theorem info_fd:(Tryz.prog.info? 265).map (fun i=>(i.zero,i.size,i.bytes))=some (some (.agg #[.int .i64 0,.int .i64 0,.string ⟨#[]⟩]),3,32):=by kernel_rfl
def NewFd (l:List Fd) (w:World) (e:Ending) (w':World):Prop:=∃ A c,e = .returned (.slice A l.length c)∧Own w' (fun b=>w.heap.size≤b) 265 3 (.slice A l.length c) l.length (fdc l)∧Pure w w'
theorem fdc_app (a b:List Fd):fdc (a++b)=fdc a++fdc b:=by simp [fdc]
theorem ref_rise (A:Option Addr) (n c:Nat) (l:List Fd) (w:World) (F:Nat→Prop) (h:Sl w F 3 A n (fdc l)) (hn:n≤100000) :
  Calls Tryz.prog 256 #[.slice A n c] w (NewFd (riseL l) w):=by
 have hl:l.length=n:=by have:=h.1;rw [fdc_len] at this;omega
 have H:=hI h;have Hl:=hI hl;clear h hl;go_enter Tryz.func256,Tryz.ntmps256;go_wp2_with fail
 go_loopw [3,4] (fun vo vi wr=>∃ (k m:Nat) (B:Option Addr) (cc:Nat),vo = .slice B m cc∧vi = .int .i64 k∧k≤n∧m≤k∧m≤cc∧Hid ((riseL (l.take k)).length=m∧Own wr (fun b=>w.heap.size≤b) 265 3 (.slice B m cc) m (fdc (riseL (l.take k)))∧Pure w wr)) (fun _ vi _=>n-(intOf vi).toNat)
 case atStart=>exact ⟨0,0,none,0,rfl,rfl,Nat.zero_le _,Nat.zero_le _,Nat.zero_le _,hI ⟨rfl,Own.nil _ _ _ _,Kept.refl _ _⟩⟩
 case round =>
  obtain ⟨k,m,B,cc,rfl,rfl,hk,hmk,hmc,hh⟩:=hrel
  by_cases hlt:k<n
  ·obtain ⟨f,hf⟩:∃ f,l[k]? = some f:=⟨_,List.getElem?_eq_getElem (by have:=Hl.out;omega)⟩
   have hs:=H.out.kept (S:=fun _=>False) hh.out.2.2 (fun _ _ _ h=>h);obtain ⟨b,o,rfl,_,_,_⟩:=hs.2 (by omega)
   obtain ⟨x0,x1,x2⟩:=fd_at hs hf;have hki:(k:Int)<(n:Int):=by omega
   have Hst:=hI (riseL_take hf);have CH:=hI (ref_has B m cc (riseL (l.take k)) f wr _ hh.out.2.1.sl (by omega))
   obtain ⟨out,ho⟩:∃ out,riseL (l.take k)=out:=⟨_,rfl⟩;rw [ho] at hh Hst CH;have Hf:=hI hf;clear hs hf ho;cases hin:decide (f∈out) with
   | true =>
    rw [hin] at CH;have HE:Hid (riseL (l.take (k+1))=out):=by rw [Hid,Hst.out];unfold riseS;rw [if_pos (of_decide_eq_true hin)]
    clear hin;go_wp2_with fail;refine (CH.out).mono ?_;rintro e w3 ⟨rfl,hk3⟩;have HO:Hid ((riseL (l.take (k+1))).length=m∧Own w3 (fun b=>w.heap.size≤b) 265 3 (.slice B m cc) m (fdc (riseL (l.take (k+1))))∧Pure w w3):=by
     rw [Hid,HE.out];exact ⟨hh.out.1,hh.out.2.1.kept hk3 (fun _ _ _ h=>h),hh.out.2.2.same hk3⟩
    clear hk3;go_wp2
    go_roundw
    case measure=>first|omega|(simp [intOf];done)|(simp [intOf];omega)
    case rel=>exact ⟨k+1,m,B,cc,rfl,by first|rfl|go_num,by omega,by omega,hmc,HO⟩
   | false =>
    rw [hin] at CH;have HE:Hid (riseL (l.take (k+1))=out.take (lowF out f)++[f]++out.drop (lowF out f)):=by rw [Hid,Hst.out];unfold riseS;rw [if_neg (of_decide_eq_false hin)]
    clear hin;go_wp2_with fail;refine (CH.out).mono ?_;rintro e w3 ⟨rfl,hk3⟩;have Hk3:=hI hk3;clear hk3 x0 x1 x2 CH Hst;go_wp2
    go_loopw [5] (fun vj wx=>∃ j:Nat,vj = .int .i64 j∧j≤m∧Hid ((∀ i g,i<j→out[i]? = some g→lessF g f=true)∧Pure wr wx)) (fun vj _=>m-(intOf vj).toNat)
    case atStart=>exact ⟨0,rfl,Nat.zero_le _,hI ⟨fun i g hi=>absurd hi (by omega),Hk3.out⟩⟩
    case round =>
     obtain ⟨j,rfl,hjm,hlow⟩:=hrel;have hjc:(j:Int)≤(cc:Int):=by omega
     have hO:=hh.out.2.1.kept (S:=fun _=>False) hlow.out.2 (fun _ _ _ h=>h);have hS:=H.out.kept (S:=fun _=>False) (hh.out.2.2.same hlow.out.2) (fun _ _ _ h=>h);obtain ⟨x0,x1,x2⟩:=fd_at hS Hf.out
     by_cases hjlt:j<m
     ·obtain ⟨g,hg⟩:∃ g,out[j]? = some g:=⟨_,List.getElem?_eq_getElem (by have:=hh.out.1;omega)⟩
      obtain ⟨b2,o2,rfl,_,_,_⟩:=hO.sl.2 (by omega)
      obtain ⟨y0,y1,y2⟩:=fd_at hO.sl hg;have hji:(j:Int)<(m:Int):=by omega
      have CL:=fun w=>ref_less g f w;have Hg:=hI hg;clear hO hS hg;cases hgl:lessF g f with
      | true =>
       rw [hgl] at CL;have CL:=hI CL;have HN:Hid (∀ i x,i<j+1→out[i]? = some x→lessF x f=true):=fun i x hi hx=>by
        by_cases hij:i<j
        ·exact hlow.out.1 i x hij hx
        ·obtain rfl:i=j:=by omega
         rw [Hg.out] at hx;injection hx with hx;rw [←hx];exact hgl
       clear hgl;go_wp2_with fail;refine gz79 ?_;refine gz2 ?_
       with_reducible refine seq_move (by decide) (fun K hK=>?_)
       go_simp;refine up_enter ((CL.out _).mono ?_);rintro e w5 ⟨rfl,hk5⟩;have HK5:=hI (hlow.out.2.drew.same hk5);refine ⟨_,rfl,hK _ _ ?_⟩;clear hK K hk5 x0 x1 x2 y0 y1 y2;refine gz2 ?_;refine gz13 ?_;go_wp2
       go_roundw
       case measure=>first|omega|(simp [intOf];done)|(simp [intOf];omega)
       case rel=>exact ⟨j+1,by first|rfl|go_num,by omega,hI ⟨HN.out,HK5.out⟩⟩
      | false =>
       rw [hgl] at CL;have CL:=hI CL;have HE2:Hid (lowF out f=j):=lowF_of (by have:=hh.out.1;omega) hlow.out.1 (fun x hx=>by
        rw [Hg.out] at hx;injection hx with hx;rw [←hx];exact hgl)
       clear hgl;go_wp2_with fail;refine gz79 ?_;refine gz2 ?_
       with_reducible refine seq_move (by decide) (fun K hK=>?_)
       go_simp;refine up_enter ((CL.out _).mono ?_);rintro e wX ⟨rfl,hk5⟩;have HX:=hI (hlow.out.2.drew.same hk5);refine ⟨_,rfl,hK _ _ ?_⟩;clear hK K hk5 x0 x1 x2 y0 y1 y2;refine gz2 ?_;refine gz13 ?_;have hO:=hh.out.2.1.kept (S:=fun _=>False) HX.out (fun _ _ _ h=>h);have hS:=H.out.kept (S:=fun _=>False) (hh.out.2.2.same HX.out) (fun _ _ _ h=>h);have hp1:=hO.sl.pre j hjm;rw [←fm_take Fd.cells_len] at hp1
       go_wp2_with (first|(at_builtin;refine held ?_))
       refine unheld ?_;refine gz39 ?_;intro v1 w1 ho1 hk1;have hpu1:Pure wX w1:=hk1.mono (fun i hi h=>absurd h (by omega))
       rw [Nat.zero_add,List.nil_append] at ho1;have hS1:=hS.kept (S:=fun _=>False) hpu1 (fun _ _ _ h=>h);obtain ⟨x0,x1,x2⟩:=fd_at hS1 Hf.out;have Ho1:=hI ho1;have Hpu1:=hI hpu1;have HO:=hI hO;clear hO hS hS1 hp1 ho1 hk1 hpu1;go_wp2_with (first|(at_builtin;refine held ?_));refine unheld ?_;refine gz22 ?_;intro v2 w2 ho2 hk2;have hpu2:Pure wX w2:=(Hpu1.out.alloc _).trans hk2 (fun i hi h=>by have h:wX.heap.size≤i:=h;omega)
       have hO2:=HO.out.kept (S:=fun _=>False) hpu2 (fun _ _ _ h=>h);have Ho2:=hI ho2;have Hpu2:=hI hpu2;clear ho2 hk2 hpu2 x0 x1 x2
       (have hcj:¬cc=j:=by omega)
       go_wp2_with (first|(at_builtin;refine held ?_))
       refine unheld ?_;refine wp_appB wX.heap.size Tryz.underlying192 info_fd rfl (by omega) Hpu2.out.size Ho2.out ((show Sl w2 _ 3 (some ⟨b2,o2+j*3,none⟩) (m-j) (fdc (out.drop j)) from by rw [fdc,fm_drop Fd.cells_len];exact hO2.sl.tail j hjm)) (fdc_one _) (by omega) (by omega) rfl _ _ rfl rfl rfl ?_
       intro v3 w4 ho3 hk3;have hpu3:Pure wX w4:=Hpu2.out.trans hk3 (fun i hi h=>by have h:wX.heap.size≤i:=h;omega)
       have hpw:Pure w w4:=(hh.out.2.2.same HX.out).same hpu3;have hz9:=(hh.out.2.2.same HX.out).size;have hnx:riseL (l.take (k+1))=out.take j++[f]++out.drop j:=by rw [HE.out,HE2.out]
       have hnl:(riseL (l.take (k+1))).length=m+1:=by
        rw [hnx];have:=hh.out.1;simp only [List.length_append,List.length_take,List.length_drop,List.length_singleton];omega
       have hfin:Own w4 (fun b=>w.heap.size≤b) 265 3 v3 (m+1) (fdc (riseL (l.take (k+1)))):=by
        rw [hnx,fdc_app,fdc_app];rw [show j+1+(m-j)=m+1 by omega] at ho3
        exact ho3.imp (fun i _ h=>by have h:wX.heap.size≤i:=h;omega)
       obtain ⟨A9,c9,rfl,h9,_⟩:=hfin.form;have HF:=hI (And.intro hnl (And.intro hfin hpw));clear ho3 hk3 hpu3 hpw hz9 hnx hnl hfin hO2;go_wp2
       go_roundw
       case measure=>first|omega|(simp [intOf];done)|(simp [intOf];omega)
       case rel=>exact ⟨k+1,m+1,A9,c9,rfl,by first|rfl|go_num,by omega,by omega,h9,HF⟩
     ·obtain rfl:j=m:=by omega
      have HE2:Hid (lowF out f=j):=lowF_of (by have:=hh.out.1;omega) hlow.out.1 (fun x hx=>by
       have:=(List.getElem?_eq_some_iff.1 hx).1;have:=hh.out.1;omega)
      have HX:=hI hlow.out.2.drew;clear hO hS;obtain ⟨wX,hwX⟩:∃ x,wr.drew=x:=⟨_,rfl⟩;go_wp2_with fail;refine gz79 ?_;refine gz2 ?_
      with_reducible refine seq_move (by decide) (fun K hK=>?_)
      go_simp;refine hK _ _ ?_;clear hK K x0 x1 x2;refine gz2 ?_;refine gz13 ?_;rw [hwX] at HX
      first|rw [hwX]|skip
      clear hwX
      by_cases hcj:cc=j
      ·have hO:=hh.out.2.1.kept (S:=fun _=>False) HX.out (fun _ _ _ h=>h)
       have hS:=H.out.kept (S:=fun _=>False) (hh.out.2.2.same HX.out) (fun _ _ _ h=>h);have hp1:=hO.sl.pre j (Nat.le_refl _);rw [←fm_take Fd.cells_len] at hp1;go_wp2_with (first|(at_builtin;refine held ?_));refine unheld ?_;refine gz39 ?_;intro v1 w1 ho1 hk1;have hpu1:Pure wX w1:=hk1.mono (fun i hi h=>absurd h (by omega))
       rw [Nat.zero_add,List.nil_append] at ho1;have hS1:=hS.kept (S:=fun _=>False) hpu1 (fun _ _ _ h=>h);obtain ⟨x0,x1,x2⟩:=fd_at hS1 Hf.out;have Ho1:=hI ho1;have Hpu1:=hI hpu1;have HO:=hI hO;clear hO hS hS1 hp1 ho1 hk1 hpu1;go_wp2_with (first|(at_builtin;refine held ?_));refine unheld ?_;refine gz22 ?_;intro v2 w2 ho2 hk2;have hpu2:Pure wX w2:=(Hpu1.out.alloc _).trans hk2 (fun i hi h=>by have h:wX.heap.size≤i:=h;omega)
       have hO2:=HO.out.kept (S:=fun _=>False) hpu2 (fun _ _ _ h=>h);have Ho2:=hI ho2;have Hpu2:=hI hpu2;clear ho2 hk2 hpu2 x0 x1 x2
       skip
       go_wp2_with (first|(at_builtin;refine held ?_))
       refine unheld ?_;refine gz29 ?_;intro v3 w4 ho3 hk3;have hpu3:Pure wX w4:=Hpu2.out.trans hk3 (fun i hi h=>by have h:wX.heap.size≤i:=h;omega)
       have hpw:Pure w w4:=(hh.out.2.2.same HX.out).same hpu3;have hz9:=(hh.out.2.2.same HX.out).size;have hnx:riseL (l.take (k+1))=out.take j++[f]++out.drop j:=by rw [HE.out,HE2.out]
       have hnl:(riseL (l.take (k+1))).length=j+1:=by
        rw [hnx];have:=hh.out.1;simp only [List.length_append,List.length_take,List.length_drop,List.length_singleton];omega
       have hfin:Own w4 (fun b=>w.heap.size≤b) 265 3 v3 (j+1) (fdc (riseL (l.take (k+1)))):=by
        rw [hnx,fdc_app,fdc_app];rw [show j+1+0=j+1 by omega] at ho3
        exact ho3.imp (fun i _ h=>by have h:wX.heap.size≤i:=h;omega)
       obtain ⟨A9,c9,rfl,h9,_⟩:=hfin.form;have HF:=hI (And.intro hnl (And.intro hfin hpw));clear ho3 hk3 hpu3 hpw hz9 hnx hnl hfin hO2;go_wp2
       go_roundw
       case measure=>first|omega|(simp [intOf];done)|(simp [intOf];omega)
       case rel=>exact ⟨k+1,j+1,A9,c9,rfl,by first|rfl|go_num,by omega,by omega,h9,HF⟩
      ·have hO:=hh.out.2.1.kept (S:=fun _=>False) HX.out (fun _ _ _ h=>h)
       have hS:=H.out.kept (S:=fun _=>False) (hh.out.2.2.same HX.out) (fun _ _ _ h=>h);have hp1:=hO.sl.pre j (Nat.le_refl _);rw [←fm_take Fd.cells_len] at hp1;go_wp2_with (first|(at_builtin;refine held ?_));refine unheld ?_;refine gz39 ?_;intro v1 w1 ho1 hk1;have hpu1:Pure wX w1:=hk1.mono (fun i hi h=>absurd h (by omega))
       rw [Nat.zero_add,List.nil_append] at ho1;have hS1:=hS.kept (S:=fun _=>False) hpu1 (fun _ _ _ h=>h);obtain ⟨x0,x1,x2⟩:=fd_at hS1 Hf.out;have Ho1:=hI ho1;have Hpu1:=hI hpu1;have HO:=hI hO;clear hO hS hS1 hp1 ho1 hk1 hpu1;go_wp2_with (first|(at_builtin;refine held ?_));refine unheld ?_;refine gz22 ?_;intro v2 w2 ho2 hk2;have hpu2:Pure wX w2:=(Hpu1.out.alloc _).trans hk2 (fun i hi h=>by have h:wX.heap.size≤i:=h;omega)
       have hO2:=HO.out.kept (S:=fun _=>False) hpu2 (fun _ _ _ h=>h);have Ho2:=hI ho2;have Hpu2:=hI hpu2;clear ho2 hk2 hpu2 x0 x1 x2
       skip
       go_wp2_with (first|(at_builtin;refine held ?_))
       refine unheld ?_;refine gz29 ?_;intro v3 w4 ho3 hk3;have hpu3:Pure wX w4:=Hpu2.out.trans hk3 (fun i hi h=>by have h:wX.heap.size≤i:=h;omega)
       have hpw:Pure w w4:=(hh.out.2.2.same HX.out).same hpu3;have hz9:=(hh.out.2.2.same HX.out).size;have hnx:riseL (l.take (k+1))=out.take j++[f]++out.drop j:=by rw [HE.out,HE2.out]
       have hnl:(riseL (l.take (k+1))).length=j+1:=by
        rw [hnx];have:=hh.out.1;simp only [List.length_append,List.length_take,List.length_drop,List.length_singleton];omega
       have hfin:Own w4 (fun b=>w.heap.size≤b) 265 3 v3 (j+1) (fdc (riseL (l.take (k+1)))):=by
        rw [hnx,fdc_app,fdc_app];rw [show j+1+0=j+1 by omega] at ho3
        exact ho3.imp (fun i _ h=>by have h:wX.heap.size≤i:=h;omega)
       obtain ⟨A9,c9,rfl,h9,_⟩:=hfin.form;have HF:=hI (And.intro hnl (And.intro hfin hpw));clear ho3 hk3 hpu3 hpw hz9 hnx hnl hfin hO2;go_wp2
       go_roundw
       case measure=>first|omega|(simp [intOf];done)|(simp [intOf];omega)
       case rel=>exact ⟨k+1,j+1,A9,c9,rfl,by first|rfl|go_num,by omega,by omega,h9,HF⟩
  ·obtain rfl:k=n:=by omega
   have HO:Hid ((riseL l).length=m∧Own wr (fun b=>w.heap.size≤b) 265 3 (.slice B m cc) m (fdc (riseL l))∧Pure w wr):=by
    have h1:=hh.out;rw [List.take_of_length_le (by have:=Hl.out;omega)] at h1
    exact h1
   go_wp2;go_ret;refine ⟨B,cc,?_,?_,HO.out.2.2⟩
   ·rw [HO.out.1];rfl
   ·rw [HO.out.1];exact HO.out.2.1
end
section
open Go.RowKit Go.PlainAid
structure Fd.Wf (f:Fd):Prop where
 kl:f.Kl
 sz:f.value.size≤1000
def nlB:ByteArray:=⟨#[10]⟩
def linesL (l:List Fd):ByteArray:=l.foldl (fun s f=>s++(lineF f++nlB)) ⟨#[]⟩
theorem lineF_size {f:Fd} (h:f.Wf):(lineF f).size≤1010:=by
 obtain ⟨k,l,v⟩:=f;obtain ⟨⟨k1,k6,l0,l3⟩,hs⟩:=h;simp only at k1 k6 l0 l3 hs;obtain ⟨kn,rfl⟩:=Int.eq_ofNat_of_zero_le (show 0≤k by omega)
 obtain ⟨ln,rfl⟩:=Int.eq_ofNat_of_zero_le l0;have h1:=wordB_size kn (by omega)
 have h2:=labelB_size ln (by omega)
 have h3:colon.size=1:=rfl;unfold lineF
 split
 ·simp only [ByteArray.size_append];omega
 ·show (0:Nat)≤_;omega
theorem linesL_take {l:List Fd} {i:Nat} {f:Fd} (h:l[i]? = some f):linesL (l.take (i+1))=linesL (l.take i)++(lineF f++nlB):=by
 unfold linesL;rw [List.take_add_one,h,Option.toList_some,List.foldl_append];rfl
theorem linesL_size {l:List Fd} (h:∀ f∈l,f.Wf):∀ i,(linesL (l.take i)).size≤1011*i
 | 0=>by show (0:Nat)≤_;omega
 | i+1=>by
  have h1:=linesL_size h i;cases hl:l[i]? with
  | none=>rw [List.take_add_one,hl];simp only [Option.toList_none,List.append_nil];omega
  | some f =>
   have h2:=lineF_size (h f (List.mem_of_getElem? hl));rw [linesL_take hl,ByteArray.size_append,ByteArray.size_append];have:nlB.size=1:=rfl;omega
theorem ref_lines (A:Option Addr) (n c:Nat) (l:List Fd) (w:World) (F:Nat→Prop) (h:Sl w F 3 A n (fdc l)) (hn:n≤1000) (hw:∀ f∈l,f.Wf) :
  Calls Tryz.prog 231 #[.slice A n c] w (StrP (linesL l) w):=by
 have hl:l.length=n:=by have:=h.1;rw [fdc_len] at this;omega
 have H:=hI h;have Hl:=hI hl;have HW:=hI hw;have HS:=hI (linesL_size hw);clear h hl hw;go_enter Tryz.func231,Tryz.ntmps231;go_wp2_with fail
 go_loopw [3,4] (fun vs vi wr=>∃ (k:Nat) (S:ByteArray),vs = .string S∧vi = .int .i64 k∧k≤n∧Hid (S=linesL (l.take k))∧Hid (Pure w wr)) (fun _ vi _=>n-(intOf vi).toNat)
 case atStart=>exact ⟨0,_,rfl,rfl,Nat.zero_le _,hI rfl,hI (Kept.refl _ _)⟩
 case round =>
  obtain ⟨k,S,rfl,rfl,hk,hS,hp⟩:=hrel
  by_cases hlt:k<n
  ·obtain ⟨f,hf⟩:∃ f,l[k]? = some f:=⟨_,List.getElem?_eq_getElem (by have:=Hl.out;omega)⟩
   have hs:=H.out.kept (S:=fun _=>False) hp.out (fun _ _ _ h=>h);obtain ⟨b,o,rfl,_,_,_⟩:=hs.2 (by omega)
   obtain ⟨x0,x1,x2⟩:=fd_at hs hf;have hki:(k:Int)<(n:Int):=by omega
   have hfw:=HW.out f (List.mem_of_getElem? hf);have CL:=fun w=>ref_line f w hfw.kl hfw.sz;have z1:=lineF_size hfw;have z2:=HS.out k;rw [←hS.out] at z2;have hnx:=linesL_take hf;rw [←hS.out] at hnx;generalize lineF f=L at *;have g1:(9223372036854775807<L.size+1)=False:=eq_false (by omega)
   obtain ⟨M,hM⟩:∃ M,L++(⟨#[10]⟩:ByteArray)=M:=⟨_,rfl⟩;have z3:M.size≤1011:=by rw [←hM,ByteArray.size_append];have:(⟨#[10]⟩:ByteArray).size=1:=rfl;omega
   have g2:(9223372036854775807<S.size+M.size)=False:=eq_false (by omega)
   have HN:Hid (S++M=linesL (l.take (k+1))):=by rw [Hid,hnx,←hM];rfl
   have CL:=hI CL;clear hs hf hfw z1 z2 z3 hnx;go_wp2_with fail;refine (CL.out _).mono ?_;rintro e w3 ⟨rfl,hk3⟩;have Hk3:=hI (hp.out.same hk3);clear hk3 x0 x1 x2;go_wp2
   go_roundw
   case measure=>first|omega|(simp [intOf];done)|(simp [intOf];omega)
   case rel=>exact ⟨k+1,S++M,rfl,by first|rfl|go_num,by omega,HN,Hk3⟩
  ·obtain rfl:k=n:=by omega
   have HN:Hid (S=linesL l):=by rw [Hid,hS.out,List.take_of_length_le (by have:=Hl.out;omega)]
   go_wp2;go_ret;exact ⟨by rw [←HN.out];first|done|rfl,hp.out⟩
def canG:List Fd→List Fd→List Fd×Int
 | acc,[]=>(acc,0)
 | acc,f::r=>if (canF f).2≠0 then ([],(canF f).2) else canG (acc++[(canF f).1]) r
def cnt (l:List Fd) (k:Nat):Nat:=l.countP (fun f=>decide (f.kind=(k:Int)))
def cntOk (l:List Fd):Bool:=decide (cnt l 1=1∧cnt l 2≤1∧cnt l 5≤1)
def fieldsR (r:List Fd):List Fd×Int:=if 12<r.length then ([],2) else if cntOk r=false then ([],1) else if 900<(linesL r).size then ([],2) else (r,0)
def fieldsL (l:List Fd):List Fd×Int:=if (canG [] l).2≠0 then ([],(canG [] l).2) else fieldsR (riseL (canG [] l).1)
theorem canF_wf {f:Fd} (h:f.Wf) (he:(canF f).2=0):(canF f).1.Wf:=by
 unfold canF at he ⊢
 split at he
 ·cases he
 ·rename_i h1
  split at he
  ·rename_i h2;exact absurd he h2
  ·rename_i h2
   split at he
   ·rename_i h3;exact absurd he h3.2
   ·rename_i h3
    rw [if_neg h1,if_neg h2,if_neg h3];exact ⟨⟨h.kl.k1,h.kl.k6,h.kl.l0,h.kl.l3⟩,canV_size _ _ h.sz⟩
theorem rise_mem {l:List Fd}:∀ {f:Fd},f∈riseL l→f∈l:=by
 have key:∀ (l o:List Fd) (f:Fd),f∈l.foldl riseS o→f∈o∨f∈l:=by
  intro l
  induction l with
  | nil=>intro o f h;exact .inl h
  | cons g l ih =>
   intro o f h;rcases ih _ _ h with h|h
   ·unfold riseS at h
    split at h
    ·exact .inl h
    ·rcases List.mem_append.1 h with h|h
     ·rcases List.mem_append.1 h with h|h
      ·exact .inl (List.mem_of_mem_take h)
      ·exact .inr (by rw [List.mem_singleton.1 h];exact List.mem_cons_self)
     ·exact .inl (List.mem_of_mem_drop h)
   ·exact .inr (List.mem_cons_of_mem _ h)
 intro f h;rcases key l [] f h with h|h
 ·cases h
 ·exact h
def cntA (l:List Fd):Array Value:=((List.range 7).map fun k=>Value.int .i64 (cnt l k)).toArray
theorem cntA_at (l:List Fd) {k:Nat} (h:k<7):(cntA l)[k]? = some (.int .i64 (cnt l k)):=by
 unfold cntA;simp [h]
theorem cntA_size (l:List Fd):(cntA l).size=7:=by simp [cntA]
theorem cntA_step (l:List Fd) (f:Fd) {k:Nat} (hk:f.kind=k) (h:k<7):cntA (l++[f])=(cntA l).setIfInBounds k (.int .i64 ((cnt l k:Nat)+1)):=by
 apply Array.ext
 ·simp [cntA]
 ·intro i h1 h2
  rw [cntA_size] at h1;have e1:(cntA (l++[f]))[i]? = some (.int .i64 (cnt (l++[f]) i)):=cntA_at _ h1;have e2:((cntA l).setIfInBounds k (.int .i64 ((cnt l k:Nat)+1)))[i]? = some (.int .i64 (cnt (l++[f]) i)):=by
   rw [Array.getElem?_setIfInBounds];have hc:cnt (l++[f]) i=cnt l i+(if f.kind=(i:Int) then 1 else 0):=by
    unfold cnt;rw [List.countP_append,List.countP_singleton];simp
   by_cases hki:k=i
   ·subst hki
    rw [if_pos rfl,if_pos (by rw [cntA_size];exact h),hc,if_pos hk]
    simp
   ·rw [if_neg hki,cntA_at l h1,hc,if_neg (by rw [hk];omega)]
    simp
  rw [Array.getElem?_eq_getElem (by rw [cntA_size];exact h1)] at e1
  rw [Array.getElem?_eq_getElem h2] at e2;injection e1 with e1;injection e2 with e2;rw [e1,e2]
theorem cnt_le (l:List Fd) (k:Nat):cnt l k≤l.length:=List.countP_le_length
def FieldsP (r:List Fd×Int) (w:World) (e:Ending) (w':World):Prop:=∃ A c,e = .returned (.tuple #[.slice A r.1.length c,.int .i64 r.2])∧Own w' (fun b=>w.heap.size≤b) 265 3 (.slice A r.1.length c) r.1.length (fdc r.1)∧Pure w w'
theorem canG_wf:∀ {r acc:List Fd},(∀ f∈r,f.Wf)→(∀ f∈acc,f.Wf)→∀ f∈(canG acc r).1,f.Wf
 | [],acc,_,h=>h
 | f::r,acc,hr,h=>by
  unfold canG
  split
  ·intro g hg;cases hg
  ·rename_i he
   exact canG_wf (fun g hg=>hr g (List.mem_cons_of_mem _ hg)) (fun g hg=>by
    rcases List.mem_append.1 hg with hg|hg
    ·exact h g hg
    ·rw [List.mem_singleton.1 hg];exact canF_wf (hr f List.mem_cons_self) (Decidable.not_not.1 he))
theorem canG_len:∀ {r acc:List Fd},(canG acc r).1.length≤acc.length+r.length
 | [],acc=>by simp [canG]
 | f::r,acc=>by
  unfold canG
  split
  ·simp
  ·have:=canG_len (r:=r) (acc:=acc++[(canF f).1])
   simp only [List.length_append,List.length_cons,List.length_nil] at this ⊢;omega
theorem ref_fields (A:Option Addr) (n c:Nat) (l:List Fd) (w:World) (F:Nat→Prop) (h:Sl w F 3 A n (fdc l)) (hn:n≤1000) (hw:∀ f∈l,f.Wf) :
  Calls Tryz.prog 230 #[.slice A n c] w (FieldsP (fieldsL l) w):=by
 have hl:l.length=n:=by have:=h.1;rw [fdc_len] at this;omega
 obtain ⟨R,hR⟩:∃ R,fieldsL l=R:=⟨_,rfl⟩;rw [hR];unfold fieldsL at hR;obtain ⟨G,hG⟩:∃ G,canG [] l=G:=⟨_,rfl⟩;have hgw:=canG_wf hw (acc:=[]) (fun f hf=>by cases hf)
 have hgl:=canG_len (r:=l) (acc:=[]);rw [hG] at hR hgw hgl;have H:=hI h;have Hl:=hI hl;have HW:=hI hw;have HR:=hI hR;have HG:=hI hG;have HGW:=hI hgw;have HGL:=hI hgl;clear h hl hw hR hG hgw hgl;go_enter Tryz.func230,Tryz.ntmps230;go_wp2_with fail
 go_loopw [4,5] (fun va vi wr=>∃ (k m:Nat) (B:Option Addr) (cc:Nat) (acc:List Fd),va = .slice B m cc∧vi = .int .i64 k∧k≤n∧m≤k∧m≤cc∧Hid (acc.length=m∧canG acc (l.drop k)=G∧Own wr (fun b=>w.heap.size≤b) 265 3 (.slice B m cc) m (fdc acc)∧Pure w wr)) (fun _ vi _=>n-(intOf vi).toNat)
 case atStart=>exact ⟨0,0,none,0,[],rfl,rfl,Nat.zero_le _,Nat.zero_le _,Nat.zero_le _,hI ⟨rfl,HG.out,Own.nil _ _ _ _,Kept.refl _ _⟩⟩
 case round =>
  obtain ⟨k,m,B,cc,acc,rfl,rfl,hk,hmk,hmc,hh⟩:=hrel
  by_cases hlt:k<n
  ·obtain ⟨f,hf⟩:∃ f,l[k]? = some f:=⟨_,List.getElem?_eq_getElem (by have:=Hl.out;omega)⟩
   have hs:=H.out.kept (S:=fun _=>False) hh.out.2.2.2 (fun _ _ _ h=>h);obtain ⟨b,o,rfl,_,_,_⟩:=hs.2 (by omega)
   obtain ⟨x0,x1,x2⟩:=fd_at hs hf;have hki:(k:Int)<(n:Int):=by omega
   have hfw:=HW.out f (List.mem_of_getElem? hf);have CC:=fun w=>ref_canon f w hfw.kl hfw.sz;unfold FP at CC;have hdr:l.drop k=f::l.drop (k+1):=by
    obtain ⟨h1,h2⟩:=List.getElem?_eq_some_iff.1 hf;rw [←h2,List.drop_eq_getElem_cons h1]
   have hst:=hh.out.2.1;rw [hdr] at hst;unfold canG at hst;obtain ⟨r,hr⟩:∃ r,canF f=r:=⟨_,rfl⟩;rw [hr] at CC hst;obtain ⟨g,e⟩:=r;simp only at CC hst;have CC:=hI CC;have Hst:=hI hst;clear hs hf hfw hdr hst hr
   by_cases he:e≠0
   ·have he':(e != 0)=true:=by simpa using he
    have e1:R=([],e):=by
     have h1:=Hst.out;rw [if_pos he] at h1;rw [←HR.out,←h1];exact if_pos he
    have E:=hI e1;clear e1 he;go_wp2_with fail;refine (CC.out _).mono ?_;rintro e w3 ⟨rfl,hk3⟩;have hb3:=Blk.new w3 265 Fd.none.row;have hp3:=hI ((hh.out.2.2.2.same hk3).alloc (.cells Fd.none.row 265));have hz:=(hh.out.2.2.2.same hk3).size;clear hk3 x0 x1 x2;obtain ⟨gk,gl,gv⟩:=g;go_wp2_with (with_reducible refine stop_store (ty:=265) ?_);refine unheld ?_;refine gz53 ?_;intro w4 hb4 hk4;have Hp4:=hI (hp3.out.trans hk4 (fun i hi e=>by have e:i=w3.heap.size:=e;omega))
    clear hb4 hk4 hb3 hz;go_wp2
    go_ret2
    exact ⟨none,0,by rw [E.out];first|done|rfl,by rw [E.out];exact Own.nil _ _ _ _,Hp4.out⟩
   ·obtain rfl:e=0:=Decidable.not_not.1 he
    have HN:Hid (canG (acc++[g]) (l.drop (k+1))=G):=by
     have h1:=Hst.out;rw [if_neg he] at h1;exact h1
    clear he;go_wp2_with fail;refine (CC.out _).mono ?_;rintro e w3 ⟨rfl,hk3⟩;have hb3:=Blk.new w3 265 Fd.none.row;have hp3:=hI ((hh.out.2.2.2.same hk3).alloc (.cells Fd.none.row 265));have HO3:=hI ((hh.out.2.2.1.kept (S:=fun _=>False) hk3 (fun _ _ _ h=>h)).alloc (.cells Fd.none.row 265));have hz:=(hh.out.2.2.2.same hk3).size;have hlo:=fun (b:Nat) (hb:b<w3.heap.size+1)=>hb;have HO2:=hI (hh.out.2.2.1.kept (S:=fun _=>False) hk3 (fun _ _ _ h=>h))
    clear x0 x1 x2;obtain ⟨gk,gl,gv⟩:=g;go_wp2_with (with_reducible refine stop_store (ty:=265) ?_);refine unheld ?_;refine gz53 ?_;intro w4 hb4 hk4;have Hp4:=hI (hp3.out.trans hk4 (fun i hi e=>by have e:i=w3.heap.size:=e;omega))
    have hp34:Pure w3 w4:=((Kept.refl (fun _=>False) w3).alloc _).trans hk4 (fun i hi e=>by have e:i=w3.heap.size:=e;omega)
    have HO4:=hI (HO2.out.kept (S:=fun _=>False) hp34 (fun _ _ _ h=>h));have hc4:=hb4.cell;clear hb4 hk4 hb3 hk3 hlo hp34;go_wp2_with (first|(at_builtin;refine held ?_));refine unheld ?_;refine gz28 ?_;intro v5 w5 ho5 hk5;have hp5:Pure w w5:=(Hp4.out.alloc _).trans hk5 (fun i hi h=>by have h:w.heap.size≤i:=h;omega)
    obtain ⟨A9,c9,rfl,h9,_⟩:=ho5.form;have HF:Hid ((acc++[(⟨gk,gl,gv⟩:Fd)]).length=m+1∧canG (acc++[(⟨gk,gl,gv⟩:Fd)]) (l.drop (k+1))=G∧Own w5 (fun b=>w.heap.size≤b) 265 3 (.slice A9 (m+1) c9) (m+1) (fdc (acc++[(⟨gk,gl,gv⟩:Fd)]))∧Pure w w5):=⟨by have:=hh.out.1;simp;omega,HN.out,by rw [fdc_app];exact ho5,hp5⟩
    clear ho5 hk5 hp5 hc4 hz;go_wp2
    go_roundw
    case measure=>first|omega|(simp [intOf];done)|(simp [intOf];omega)
    case rel=>exact ⟨k+1,m+1,A9,c9,_,rfl,by first|rfl|go_num,by omega,by omega,h9,HF⟩
  ·obtain rfl:k=n:=by omega
   have hG2:G=(acc,0):=by
    have:=hh.out.2.1;rw [List.drop_of_length_le (by have:=Hl.out;omega)] at this
    exact this.symm
   have HGW2:=hI (fun f hf=>HGW.out f (by rw [hG2];exact hf):∀ f∈acc,f.Wf)
   have hR2:fieldsR (riseL acc)=R:=by
    rw [←HR.out,hG2];exact (if_neg (fun h=>h rfl)).symm
   have CR:=ref_rise B m cc acc wr _ hh.out.2.2.1.sl (by omega)
   have HR2:=hI hR2;have hrl:=riseL_len acc;rw [hh.out.1] at hrl;have HRW:=hI (fun f hf=>HGW2.out f (rise_mem hf):∀ f∈riseL acc,f.Wf);obtain ⟨r,hr⟩:∃ r,riseL acc=r:=⟨_,rfl⟩;rw [hr] at CR HR2 HRW hrl;have CR:=hI CR;have HP:=hI hh.out.2.2.2;clear hG2 hR2 hr;obtain ⟨q,hq⟩:∃ q,r.length=q:=⟨_,rfl⟩;have HQ:=hI hq;rw [hq] at hrl;unfold NewFd at CR;rw [hq] at CR;clear hq;go_wp2_with fail
   refine (CR.out).mono ?_;rintro e w3 ⟨B3,c3,rfl,ho3,hk3⟩;have HO3:=hI (ho3.imp (G:=fun b=>w.heap.size≤b) (fun b _ h=>by have:=HP.out.size;omega))
   have HP3:=hI (HP.out.same hk3);clear ho3 hk3;unfold fieldsR at HR2
   by_cases hq12:12<q
   ·have hq12':(12:Int)<(q:Int):=by omega
    have e1:R=([],2):=by rw [←HR2.out,HQ.out,if_pos hq12]
    have E:=hI e1;clear e1;go_wp2
    go_ret2
    exact cz69
   ·have hq12':((12:Int)<(q:Int))=False:=by simp;omega
    have hR3:(if cntOk r=false then ([],(1:Int)) else if 900<(linesL r).size then ([],2) else (r,0))=R:=by
     have:=HR2.out
     rwa [HQ.out,if_neg hq12] at this
    have HR3:=hI hR3;have hO3:Own w3 (fun b=>w.heap.size≤b∧b<w3.heap.size) 265 3 (.slice B3 q c3) q (fdc r):=HO3.out.imp (fun b hb h=>⟨h,hb⟩);have HOx:=hI (hO3.alloc (.cells (cntA []) 333));have HB0:=hI (Blk.new w3 333 (cntA []));have hqi:(q:Int)≤12:=by omega
    have HPa:=hI (HP3.out.alloc (.cells (cntA []) 333));have Hz3:=hI HP3.out.size;clear hR3 hO3 hq12;go_wp2
    go_loopw [9] (fun vi wr=>∃ k:Nat,vi = .int .i64 k∧k≤q∧Hid (Blk wr w3.heap.size 333 (cntA (r.take k))∧Kept (· = w3.heap.size) (w3.alloc (.cells (cntA []) 333)) wr)) (fun vi _=>q-(intOf vi).toNat)
    case atStart=>exact ⟨0,rfl,Nat.zero_le _,hI ⟨HB0.out,Kept.refl _ _⟩⟩
    case round =>
     obtain ⟨k,rfl,hkq,hbk⟩:=hrel;have hO5:=HOx.out.kept hbk.out.2 (fun b _ h e=>by have e:b=w3.heap.size:=e;omega)
     have hP5:Pure w wr:=HPa.out.trans hbk.out.2 (fun i hi e=>by have e:i=w3.heap.size:=e;have:=Hz3.out;omega)
     by_cases hkl:k<q
     ·obtain ⟨f,hf⟩:∃ f,r[k]? = some f:=⟨_,List.getElem?_eq_getElem (by have:=HQ.out;omega)⟩
      obtain ⟨b5,o5,rfl,_,_,_⟩:=hO5.sl.2 (by omega)
      obtain ⟨x0,_,_⟩:=fd_at hO5.sl hf;have hfw:=(HRW.out f (List.mem_of_getElem? hf)).kl;obtain ⟨fk,hfk⟩:=Int.eq_ofNat_of_zero_le (show 0≤f.kind by have:=hfw.k1;omega)
      have hk7:fk<7:=by have:=hfw.k6;omega
      have hk7i:(fk:Int)<7:=by omega
      rw [hfk] at x0;have hca:=hbk.out.1.cell fk;rw [cntA_at _ hk7] at hca;have hfr:=hbk.out.1.frozen;have hcl:=cnt_le (r.take k) fk;rw [List.length_take] at hcl;have hst:=cntA_step (r.take k) f hfk hk7;have htk:r.take (k+1)=r.take k++[f]:=by rw [List.take_add_one,hf];rfl
      rw [←htk] at hst;have hB7:=hbk.out.1.set fk (.int .i64 ((cnt (r.take k) fk:Nat)+1));rw [←hst] at hB7;have hK7:=hbk.out.2.setCell (p:=⟨w3.heap.size,fk,none⟩) (.inl rfl) (.int .i64 ((cnt (r.take k) fk:Nat)+1));have HN:=hI (And.intro hB7 hK7);generalize cnt (r.take k) fk=CN at *;have hkli:(k:Int)<(q:Int):=by omega
      have hcn:CN≤12:=by omega
      clear hf hfw hst htk hB7 hK7 hcl hO5 hP5;go_wp2
      go_roundw
      case measure=>first|omega|(simp [intOf];done)|(simp [intOf];omega)
      case rel=>exact ⟨k+1,by first|rfl|go_num,by omega,HN⟩
     ·obtain rfl:k=q:=by omega
      have hb9:=hbk.out.1;rw [List.take_of_length_le (by have:=HQ.out;omega)] at hb9
      have hc1:=hb9.cell 1;have hc2:=hb9.cell 2;have hc5:=hb9.cell 5;rw [cntA_at _ (by omega)] at hc1 hc2 hc5
      have HP5:=hI hP5;have HO5:=hI (hO5.imp (G:=fun b=>w.heap.size≤b) (fun b _ h=>h.1));have hok:cntOk r=decide (cnt r 1=1∧cnt r 2≤1∧cnt r 5≤1):=rfl;have hR4:=HR3.out;rw [hok] at hR4;clear hok hb9;obtain ⟨C1,hC1⟩:∃ x,cnt r 1=x:=⟨_,rfl⟩;obtain ⟨C2,hC2⟩:∃ x,cnt r 2=x:=⟨_,rfl⟩;obtain ⟨C5,hC5⟩:∃ x,cnt r 5=x:=⟨_,rfl⟩;rw [hC1] at hc1 hR4;rw [hC2] at hc2 hR4;rw [hC5] at hc5 hR4;clear hC1 hC2 hC5 hO5 hP5
      by_cases a1:C1=1
      ·have a1':((C1:Int) != 1)=false:=by simp;omega
       by_cases a2:C2≤1
       ·have a2':((1:Int)<(C2:Int))=False:=by simp;omega
        by_cases a5:C5≤1
        ·have a5':((1:Int)<(C5:Int))=False:=by simp;omega
         rw [decide_eq_true ⟨a1,a2,a5⟩,if_neg (by simp)] at hR4
         have CL:=ref_lines B3 k c3 r wr _ HO5.out.sl (by omega) HRW.out
         unfold StrP at CL;obtain ⟨L,hL⟩:∃ L,linesL r=L:=⟨_,rfl⟩;rw [hL] at CL hR4;have CL:=hI CL;clear a1 a2 a5 hL
         by_cases h9:900<L.size
         ·have h9':(900:Int)<(L.size:Int):=by omega
          have e1:R=([],2):=by rw [←hR4,if_pos h9]
          have E:=hI e1;clear e1 h9 hR4;go_wp2_with fail;refine CL.out.mono ?_;rintro e w7 ⟨rfl,hk7⟩;have HP7:=hI (HP5.out.same hk7);clear hk7;go_wp2
          go_ret2
          exact ⟨none,0,by rw [E.out];first|done|rfl,by rw [E.out];exact Own.nil _ _ _ _,HP7.out⟩
         ·have h9':((900:Int)<(L.size:Int))=False:=by simp;omega
          have e1:R=(r,0):=by rw [←hR4,if_neg h9]
          have E:=hI e1;clear e1 h9 hR4;go_wp2_with fail;refine CL.out.mono ?_;rintro e w7 ⟨rfl,hk7⟩;have HP7:=hI (HP5.out.same hk7);have HO7:=hI (HO5.out.kept (S:=fun _=>False) hk7 (fun _ _ _ h=>h));clear hk7 hc1 hc2 hc5;go_wp2
          go_ret2
          exact ⟨B3,c3,by rw [E.out];simp only;rw [HQ.out];rfl,by rw [E.out];simp only;rw [HQ.out];exact HO7.out,HP7.out⟩
        ·have a5':((1:Int)<(C5:Int))=True:=by simp;omega
         rw [decide_eq_false (fun h=>a5 h.2.2),if_pos rfl] at hR4;have E:=hI hR4.symm;clear hR4;go_wp2
         go_ret2
         exact cz70
       ·have a2':((1:Int)<(C2:Int))=True:=by simp;omega
        rw [decide_eq_false (fun h=>a2 h.2.1),if_pos rfl] at hR4;have E:=hI hR4.symm;clear hR4;go_wp2
        go_ret2
        exact cz70
      ·have a1':((C1:Int) != 1)=true:=by simp;omega
       rw [decide_eq_false (fun h=>a1 h.1),if_pos rfl] at hR4;have E:=hI hR4.symm;clear hR4;go_wp2
       go_ret2
       exact cz70
end
section
open Go.RowKit Go.PlainAid
def textL (l:List Fd):ByteArray×Int:=if (fieldsL l).2≠0 then (⟨#[]⟩,(fieldsL l).2) else (linesL (fieldsL l).1,0)
theorem fieldsL_wf {l:List Fd} (h:∀ f∈l,f.Wf):(∀ f∈(fieldsL l).1,f.Wf)∧(fieldsL l).1.length≤12:=by
 have h1:=canG_wf h (acc:=[]) (fun f hf=>by cases hf)
 unfold fieldsL
 split
 ·exact ⟨(fun f hf=>by cases hf),Nat.zero_le _⟩
 ·unfold fieldsR
  split
  ·exact ⟨(fun f hf=>by cases hf),Nat.zero_le _⟩
  ·rename_i h2
   split
   ·exact ⟨(fun f hf=>by cases hf),Nat.zero_le _⟩
   ·split
    ·exact ⟨(fun f hf=>by cases hf),Nat.zero_le _⟩
    ·exact ⟨fun f hf=>h1 f (rise_mem hf),by simp only;omega⟩
theorem ref_text (A:Option Addr) (n c:Nat) (l:List Fd) (w:World) (F:Nat→Prop) (h:Sl w F 3 A n (fdc l)) (hn:n≤1000) (hw:∀ f∈l,f.Wf) :
  Calls Tryz.prog 186 #[.slice A n c] w (SP w (textL l)):=by
 have CF:=ref_fields A n c l w F h hn hw;have hfw:=fieldsL_wf hw;unfold FieldsP at CF;unfold textL;obtain ⟨r,hr⟩:∃ r,fieldsL l=r:=⟨_,rfl⟩;rw [hr] at CF hfw ⊢;obtain ⟨r,e⟩:=r;simp only at CF hfw ⊢;have CF:=hI CF;have HFW:=hI hfw;clear hr h hw hfw
 by_cases he:e≠0
 ·rw [if_pos he]
  have he':(e != 0)=true:=by simpa using he
  clear he;go_enter Tryz.func186,Tryz.ntmps186;go_wp2_with fail;refine (CF.out).mono ?_;rintro e w3 ⟨A3,c3,rfl,ho3,hk3⟩;have HK3:=hI hk3;clear ho3 hk3;go_wp2
  go_ret2
  exact ⟨rfl,HK3.out⟩
 ·obtain rfl:e=0:=Decidable.not_not.1 he
  rw [if_neg he];clear he;go_enter Tryz.func186,Tryz.ntmps186;go_wp2_with fail;refine (CF.out).mono ?_;rintro e w3 ⟨A3,c3,rfl,ho3,hk3⟩;have HK3:=hI hk3;have CL:=hI (ref_lines A3 r.length c3 r w3 _ ho3.sl (by have:=HFW.out.2;omega) HFW.out.1)
  clear ho3 hk3;go_wp2_with fail;refine (CL.out).mono ?_;rintro e w4 ⟨rfl,hk4⟩;have HK4:=hI (HK3.out.same hk4);clear hk4;go_wp2
  go_ret2
  exact ⟨rfl,HK4.out⟩
def prG (s:ByteArray):Nat→Nat→Nat→List Fd→Option (List Fd)
 | 0,_,_,acc=>some acc
 | m+1,i,f,acc=>if bt s i≠10 then prG s m (i+1) f acc else if (parseF (s.extract f i)).2≠0 then none else prG s m (i+1) (i+1) (acc++[(parseF (s.extract f i)).1])
def parseC (s:ByteArray):List Fd×Int :=
 if 900<s.size then ([],1)
 else match prG s s.size 0 0 [] with
  | none=>([],1)
  | some l=>if (textL l).2≠0∨(textL l).1≠s then ([],1) else (l,0)
def isC (s:ByteArray):Bool:=decide ((parseC s).2=0)
theorem parseF_wf {s:ByteArray} (hs:s.size≤1000) (h:(parseF s).2=0):(parseF s).1.Wf:=by
 unfold parseF prs at h ⊢;cases ho:outG s 6 with
 | none=>rw [ho] at h;cases h
 | some f =>
  obtain ⟨h1,h2⟩:=outG_kl (by omega) ho
  exact ⟨h1,by simp only;omega⟩
theorem ref_parse (s:ByteArray) (w:World) (hs:s.size≤1000000):Calls Tryz.prog 136 #[.string s] w (FieldsP (parseC s) w):=by
 obtain ⟨R,hR⟩:∃ R,parseC s=R:=⟨_,rfl⟩;rw [hR];unfold parseC at hR;have hb:=get_bt s
 by_cases h9:900<s.size
 ·have h9':(900:Int)<(s.size:Int):=by omega
  rw [if_pos h9] at hR;have E:=hI hR.symm;clear hR h9;go_enter Tryz.func136,Tryz.ntmps136;go_wp2
  go_ret2
  exact ⟨none,0,by rw [E.out];first|done|rfl,by rw [E.out];exact Own.nil _ _ _ _,Kept.refl _ _⟩
 ·have h9':((900:Int)<(s.size:Int))=False:=by simp;omega
  rw [if_neg h9] at hR;obtain ⟨O,hO⟩:∃ O,prG s s.size 0 0 []=O:=⟨_,rfl⟩;rw [hO] at hR;have HR:=hI hR;have HO:=hI hO;have hs9:s.size≤900:=by omega
  clear hR hO h9 hs;go_enter Tryz.func136,Tryz.ntmps136;go_wp2
  go_loopw [4,5,6] (fun va vf vi wr=>∃ (i f m:Nat) (B:Option Addr) (cc:Nat) (acc:List Fd),va = .slice B m cc∧vf = .int .i64 f∧vi = .int .i64 i∧i≤s.size∧f≤i∧m≤i∧m≤cc∧Hid (acc.length=m∧(∀ x∈acc,x.Wf)∧prG s (s.size-i) i f acc=O∧Own wr (fun b=>w.heap.size≤b) 265 3 (.slice B m cc) m (fdc acc)∧Pure w wr)) (fun _ _ vi _=>s.size-(intOf vi).toNat)
  case atStart=>exact ⟨0,0,0,none,0,[],rfl,rfl,rfl,Nat.zero_le _,Nat.zero_le _,Nat.zero_le _,Nat.zero_le _,hI ⟨rfl,(fun x hx=>by cases hx),HO.out,Own.nil _ _ _ _,Kept.refl _ _⟩⟩
  case round =>
   obtain ⟨i,f,m,B,cc,acc,rfl,rfl,rfl,hi,hfi,hmi,hmc,hh⟩:=hrel
   by_cases hlt:i<s.size
   ·have hst:=hh.out.2.2.1
    rw [show s.size-i=(s.size-(i+1))+1 by omega] at hst
    unfold prG at hst
    by_cases h10:bt s i=10
    ·rw [if_neg (fun h=>h h10)] at hst
     have h10':(bt s i != 10)=false:=by simp [h10]
     have hxs:(s.extract f i).size≤1000:=by rw [ByteArray.size_extract];omega
     have CP:=fun w=>ref_parseField (s.extract f i) w hxs;have hwf:=parseF_wf hxs;have hfi':(0:Int)≤(f:Int)∧(f:Int)≤(i:Int)∧(i:Int)≤(s.size:Int):=by omega
     obtain ⟨X,hX⟩:∃ X,s.extract f i=X:=⟨_,rfl⟩;rw [hX] at CP hst hwf;unfold FP at CP;obtain ⟨p,hp⟩:∃ p,parseF X=p:=⟨_,rfl⟩;rw [hp] at CP hst hwf;obtain ⟨g,e⟩:=p;simp only at CP hst hwf;have CP:=hI CP;have Hst:=hI hst;have HWF:=hI hwf;clear hst hwf hp h10 hxs
     by_cases he:e≠0
     ·have he':(e != 0)=true:=by simpa using he
      have e1:R=([],1):=by
       have h1:=Hst.out;rw [if_pos he] at h1;rw [←HR.out,←h1]
      have E:=hI e1;clear e1 he;go_wp2_with fail;refine (CP.out _).mono ?_;rintro e w3 ⟨rfl,hk3⟩;have hb3:=Blk.new w3 265 Fd.none.row;have hp3:=hI ((hh.out.2.2.2.2.same hk3).alloc (.cells Fd.none.row 265));have hz:=(hh.out.2.2.2.2.same hk3).size;clear hk3;obtain ⟨gk,gl,gv⟩:=g;go_wp2_with (with_reducible refine stop_store (ty:=265) ?_);refine unheld ?_;refine gz53 ?_;intro w4 hb4 hk4;have Hp4:=hI (hp3.out.trans hk4 (fun i hi e=>by have e:i=w3.heap.size:=e;omega))
      clear hb4 hk4 hb3 hz;go_wp2
      go_ret2
      exact ⟨none,0,by rw [E.out];first|done|rfl,by rw [E.out];exact Own.nil _ _ _ _,Hp4.out⟩
     ·obtain rfl:e=0:=Decidable.not_not.1 he
      have HN:Hid (prG s (s.size-(i+1)) (i+1) (i+1) (acc++[g])=O):=by
       have h1:=Hst.out;rw [if_neg he] at h1;exact h1
      have HG:=hI (HWF.out rfl);clear he;go_wp2_with fail;refine (CP.out _).mono ?_;rintro e w3 ⟨rfl,hk3⟩;have hb3:=Blk.new w3 265 Fd.none.row;have hp3:=hI ((hh.out.2.2.2.2.same hk3).alloc (.cells Fd.none.row 265));have hz:=(hh.out.2.2.2.2.same hk3).size;have HO2:=hI (hh.out.2.2.2.1.kept (S:=fun _=>False) hk3 (fun _ _ _ h=>h));clear hk3;obtain ⟨gk,gl,gv⟩:=g;go_wp2_with (with_reducible refine stop_store (ty:=265) ?_)
      refine unheld ?_;refine gz53 ?_;intro w4 hb4 hk4;have Hp4:=hI (hp3.out.trans hk4 (fun i hi e=>by have e:i=w3.heap.size:=e;omega))
      have hp34:Pure w3 w4:=((Kept.refl (fun _=>False) w3).alloc _).trans hk4 (fun i hi e=>by have e:i=w3.heap.size:=e;omega)
      have HO4:=hI (HO2.out.kept (S:=fun _=>False) hp34 (fun _ _ _ h=>h));have hc4:=hb4.cell;clear hb4 hk4 hb3 hp34;go_wp2_with (first|(at_builtin;refine held ?_));refine unheld ?_;refine gz28 ?_;intro v5 w5 ho5 hk5;have hp5:Pure w w5:=(Hp4.out.alloc _).trans hk5 (fun i hi h=>by have h:w.heap.size≤i:=h;omega)
      obtain ⟨A9,c9,rfl,h9,_⟩:=ho5.form;have HF:Hid ((acc++[(⟨gk,gl,gv⟩:Fd)]).length=m+1∧(∀ x∈acc++[(⟨gk,gl,gv⟩:Fd)],x.Wf)∧prG s (s.size-(i+1)) (i+1) (i+1) (acc++[(⟨gk,gl,gv⟩:Fd)])=O∧Own w5 (fun b=>w.heap.size≤b) 265 3 (.slice A9 (m+1) c9) (m+1) (fdc (acc++[(⟨gk,gl,gv⟩:Fd)]))∧Pure w w5):=⟨by have:=hh.out.1;simp;omega,fun x hx=>(List.mem_append.1 hx).elim (hh.out.2.1 x) (fun hx=>by rw [List.mem_singleton.1 hx];exact HG.out),HN.out,by rw [fdc_app];exact ho5,hp5⟩
      clear ho5 hk5 hp5 hc4 hz;go_wp2
      go_roundw
      case measure=>first|omega|(simp [intOf];done)|(simp [intOf];omega)
      case rel=>exact ⟨i+1,i+1,m+1,A9,c9,_,rfl,by first|rfl|go_num,by first|rfl|go_num,by omega,by omega,by omega,h9,HF⟩
    ·rw [if_pos h10] at hst
     have h10':(bt s i != 10)=true:=by simpa using h10
     have HF:=hI (And.intro hh.out.1 (And.intro hh.out.2.1 (And.intro hst hh.out.2.2.2)));clear hst h10;go_wp2
     go_roundw
     case measure=>first|omega|(simp [intOf];done)|(simp [intOf];omega)
     case rel=>exact ⟨i+1,f,m,B,cc,acc,rfl,rfl,by first|rfl|go_num,by omega,by omega,by omega,hmc,HF⟩
   ·obtain rfl:i=s.size:=by omega
    have hO2:O=some acc:=by
     have:=hh.out.2.2.1;rw [Nat.sub_self] at this;exact this.symm
    have hR2:=HR.out;rw [hO2] at hR2;simp only at hR2;have CT:=ref_text B m cc acc wr _ hh.out.2.2.2.1.sl (by omega) hh.out.2.1
    unfold SP at CT;obtain ⟨tx,htx⟩:∃ tx,textL acc=tx:=⟨_,rfl⟩;rw [htx] at CT hR2;obtain ⟨T,e⟩:=tx;simp only at CT hR2;have CT:=hI CT;have HR2:=hI hR2;clear hO2 hR2 htx
    by_cases he:e≠0
    ·have he':(e != 0)=true:=by simpa using he
     have e1:R=([],1):=by rw [←HR2.out,if_pos (Or.inl he)]
     have E:=hI e1;clear e1 he;go_wp2_with fail;refine (CT.out).mono ?_;rintro e w3 ⟨rfl,hk3⟩;have HP3:=hI (hh.out.2.2.2.2.same hk3);clear hk3;go_wp2
     go_ret2
     exact cz69
    ·obtain rfl:e=0:=Decidable.not_not.1 he
     by_cases hts:T=s
     ·have hts':(T.toList == s.toList)=true:=by rw [hts];simp
      have e1:R=(acc,0):=by rw [←HR2.out,if_neg (by rintro (h|h);exact h rfl;exact h hts)]
      have E:=hI e1;clear e1 he hts;go_wp2_with fail;refine (CT.out).mono ?_;rintro e w3 ⟨rfl,hk3⟩;have HP3:=hI (hh.out.2.2.2.2.same hk3);have HO3:=hI (hh.out.2.2.2.1.kept (S:=fun _=>False) hk3 (fun _ _ _ h=>h));clear hk3;go_wp2
      go_ret2
      exact ⟨B,cc,by rw [E.out];simp only;rw [hh.out.1];rfl,by rw [E.out];simp only;rw [hh.out.1];exact HO3.out,HP3.out⟩
     ·have hts':(T.toList == s.toList)=false:=str_ne hts
      have e1:R=([],1):=by rw [←HR2.out,if_pos (Or.inr hts)]
      have E:=hI e1;clear e1 he hts;go_wp2_with fail;refine (CT.out).mono ?_;rintro e w3 ⟨rfl,hk3⟩;have HP3:=hI (hh.out.2.2.2.2.same hk3);clear hk3;go_wp2
      go_ret2
      exact cz69
theorem ref_isC (s:ByteArray) (w:World) (hs:s.size≤1000000):Calls Tryz.prog 68 #[.string s] w (BoolPu (isC s) w):=by
 have CP:=ref_parse s w hs;unfold FieldsP at CP;unfold isC;obtain ⟨r,hr⟩:∃ r,parseC s=r:=⟨_,rfl⟩;rw [hr] at CP ⊢;obtain ⟨r,e⟩:=r;simp only at CP ⊢;obtain ⟨b,hb⟩:∃ b,decide (e=0)=b:=⟨_,rfl⟩;have he:(e == 0)=b:=by rw [←hb];by_cases h:e=0 <;> simp [h]
 rw [hb];have CP:=hI CP;clear hr hb;go_enter Tryz.func68,Tryz.ntmps68;go_wp2_with fail;refine (CP.out).mono ?_;rintro e w3 ⟨A3,c3,rfl,ho3,hk3⟩;have HK3:=hI hk3;clear ho3 hk3;go_wp2;go_ret;exact ⟨rfl,HK3.out⟩
end
end Go.Proofs.YtjfpfeapbcjioaaGreat
