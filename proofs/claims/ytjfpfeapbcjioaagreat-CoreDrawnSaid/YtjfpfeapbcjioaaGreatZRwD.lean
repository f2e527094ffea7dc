/-
  The texts of this claim, put together: RwD, RwF, RwG, RwM, RwA, RwB.
-/
import Derived.Deep.QuietTactic
import Derived.BigQuiet
import Derived.Test.YtjfpfeapbcjioaaGreatZRwR
import Derived.Test.YtjfpfeapbcjioaaGreatZRowD
import Derived.Test.YtjfpfeapbcjioaaGreatZLib
import Derived.Test.YtjfpfeapbcjioaaGreatZFree
set_option linter.unusedSimpArgs false
set_option linter.unusedVariables false
set_option maxHeartbeats 12800000
set_option maxRecDepth 100000
namespace Go.Proofs.YtjfpfeapbcjioaaGreat
section
section
variable {α:Type}
def keepP (p:α→Bool) (l:List α):List α:=l.filter (fun a=>!p a)
structure DI (f:α→List Value) (k:Nat) (l:List α) (p:α→Bool) (c i j:Nat) (cur:List Value):Prop where
 size:cur.length=c*k
 front:cur.take (i*k)=(keepP p (l.take j)).flatMap f
 back:∀ q,j*k≤q→q<l.length*k→cur[q]? = (l.flatMap f)[q]?
 len:(keepP p (l.take j)).length=i
variable {f:α→List Value} {k:Nat} {l:List α} {p:α→Bool} {c i j:Nat} {cur:List Value}
theorem DI.skip (h:DI f k l p c i j cur) {y:α} (hy:l[j]? = some y) (hp:p y=true):DI f k l p c i (j+1) cur:=by
 have ht:keepP p (l.take (j+1))=keepP p (l.take j):=by simp [keepP,List.take_add_one,hy,hp]
 exact ⟨h.size,by rw [ht];exact h.front,fun q hq hl=>h.back q (by rw [Nat.succ_mul] at hq;omega) hl,by rw [ht];exact h.len⟩
theorem DI.keep (hf:∀ a,(f a).length=k) (h:DI f k l p c i j cur) {y:α} (hy:l[j]? = some y) (hp:p y=false) (hij:i≤j) (hc:l.length≤c):DI f k l p c (i+1) (j+1) (splice cur (i*k) (f y)):=by
 have hjl:=(List.getElem?_eq_some_iff.1 hy).1;have ht:keepP p (l.take (j+1))=keepP p (l.take j)++[y]:=by simp [keepP,List.take_add_one,hy,hp]
 have h1:(i+1)*k≤c*k:=Nat.mul_le_mul_right _ (by omega)
 have h2:(i+1)*k≤(j+1)*k:=Nat.mul_le_mul_right _ (by omega)
 have h1':=h1;rw [Nat.succ_mul] at h1';have hsz:=h.size;have hpre:(cur.take (i*k)).length=i*k:=by simp;omega
 refine ⟨by rw [length_splice _ _ _ (by rw [hf];omega)];exact hsz,?_,fun q hq hl=>?_,by rw [ht,List.length_append,h.len];rfl⟩
 ·rw [ht,List.flatMap_append,←h.front]
  unfold splice;rw [←List.append_assoc,List.take_append_of_le_length (by rw [List.length_append,hpre,hf,Nat.succ_mul];exact Nat.le_refl _),List.take_of_length_le (by rw [List.length_append,hpre,hf,Nat.succ_mul];exact Nat.le_refl _)]
  simp
 ·have hq2:i*k+k≤q:=by rw [Nat.succ_mul,Nat.succ_mul] at h2;rw [Nat.succ_mul] at hq;omega
  rw [←h.back q (by rw [Nat.succ_mul] at hq;omega) hl]
  unfold splice;rw [←List.append_assoc,List.getElem?_append_right (by rw [List.length_append,hpre,hf];exact hq2),List.length_append,hpre,hf,List.getElem?_drop]
  congr 1
  omega
theorem DI.cell (hf:∀ a,(f a).length=k) (h:DI f k l p c i j cur) {y:α} (hy:l[j]? = some y) (q:Nat) (hq:q<k):cur[j*k+q]? = (f y)[q]?:=by
 have hjl:=(List.getElem?_eq_some_iff.1 hy).1;have h2:(j+1)*k≤l.length*k:=Nat.mul_le_mul_right _ hjl;rw [Nat.succ_mul] at h2;rw [h.back (j*k+q) (by omega) (by omega),fm_get f k hf l j q y hy hq]
theorem DI.start {i0:Nat} (hs:cur.length=c*k) (ht:cur.take (l.length*k)=l.flatMap f) (hf:∀ a,(f a).length=k) {y:α} (hy:l[i0]? = some y) (hp:p y=true) (hb:∀ (j:Nat) (z:α),j<i0→l[j]? = some z→p z=false):DI f k l p c i0 (i0+1) cur:=by
 have hil:=(List.getElem?_eq_some_iff.1 hy).1;have h0:keepP p (l.take i0)=l.take i0:=by
  unfold keepP;rw [List.filter_eq_self];intro a ha;obtain ⟨j,hj⟩:=List.mem_iff_getElem?.1 ha;have hji:j<i0:=by
   have:=(List.getElem?_eq_some_iff.1 hj).1;rw [List.length_take] at this;omega
  rw [List.getElem?_take,if_pos hji] at hj;rw [hb j a hji hj];rfl
 have h1:DI f k l p c i0 i0 cur:=by
  refine ⟨hs,?_,fun q hq hl=>?_,by rw [h0,List.length_take];omega⟩
  ·rw [h0]
   have hle:i0*k≤l.length*k:=Nat.mul_le_mul_right _ (by omega)
   have:cur.take (i0*k)=(cur.take (l.length*k)).take (i0*k):=by rw [List.take_take,Nat.min_eq_left hle]
   rw [this,ht]
   conv=>lhs;rw [show l=l.take i0++l.drop i0 from (List.take_append_drop _ _).symm,List.flatMap_append]
   rw [List.take_append_of_le_length (by rw [fm_length f k hf,List.length_take,Nat.min_eq_left (by omega)];exact Nat.le_refl _),List.take_of_length_le (by rw [fm_length f k hf,List.length_take,Nat.min_eq_left (by omega)];exact Nat.le_refl _)]
  ·rw [←ht,List.getElem?_take,if_pos hl]
 exact h1.skip hy hp
theorem keep_none (hb:∀ (j:Nat) (z:α),l[j]? = some z→p z=false):keepP p l=l:=by
 unfold keepP;rw [List.filter_eq_self];intro a ha;obtain ⟨j,hj⟩:=List.mem_iff_getElem?.1 ha;rw [hb j a hj];rfl
theorem idx_cases (p:α→Bool) (l:List α):(idx p l = -1∧keepP p l=l)∨∃ (i:Nat) (y:α),idx p l=(i:Nat)∧i<l.length∧l[i]? = some y∧p y=true∧∀ (j:Nat) (z:α),j<i→l[j]? = some z→p z=false:=by
 unfold idx;cases h:l.findIdx? p with
 | none =>
  rw [List.findIdx?_eq_none_iff] at h;exact .inl ⟨rfl,keep_none (fun j z hz=>by simpa using h z (List.mem_of_getElem? hz))⟩
 | some i =>
  rw [List.findIdx?_eq_some_iff_getElem] at h;obtain ⟨h1,h2,h3⟩:=h;refine .inr ⟨i,l[i],rfl,h1,List.getElem?_eq_getElem h1,h2,fun j z hj hz=>?_⟩;have:=h3 j hj;rw [List.getElem?_eq_getElem (by omega)] at hz
  injection hz with hz
  rw [←hz];simpa using this
end
theorem lessI_keep (l:List Int) (x:Int):lessI l x=keepP (fun a=>decide (a=x)) l:=by
 unfold lessI keepP;congr 1;funext a;by_cases h:a=x <;> simp [h]
theorem lessQ_keep (l:List (Int×Bool)) (x:Int):lessQ l x=keepP (fun a=>decide (a.1=x)) l:=by
 unfold lessQ keepP;congr 1;funext a;by_cases h:a.1=x <;> simp [h]
theorem ics_flat (l:List Int):ics l=l.flatMap fun a=>[Value.int .i64 a]:=by
 unfold ics
 induction l with
 | nil=>rfl
 | cons a l ih=>rw [List.map_cons,List.flatMap_cons,ih];rfl
end
section
open Go.RowKit
theorem info_di:(Tryz.prog.info? 3).map (fun i=>(i.zero,i.size,i.bytes))=some (some (.int .i64 0),1,8):=by kernel_rfl
theorem lq_delf (l:List (Int×Bool)) (x:Int) (A:Option Addr) (n c:Nat) (bx:Nat) (w:World) (F:Nat→Prop) (ho:Own w F 199 2 (.slice A n c) n (qcs l)) (hn:n≤1000000) (hb:w.cell? ⟨bx,0,none⟩=some (.int .i64 x)) (hbl:bx<w.heap.size) (hbF:¬F bx) :
  Calls Tryz.prog 150 #[.slice A n c,.func (.func 151) #[] #[.pointer (some ⟨bx,0,none⟩)]] w (DelP 199 2 F (lessQ l x).length (qcs (lessQ l x)) w):=by
 have hl:=slq_len ho.sl;have C:=hI (lq_index l x A n c bx w F ho.sl hn hb hbl);rw [lessQ_keep];rcases idx_cases (fun a:Int×Bool=>decide (a.1=x)) l with ⟨h1,h2⟩|⟨i0,y0,h1,hil,hy,hpy,hbe⟩
 ·rw [h1] at C
  rw [h2,hl];have Ho:=hI ho;clear ho h1 h2 hl;go_enter Tryz.func150,Tryz.ntmps150;go_wp2_with fail;refine (C.out).mono ?_;rintro e w1 ⟨rfl,hk1⟩;go_wp2;go_ret;exact ⟨A,c,rfl,(Ho.out.kept hk1 (fun _ _ _ h=>h)).imp (fun _ _ h=>.inl h),hk1.mono (fun _ _ h=>h.elim)⟩
 ·rw [h1] at C
  obtain ⟨g,cur,rfl,hFg,hg,hnc,hcm,hcs,hct⟩:=own_row ho (by omega)
  have hst:=DI.start (f:=fun a:Int×Bool=>[.int .i64 a.1,.bool a.2]) (k:=2) (p:=fun a=>decide (a.1=x)) (c:=c) (cur:=cur.toList) (by simpa using hcs) (by rw [hl];exact hct) (fun _=>rfl) hy hpy hbe
  have hbg:¬bx=g:=fun e=>hbF (by rw [e];exact hFg)
  have Hst:=hI hst;have Hg:=hI hg;have Hl:=hI hl;have Hb:=hI hb;have Hcm:=hI hcm;have hin:i0<n:=by omega
  clear ho h1 hst hg hy hpy hbe hct hcs hl hb hcm hil;go_enter Tryz.func150,Tryz.ntmps150;go_wp2_with fail;refine (C.out).mono ?_;rintro e w1 ⟨rfl,hk1⟩;have Hk1:=hI hk1;go_wp2
  go_loopw [5,6] (fun si sj wr=>∃ i j:Nat,si = .int .i64 i∧sj = .int .i64 j∧i<j∧j≤n∧Hid (∃ cur,Blk wr g 199 cur∧DI (fun a:Int×Bool=>[.int .i64 a.1,.bool a.2]) 2 l (fun a=>decide (a.1=x)) c i j cur.toList)∧Hid (Kept (· = g) w wr)) (fun _ sj _=>n-(intOf sj).toNat)
  case atStart=>exact ⟨i0,i0+1,rfl,rfl,by omega,by omega,⟨cur,Hg.out.kept Hk1.out (fun h=>h),Hst.out⟩,Hk1.out.mono (fun _ _ h=>h.elim)⟩
  case round =>
   obtain ⟨i,j,rfl,rfl,hij,hjn,hcu,hkr⟩:=hrel;obtain ⟨cu,hgr,hd⟩:=hcu.out
   by_cases hlt:j<n
   ·obtain ⟨y,hy⟩:∃ y,l[j]? = some y:=⟨_,List.getElem?_eq_getElem (by have:=Hl.out;omega)⟩
    have hc1:wr.cell? ⟨g,j*2,none⟩=some (.int .i64 y.1):=by
     rw [hgr.cell,←Array.getElem?_toList];exact hd.cell (k:=2) (fun _=>rfl) hy 0 (by decide)
    have hc2:wr.cell? ⟨g,j*2+1,none⟩=some (.bool y.2):=by
     rw [hgr.cell,←Array.getElem?_toList];exact hd.cell (k:=2) (fun _=>rfl) hy 1 (by decide)
    have hji:(j:Int)<(n:Int):=by omega
    have Hgr:=hI hgr;have Hd:=hI hd;have Hy:=hI hy;have hgr0:=hgr;clear hcu hgr hd hy;have hka:Pure wr (wr.alloc (.cells #[.int .i64 y.1,.bool y.2] 199)):=(Kept.refl _ _).alloc _;have hva:=Blk.new wr 199 #[.int .i64 y.1,.bool y.2];have hbx:(wr.alloc (.cells #[.int .i64 y.1,.bool y.2] 199)).cell? ⟨bx,0,none⟩=some (.int .i64 x) :=
     (World.cell?_of_block (a:=⟨bx,0,none⟩) ((hkr.out.same (hka.mono (fun _ _ h=>h.elim))).block bx hbl (fun h=>hbg h))).trans Hb.out
    have C2:=hI (lq_key x y bx _ hbx (Nat.lt_of_lt_of_le hbl (Nat.le_trans hkr.out.size hka.size)));have Hka:=hI hka;have Hva:=hI hva;have hwsz:=hgr0.lt;clear hka hva hbx;cases hpy:(fun a:Int×Bool=>decide (a.1=x)) y with
    | true =>
     have Hpy:=hI hpy;simp only at hpy;rw [hpy] at C2;clear hpy;go_wp2_with fail;refine (C2.out).mono ?_;rintro e w2 ⟨rfl,hk2⟩;go_wp2;refine ⟨?_,?measure⟩
     repeat apply Exists.intro
     refine ⟨?rel,?eqs⟩
     case eqs=>rfl
     case measure=>simp [intOf];omega
     case rel=>exact ⟨i,j+1,rfl,by first|rfl|go_num,by omega,by omega,⟨cu,(Hgr.out.kept Hka.out (fun h=>h)).kept hk2 (fun h=>h),Hd.out.skip Hy.out Hpy.out⟩,(hkr.out.same (Hka.out.mono (fun _ _ h=>h.elim))).same (hk2.mono (fun _ _ h=>h.elim))⟩
    | false =>
     have Hpy:=hI hpy;simp only at hpy;rw [hpy] at C2;clear hpy;have hin2:(i:Int)<(n:Int):=by omega
     go_wp2_with fail
     refine (C2.out).mono ?_;rintro e w2 ⟨rfl,hk2⟩;have hg2:=(Hgr.out.kept Hka.out (fun h=>h)).kept hk2 (fun h=>h);have hv2:=Hva.out.kept hk2 (fun h=>h);have hvc:=hv2.cell;go_wp2_with (with_reducible refine stop_store (ty:=199) ?_);refine unheld ?_;have hfit:i*2+2≤cu.size:=by have:=Hd.out.size;simp at this;omega
     refine wp_store_at (vs:=[.int .i64 y.1,.bool y.2]) rfl _ _ _ rfl rfl rfl rfl hg2 hfit (by kernel_rfl) (fun u hu=>by simp at hu;rcases hu with rfl|rfl <;> rfl) rfl ?_
     intro w3 hg3 hk3;have hd2:=Hd.out.keep (k:=2) (fun _=>rfl) Hy.out Hpy.out (Nat.le_of_lt hij) (by have:=Hl.out;omega)
     have Hd2:=hI hd2;have Hg3:=hI hg3;clear hd2 hg3;have hi1:0≤(i:Int)+1∧(i:Int)+1≤2000000:=by omega
     have hj1:0≤(j:Int)+1∧(j:Int)+1≤2000000:=by omega
     go_wp2;refine ⟨?_,?measure⟩
     repeat apply Exists.intro
     refine ⟨?rel,?eqs⟩
     case eqs=>rfl
     case measure=>simp [intOf];omega
     case rel=>exact ⟨i+1,j+1,by first|rfl|go_num,by first|rfl|go_num,by omega,by omega,⟨_,Hg3.out,by simpa using Hd2.out⟩,((hkr.out.same (Hka.out.mono (fun _ _ h=>h.elim))).same (hk2.mono (fun _ _ h=>h.elim))).same hk3⟩
   ·obtain rfl:j=n:=by omega
    have hz2:(Value.agg #[.int .i64 0,.bool false]:Value).cells.size=2:=by kernel_rfl
    have hcs:cu.size=c*2:=by simpa using hd.size
    obtain ⟨cur3,hcur3⟩:∃ cur3,cu.toList.take (i*2)++(Builtin.zeroCells (Value.agg #[.int .i64 0,.bool false]:Value).cells (j-i)).toList++cu.toList.drop (i*2+(j-i)*2)=cur3:=⟨_,rfl⟩;have hs3:cur3.length=c*2:=by
     rw [←hcur3];simp only [List.length_append,List.length_take,List.length_drop,Array.length_toList,size_zeroCells,hz2,hcs];omega
    have hclr:∀ ty cc,(Builtin.clear_ #[195] ty #[.slice (some ⟨g,i*2,none⟩) (j-i) cc]).run Tryz.prog wr = .ok (.tuple #[]) (wr.setRow g cur3.toArray):=fun ty cc=>by
     have:=run_clearK (P:=Tryz.prog) wr 195 199 ty (.agg #[.int .i64 0,.bool false]) 2 Tryz.underlying195 (fun w=>Tryz.zeroValue199 w) hz2 (by simp [Value.cells,Value.oneCell']) g (i*2) (j-i) cc cu 199 hgr (by rw [hcs];omega)
     rw [this];simp only [hcur3]
    have hlen:=hd.len;rw [List.take_of_length_le (by have:=Hl.out;omega)] at hlen
    have hfin:cur3.take (i*2)=qcs (keepP (fun a=>decide (a.1=x)) l):=by
     rw [←hcur3,List.append_assoc,List.take_append_of_le_length (by simp [hcs];omega),List.take_take,Nat.min_self,hd.front,List.take_of_length_le (by have:=Hl.out;omega)]
     rfl
    have hB3:Blk (wr.setRow g cur3.toArray) g 199 cur3.toArray:=setRow_heap wr g cu _ 199 (0,0) hgr;have hkF:Kept F w (wr.setRow g cur3.toArray):=(hkr.out.same (setRow_kept wr g cur3.toArray)).mono (fun j _ h=>by have h2:j=g:=h;rw [h2];exact hFg)
    have Hend:Hid (DelP 199 2 F (keepP (fun a=>decide (a.1=x)) l).length (qcs (keepP (fun a=>decide (a.1=x)) l)) w (.returned (.slice (some ⟨g,0,none⟩) i c)) (wr.setRow g cur3.toArray)):=by
     refine ⟨some ⟨g,0,none⟩,c,by rw [hlen],?_,hkF⟩
     refine ⟨⟨by rw [qcs_length],.inr ⟨g,c,cur3.toArray,rfl,Nat.zero_le _,hB3,by omega,Hcm.out,by rw [←hs3];simp,by rw [hlen];simpa using hfin⟩⟩,fun b hb=>?_⟩
     simp [Value.ownBlock] at hb;subst hb;exact .inl hFg
    clear hcu hd hcs hcur3 hs3 hlen hfin hB3 hkF;have hclr:=hI hclr;have q1:i≤c:=by omega
    have q4:¬c=i:=by omega
    have q5:(i:Int)≤(j:Int)∧(j:Int)≤(c:Int):=by omega
    go_wp2;go_ret;exact Hend.out
theorem li_delf (l:List Int) (x:Int) (A:Option Addr) (n c:Nat) (bx:Nat) (w:World) (F:Nat→Prop) (ho:Own w F 3 1 (.slice A n c) n (ics l)) (hn:n≤1000000) (hb:w.cell? ⟨bx,0,none⟩=some (.int .i64 x)) (hbl:bx<w.heap.size) (hbF:¬F bx) :
  Calls Tryz.prog 148 #[.slice A n c,.func (.func 149) #[] #[.pointer (some ⟨bx,0,none⟩)]] w (DelP 3 1 F (lessI l x).length (ics (lessI l x)) w):=by
 have hl:=sli_len ho.sl;have C:=hI (li_index l x A n c bx w F ho.sl hn hb hbl);rw [lessI_keep];rcases idx_cases (fun a:Int=>decide (a=x)) l with ⟨h1,h2⟩|⟨i0,y0,h1,hil,hy,hpy,hbe⟩
 ·rw [h1] at C
  rw [h2,hl];have Ho:=hI ho;clear ho h1 h2 hl;go_enter Tryz.func148,Tryz.ntmps148;go_wp2_with fail;refine (C.out).mono ?_;rintro e w1 ⟨rfl,hk1⟩;go_wp2;go_ret;exact ⟨A,c,rfl,(Ho.out.kept hk1 (fun _ _ _ h=>h)).imp (fun _ _ h=>.inl h),hk1.mono (fun _ _ h=>h.elim)⟩
 ·rw [h1] at C
  obtain ⟨g,cur,rfl,hFg,hg,hnc,hcm,hcs,hct⟩:=own_row ho (by omega)
  have hst:=DI.start (f:=fun a:Int=>[.int .i64 a]) (k:=1) (p:=fun a=>decide (a=x)) (c:=c) (cur:=cur.toList) (by simpa using hcs) (by rw [hl,←ics_flat];exact hct) (fun _=>rfl) hy hpy hbe
  have hbg:¬bx=g:=fun e=>hbF (by rw [e];exact hFg)
  have Hst:=hI hst;have Hg:=hI hg;have Hl:=hI hl;have Hb:=hI hb;have Hcm:=hI hcm;have hin:i0<n:=by omega
  clear ho h1 hst hg hy hpy hbe hct hcs hl hb hcm hil;go_enter Tryz.func148,Tryz.ntmps148;go_wp2_with fail;refine (C.out).mono ?_;rintro e w1 ⟨rfl,hk1⟩;have Hk1:=hI hk1;go_wp2
  go_loopw [5,6] (fun si sj wr=>∃ i j:Nat,si = .int .i64 i∧sj = .int .i64 j∧i<j∧j≤n∧Hid (∃ cur,Blk wr g 3 cur∧DI (fun a:Int=>[.int .i64 a]) 1 l (fun a=>decide (a=x)) c i j cur.toList)∧Hid (Kept (· = g) w wr)) (fun _ sj _=>n-(intOf sj).toNat)
  case atStart=>exact ⟨i0,i0+1,rfl,rfl,by omega,by omega,⟨cur,Hg.out.kept Hk1.out (fun h=>h),Hst.out⟩,Hk1.out.mono (fun _ _ h=>h.elim)⟩
  case round =>
   obtain ⟨i,j,rfl,rfl,hij,hjn,hcu,hkr⟩:=hrel;obtain ⟨cu,hgr,hd⟩:=hcu.out
   by_cases hlt:j<n
   ·obtain ⟨y,hy⟩:∃ y,l[j]? = some y:=⟨_,List.getElem?_eq_getElem (by have:=Hl.out;omega)⟩
    have hc1:wr.cell? ⟨g,j,none⟩=some (.int .i64 y):=by
     rw [hgr.cell,←Array.getElem?_toList];simpa using hd.cell (k:=1) (fun _=>rfl) hy 0 (by decide)
    have hji:(j:Int)<(n:Int):=by omega
    have Hgr:=hI hgr;have Hd:=hI hd;have Hy:=hI hy;have hgr0:=hgr;clear hcu hgr hd hy;have hbx:wr.cell? ⟨bx,0,none⟩=some (.int .i64 x):=(World.cell?_of_block (a:=⟨bx,0,none⟩) (hkr.out.block bx hbl (fun h=>hbg h))).trans Hb.out;have C2:=hI (li_key x y bx _ hbx (Nat.lt_of_lt_of_le hbl hkr.out.size));clear hbx;cases hpy:(fun a:Int=>decide (a=x)) y with
    | true =>
     have Hpy:=hI hpy;simp only at hpy;rw [hpy] at C2;clear hpy;go_wp2_with fail;refine (C2.out).mono ?_;rintro e w2 ⟨rfl,hk2⟩;go_wp2;refine ⟨?_,?measure⟩
     repeat apply Exists.intro
     refine ⟨?rel,?eqs⟩
     case eqs=>rfl
     case measure=>simp [intOf];omega
     case rel=>exact ⟨i,j+1,rfl,by first|rfl|go_num,by omega,by omega,⟨cu,Hgr.out.kept hk2 (fun h=>h),Hd.out.skip Hy.out Hpy.out⟩,hkr.out.same (hk2.mono (fun _ _ h=>h.elim))⟩
    | false =>
     have Hpy:=hI hpy;simp only at hpy;rw [hpy] at C2;clear hpy;have hin2:(i:Int)<(n:Int):=by omega
     go_wp2_with fail
     refine (C2.out).mono ?_;rintro e w2 ⟨rfl,hk2⟩;have hg2:=Hgr.out.kept hk2 (fun h=>h);go_wp2_with (with_reducible refine stop_store (ty:=3) ?_);refine unheld ?_;have hfit:i+1≤cu.size:=by have:=Hd.out.size;simp at this;omega
     refine wp_store_at (vs:=[.int .i64 y]) rfl _ _ _ rfl rfl rfl rfl hg2 hfit (by kernel_rfl) (fun u hu=>by simp at hu;subst hu;rfl) rfl ?_
     intro w3 hg3 hk3;have hd2:=Hd.out.keep (k:=1) (fun _=>rfl) Hy.out Hpy.out (Nat.le_of_lt hij) (by have:=Hl.out;omega)
     have Hd2:=hI hd2;have Hg3:=hI hg3;clear hd2 hg3;have hi1:0≤(i:Int)+1∧(i:Int)+1≤2000000:=by omega
     have hj1:0≤(j:Int)+1∧(j:Int)+1≤2000000:=by omega
     go_wp2;refine ⟨?_,?measure⟩
     repeat apply Exists.intro
     refine ⟨?rel,?eqs⟩
     case eqs=>rfl
     case measure=>simp [intOf];omega
     case rel=>exact ⟨i+1,j+1,by first|rfl|go_num,by first|rfl|go_num,by omega,by omega,⟨_,Hg3.out,by simpa using Hd2.out⟩,(hkr.out.same (hk2.mono (fun _ _ h=>h.elim))).same hk3⟩
   ·obtain rfl:j=n:=by omega
    have hz2:(Value.int .i64 0:Value).cells.size=1:=by kernel_rfl
    have hcs:cu.size=c*1:=by simpa using hd.size
    obtain ⟨cur3,hcur3⟩:∃ cur3,cu.toList.take (i*1)++(Builtin.zeroCells (Value.int .i64 0:Value).cells (j-i)).toList++cu.toList.drop (i*1+(j-i)*1)=cur3:=⟨_,rfl⟩;have hs3:cur3.length=c*1:=by
     rw [←hcur3];simp only [List.length_append,List.length_take,List.length_drop,Array.length_toList,size_zeroCells,hz2,hcs];omega
    have hclr:∀ ty cc,(Builtin.clear_ #[84] ty #[.slice (some ⟨g,i,none⟩) (j-i) cc]).run Tryz.prog wr = .ok (.tuple #[]) (wr.setRow g cur3.toArray):=fun ty cc=>by
     have:=run_clearK (P:=Tryz.prog) wr 84 3 ty (.int .i64 0) 1 Tryz.underlying84 (fun w=>Tryz.zeroValue3 w) hz2 (by simp [Value.cells,Value.oneCell']) g i (j-i) cc cu 3 hgr (by rw [hcs];omega)
     rw [this,←hcur3,Nat.mul_one,Nat.mul_one]
    have hlen:=hd.len;rw [List.take_of_length_le (by have:=Hl.out;omega)] at hlen
    have hfin:cur3.take (i*1)=ics (keepP (fun a=>decide (a=x)) l):=by
     rw [←hcur3,List.append_assoc,List.take_append_of_le_length (by simp [hcs];omega),List.take_take,Nat.min_self,hd.front,List.take_of_length_le (by have:=Hl.out;omega),ics_flat]
    have hB3:Blk (wr.setRow g cur3.toArray) g 3 cur3.toArray:=setRow_heap wr g cu _ 3 (0,0) hgr;have hkF:Kept F w (wr.setRow g cur3.toArray):=(hkr.out.same (setRow_kept wr g cur3.toArray)).mono (fun j _ h=>by have h2:j=g:=h;rw [h2];exact hFg)
    have Hend:Hid (DelP 3 1 F (keepP (fun a=>decide (a=x)) l).length (ics (keepP (fun a=>decide (a=x)) l)) w (.returned (.slice (some ⟨g,0,none⟩) i c)) (wr.setRow g cur3.toArray)):=by
     refine ⟨some ⟨g,0,none⟩,c,by rw [hlen],?_,hkF⟩
     refine ⟨⟨by rw [ics_length,Nat.mul_one],.inr ⟨g,c,cur3.toArray,rfl,Nat.zero_le _,hB3,by omega,Hcm.out,by rw [←hs3];simp,by rw [hlen];simpa using hfin⟩⟩,fun b hb=>?_⟩
     simp [Value.ownBlock] at hb;subst hb;exact .inl hFg
    clear hcu hd hcs hcur3 hs3 hlen hfin hB3 hkF;have hclr:=hI hclr;have q1:i≤c:=by omega
    have q4:¬c=i:=by omega
    have q5:(i:Int)≤(j:Int)∧(j:Int)≤(c:Int):=by omega
    go_wp2;go_ret;exact Hend.out
end
section
open Go.RowKit
theorem info_q:(Tryz.prog.info? 199).map (fun i=>(i.zero,i.size,i.bytes))=some (some (.agg #[.int .i64 0,.bool false]),2,16):=by kernel_rfl
theorem q_del (xs:List Value) (h1:∀ u∈xs,u.oneCell'=true) (A:Option Addr) (n c i j:Nat) (w:World) (F:Nat→Prop) (ho:Own w F 199 2 (.slice A n c) n xs) (hn:n≤1000000) (hij:i≤j) (hj:j≤n) :
  Calls Tryz.prog 187 #[.slice A n c,.int .i64 i,.int .i64 j] w (DelP 199 2 F (n-(j-i)) (xs.take (i*2)++xs.drop (j*2)) w):=by
 have hxl:xs.length=n*2:=ho.1.1
 by_cases hlt:i<j
 ·obtain ⟨g,cur,rfl,hFg,hg,hnc,hcm,hcs,hct⟩:=own_row ho (by omega)
  have hcm':=hcm;unfold maxLen at hcm';obtain ⟨i0,hi0,hz0,hsz0,hby0⟩:=info_parts info_q;have hcc:∀ q v,xs[q]? = some v→w.cell? ⟨g,q,none⟩=some v:=fun q v hq=>by
   have h:=(List.getElem?_eq_some_iff.1 hq).1;rw [hg.cell,←hq,←hct,List.getElem?_take,if_pos (by omega),Array.getElem?_toList]
  have hld:(loadCellsFrom ⟨g,j*2,none⟩ 0 ((n-j)*2) #[]).run Tryz.prog w.drew = .ok (xs.drop (j*2)).toArray w.drew:=by
   have:=run_loadCells_list (P:=Tryz.prog) w.drew ⟨g,j*2,none⟩ (xs.drop (j*2)) (fun q u hq=>by
    rw [Addr.add_lit];rw [List.getElem?_drop] at hq;exact hcc (j*2+q) u hq)
   rw [show (xs.drop (j*2)).length=(n-j)*2 from by rw [List.length_drop,hxl];omega] at this
   exact this
  have hst:(storeCells ⟨g,i*2,none⟩ (xs.drop (j*2))).run Tryz.prog w.drew = .ok () (w.drew.setRow g (splice cur.toList (i*2) (xs.drop (j*2))).toArray):=by
   have:=run_storeCells_at Tryz.prog g (i*2) 199 (xs.drop (j*2)) 0 cur w.drew hg (by rw [List.length_drop,hxl,hcs];omega) (fun u hu=>h1 u (List.mem_of_mem_drop hu))
   rw [this];simp [splice]
  have hap0:∀ ty ad cc,j=n→(Builtin.append_ #[195,195] ty #[.slice (some ⟨g,0,none⟩) i c,.slice ad 0 cc]).run Tryz.prog w.drew =
    .ok (.slice (some ⟨g,0,none⟩) i c) w.drew:=fun ty ad cc _=>by
   cases ad with
   | none=>simp [Builtin.append_,run_underlying Tryz.underlying195,sizeOf,typeInfo,hi0,Builtin.lenOf,Builtin.firstCells,show i≤c by omega,storeCells]
   | some ad =>
    have:=run_append_room (P:=Tryz.prog) w.drew 195 ty 199 i0 Tryz.underlying195 hi0 g i c cur hg ad 0 cc [] (by simp) (by simp) (by simp) (by omega) (by rw [hsz0,hcs];simp;omega)
    rw [this,hsz0,Nat.add_zero];have hself:(cur.toList.take (i*2)++[]++cur.toList.drop (i*2+([]:List Value).length)).toArray=cur:=by simp
    rw [hself,setRow_self w.drew g cur 199 (0,0) hg]
  obtain ⟨cur2,hcur2⟩:∃ cur2,splice cur.toList (i*2) (xs.drop (j*2))=cur2:=⟨_,rfl⟩;have hs2:cur2.length=c*2:=by rw [←hcur2,length_splice _ _ _ (by rw [List.length_drop,hxl];simp [hcs];omega)];simpa using hcs
  have hself:j=n→w.drew.setRow g cur2.toArray=w.drew:=fun he=>by
   have:cur2.toArray=cur:=by
    rw [←hcur2];unfold splice;rw [List.drop_eq_nil_of_le (by rw [hxl,he];exact Nat.le_refl _)]
    simp
   rw [this,setRow_self w.drew g cur 199 (0,0) hg]
  have ht2:cur2.take ((n-(j-i))*2)=xs.take (i*2)++xs.drop (j*2):=by
   rw [←hcur2];unfold splice;rw [←List.append_assoc,List.take_append_of_le_length (by simp [hxl,hcs];omega),List.take_of_length_le (by simp [hxl,hcs];omega),←hct,List.take_take,Nat.min_eq_left (by omega)]
  rw [hcur2] at hst;obtain ⟨W2,hW2⟩:∃ W2,w.drew.setRow g cur2.toArray=W2:=⟨_,rfl⟩;have hB2:Blk W2 g 199 cur2.toArray:=by rw [←hW2];exact setRow_heap w.drew g cur _ 199 (0,0) hg
  have hk2:Kept (· = g) w W2:=by rw [←hW2];exact (Kept.refl _ w).drew.same (setRow_kept w.drew g cur2.toArray)
  rw [hW2] at hst hself;obtain ⟨m,hm⟩:∃ m,n-(j-i)=m:=⟨_,rfl⟩;have hm1:i+(n-j)=m:=by omega
  have hmn:m<n:=by omega
  rw [hm] at ht2 ⊢;obtain ⟨cur3,hcur3⟩:∃ cur3,cur2.take (m*2)++(Builtin.zeroCells ((.agg #[.int .i64 0,.bool false]):Value).cells (n-m)).toList++cur2.drop (m*2+(n-m)*2)=cur3:=⟨_,rfl⟩;have hz5:((.agg #[.int .i64 0,.bool false]):Value).cells.size=2:=by kernel_rfl
  have hs3:cur3.length=c*2:=by
   rw [←hcur3];simp only [List.length_append,List.length_take,List.length_drop,Array.length_toList,size_zeroCells,hz5,hs2];omega
  have hclr:∀ ty cc,(Builtin.clear_ #[195] ty #[.slice (some ⟨g,m*2,none⟩) (n-m) cc]).run Tryz.prog W2 = .ok (.tuple #[]) (W2.setRow g cur3.toArray):=fun ty cc=>by
   have:=run_clearK (P:=Tryz.prog) W2 195 199 ty (.agg #[.int .i64 0,.bool false]) 2 Tryz.underlying195 (fun w=>Tryz.zeroValue199 w) hz5 (by simp [Value.cells,Value.oneCell']) g (m*2) (n-m) cc cur2.toArray 199 hB2 (by rw [List.size_toArray,hs2];omega)
   rw [this];simp only [hcur3]
  have hfin:cur3.take (m*2)=xs.take (i*2)++xs.drop (j*2):=by
   rw [←hcur3,List.append_assoc,List.take_append_of_le_length (by simp [hs2];omega),List.take_take,Nat.min_self,ht2]
  have hlen:(xs.take (i*2)++xs.drop (j*2)).length=m*2:=by simp [hxl];omega
  have hB3:Blk (W2.setRow g cur3.toArray) g 199 cur3.toArray:=setRow_heap W2 g cur2.toArray _ 199 (0,0) hB2;have hkF:Kept F w (W2.setRow g cur3.toArray):=(hk2.same (setRow_kept W2 g cur3.toArray)).mono (fun j _ h=>by have h2:j=g:=h;rw [h2];exact hFg)
  have HB3:=hI hB3;have HkF:=hI hkF;have Hfin:=hI hfin;have Hlen:=hI hlen;have Hs3:=hI hs3;have Hcm:=hI hcm;have Hst:=hI hst;have Hld:=hI hld;have Hap0:=hI hap0;have Hclr:=hI hclr;have Hself:=hI hself;clear hcc hst hld hap0 hclr hB3 hB2 hk2 hkF hfin ht2 hlen hs3 hs2 hcur2 hcur3 hW2 hself hct hcs ho h1 hxl hcm hi0 hz0 hsz0 hby0 hz5;have q1:¬((i:Int)=(j:Int)):=by omega
  have q2:(i:Int)≤(j:Int)∧(j:Int)≤(n:Int)∧(n:Int)≤(c:Int):=by omega
  have q3:i≤c∧j≤c∧m≤c:=by omega
  have q4:¬c=i:=by omega
  have q5:¬c=m:=by omega
  have q6:¬((i:Int)<0)∧¬((j:Int)<0):=by omega
  by_cases hjn:j=n
  ·obtain rfl:m=i:=by omega
   have hself:=Hself.out hjn;subst hjn;have hap0:∀ ty ad cc,(Builtin.append_ #[195,195] ty #[.slice (some ⟨g,0,none⟩) m c,.slice ad 0 cc]).run Tryz.prog w.drew = .ok (.slice (some ⟨g,0,none⟩) m c) w.drew:=fun ty ad cc=>Hap0.out ty ad cc rfl;have Hap0:=hI hap0;have hclr:=Hclr.out;rw [hself] at hclr HB3 HkF;have Hclr:=hI hclr;clear hap0 hclr hself
   by_cases hcj:c=j
   ·subst hcj
    go_enter Tryz.func187,Tryz.ntmps187
    go_wp2;have hap0:=Hap0.out
    go_region
    clear hap0;have hclr:=Hclr.out;go_wp2_with (simp only [hclr]);go_ret;refine ⟨some ⟨g,0,none⟩,c,rfl,?_,HkF.out⟩;refine ⟨⟨by rw [Hlen.out],.inr ⟨g,c,cur3.toArray,rfl,Nat.zero_le _,HB3.out,by omega,Hcm.out,by rw [←Hs3.out];simp,by simpa using Hfin.out⟩⟩,fun b hb=>?_⟩
    simp [Value.ownBlock] at hb;subst hb;exact .inl hFg
   ·go_enter Tryz.func187,Tryz.ntmps187
    go_wp2;have hap0:=Hap0.out
    go_region
    clear hap0;have hclr:=Hclr.out;go_wp2_with (simp only [hclr]);go_ret;refine ⟨some ⟨g,0,none⟩,c,rfl,?_,HkF.out⟩;refine ⟨⟨by rw [Hlen.out],.inr ⟨g,c,cur3.toArray,rfl,Nat.zero_le _,HB3.out,by omega,Hcm.out,by rw [←Hs3.out];simp,by simpa using Hfin.out⟩⟩,fun b hb=>?_⟩
    simp [Value.ownBlock] at hb;subst hb;exact .inl hFg
  ·have hjl:j<n:=by omega
   have q7:¬c=j:=by omega
   have q8:i+(n-j)≤c:=by omega
   go_enter Tryz.func187,Tryz.ntmps187
   go_wp2;have hst:=Hst.out;have hld:=Hld.out
   go_region
   clear hst hld;have hclr:=Hclr.out;go_wp2_with (simp only [hclr]);go_ret;refine ⟨some ⟨g,0,none⟩,c,rfl,?_,HkF.out⟩;refine ⟨⟨by rw [Hlen.out],.inr ⟨g,c,cur3.toArray,rfl,Nat.zero_le _,HB3.out,by omega,Hcm.out,by rw [←Hs3.out];simp,by simpa using Hfin.out⟩⟩,fun b hb=>?_⟩
   simp [Value.ownBlock] at hb;subst hb;exact .inl hFg
 ·obtain rfl:i=j:=by omega
  obtain ⟨A',c',hAc,hnc,hcm,_,_⟩:=ho.form;obtain ⟨rfl,rfl⟩:A=A'∧c=c':=by injection hAc with h1 _ h2;exact ⟨h1,h2⟩
  unfold maxLen at hcm;have Ho:=hI ho;have q1:(i:Int)≤(n:Int)∧(n:Int)≤(c:Int):=by omega
  have q3:i≤c:=by omega
  have q6:¬((i:Int)<0):=by omega
  have hcs:(A=none∧n=0∧c=0)∨(∃ g,A=some ⟨g,0,none⟩):=by
   rcases ho.1.2 with ⟨h1,h2⟩|⟨g,cap,cur,h1,_⟩
   ·injection h1 with h1 h3 h4;exact .inl ⟨h1,h3,h4⟩
   ·injection h1 with h1 _ _;exact .inr ⟨g,h1⟩
  have hx:xs.take (i*2)++xs.drop (i*2)=xs:=List.take_append_drop _ _;have hfin:DelP 199 2 F n xs w (.returned (.slice A n c)) w:=⟨A,c,rfl,ho.imp (fun _ _ h=>.inl h),Kept.refl _ _⟩;rw [hx,Nat.sub_self,Nat.sub_zero];clear hAc ho hx hxl h1;rcases hcs with ⟨rfl,rfl,rfl⟩|⟨g,rfl⟩
  ·obtain rfl:i=0:=by omega
   have Hfin:=hI hfin;clear hfin;go_enter Tryz.func187,Tryz.ntmps187;go_wp2;go_ret;exact Hfin.out
  ·by_cases hci:c=i
   ·obtain rfl:n=i:=by omega
    subst hci;have Hfin:=hI hfin;clear hfin;go_enter Tryz.func187,Tryz.ntmps187;go_wp2;go_ret;exact Hfin.out
   ·by_cases hni:n=i
    ·subst hni
     have Hfin:=hI hfin;clear hfin;go_enter Tryz.func187,Tryz.ntmps187;go_wp2;go_ret;exact Hfin.out
    ·have Hfin:=hI hfin
     clear hfin;go_enter Tryz.func187,Tryz.ntmps187;go_wp2;go_ret;exact Hfin.out
end
section
open Go.RowKit
theorem own_apart {w:World} {F G:Nat→Prop} {T1 T2:TypeId} {k1 k2 n1 n2 b:Nat} {v1 v2:Value} {x1 x2:List Value} (h1:Own w F T1 k1 v1 n1 x1) (h2:Own w G T2 k2 v2 n2 x2) (hne:T1≠T2) (e1:v1.ownBlock=some b):¬v2.ownBlock=some b:=by
 intro e2;rcases h1.1.2 with ⟨rfl,_⟩|⟨g,cap,cur,rfl,_,hg,_⟩
 ·cases e1
 ·rcases h2.1.2 with ⟨rfl,_⟩|⟨g',cap',cur',rfl,_,hg',_⟩
  ·cases e2
  ·simp [Value.ownBlock] at e1 e2
   subst e1 e2;rw [hg] at hg';injection hg' with hg';injection hg' with _ ht;exact hne ht
theorem Own.mini {w:World} {F:Nat→Prop} {T:TypeId} {k n:Nat} {v:Value} {xs:List Value} (h:Own w F T k v n xs):Own w (fun b=>v.ownBlock=some b) T k v n xs:=⟨h.1,fun _ h=>h⟩
theorem Own.ltB {w:World} {F:Nat→Prop} {T:TypeId} {k n b:Nat} {v:Value} {xs:List Value} (h:Own w F T k v n xs) (e:v.ownBlock=some b):b<w.heap.size:=(h.1.lt b e).2
theorem qcs_one (l:List (Int×Bool)):∀ u∈qcs l,u.oneCell'=true:=by
 intro u hu;unfold qcs at hu;rw [List.mem_flatMap] at hu;obtain ⟨a,_,ha⟩:=hu;simp at ha;rcases ha with rfl|rfl <;> rfl
theorem ics_one (l:List Int):∀ u∈ics l,u.oneCell'=true:=by
 intro u hu;unfold ics at hu;rw [List.mem_map] at hu;obtain ⟨a,_,rfl⟩:=hu;rfl
def MvP (w0 w:World) (F:Nat→Prop) (g:Nat) (rd:List Int) (wr:Int) (ws:Bool) (qu:List (Int×Bool)) (inn:List Int) (vi:Value):Prop :=
 ∃ A1 c1 A2 c2,Blk w g 197 #[.slice A1 rd.length c1,.int .i64 wr,.bool ws,.slice A2 qu.length c2] ∧
  Own w (fun b=>(F b∨w0.heap.size≤b)∧b≠g) 3 1 (.slice A1 rd.length c1) rd.length (ics rd)∧Own w (fun b=>(F b∨w0.heap.size≤b)∧b≠g) 199 2 (.slice A2 qu.length c2) qu.length (qcs qu) ∧
  Own w (fun b=>w0.heap.size≤b) 3 1 vi inn.length (ics inn)∧(∀ b,(Value.slice A1 rd.length c1).ownBlock=some b→¬vi.ownBlock=some b)∧Kept F w0 w
theorem MvP.fin {w0 w:World} {F:Nat→Prop} {g:Nat} {rd:List Int} {wr:Int} {ws:Bool} {qu:List (Int×Bool)} {inn:List Int} {vi:Value} (h0:F g) (h:MvP w0 w F g rd wr ws qu inn vi) :
  ∃ A n c,Ending.returned vi = .returned (.slice A n c)∧Sl w (fun b=>w0.heap.size≤b) 1 A n (ics inn)∧Lp w (fun b=>F b∨w0.heap.size≤b) g ⟨rd,wr,ws,qu⟩∧Kept F w0 w:=by
 obtain ⟨A1,c1,A2,c2,hb,h1,h2,h3,hap,hk⟩:=h;obtain ⟨A,c,rfl,_,_,_,hs⟩:=h3.form;exact ⟨A,inn.length,c,rfl,hs,⟨.inl h0,A1,c1,A2,c2,hb,h1,h2⟩,hk⟩
theorem lk_move (w:World) (F:Nat→Prop) (g:Nat) (k:Lk) (h:Lp w F g k) (hz:k.size≤100000) :
  Calls Tryz.prog 137 #[.pointer (some ⟨g,0,none⟩)] w fun e w'=>∃ A n c,e = .returned (.slice A n c)∧Sl w' (fun b=>w.heap.size≤b) 1 A n (ics k.move.1)∧Lp w' (fun b=>F b∨w.heap.size≤b) g k.move.2∧Kept F w w':=by
 obtain ⟨h0,A1,c1,A2,c2,hb,h1,h2⟩:=h;have hgl:=hb.lt;have hstart:MvP w w F g k.rd k.wr k.ws k.qu [] (.slice none 0 0):=⟨A1,c1,A2,c2,hb,h1.imp (fun b _ h=>⟨.inl h.1,h.2⟩),h2.imp (fun b _ h=>⟨.inl h.1,h.2⟩),Own.nil _ _ _ _,fun b _=>by simp [Value.ownBlock],Kept.refl _ _⟩
 have Hst:=hI hstart;obtain ⟨res,hres⟩:∃ res,k.move=res:=⟨_,rfl⟩;have hres':mvq k.rd k.wr k.ws k.qu=res:=hres;rw [hres];have Hres:=hI hres';have hz':k.rd.length+k.qu.length≤100000:=hz;clear hstart hres hres' hb h1 h2 hz;go_enter Tryz.func137,Tryz.ntmps137;go_wp2
 go_loopw [3] (fun vi wr=>∃ (rd:List Int) (x:Int) (ws:Bool) (qu:List (Int×Bool)) (inn:List Int),rd.length+qu.length≤100000∧inn.length+qu.length≤100000∧Hid (res=(inn++(mvq rd x ws qu).1,(mvq rd x ws qu).2))∧Hid (MvP w wr F g rd x ws qu inn vi)) (fun _ wr=>match wr.cell? ⟨g,3,none⟩ with|some (.slice _ n _)=>n|_=>0)
 case atStart=>exact ⟨k.rd,k.wr,k.ws,k.qu,[],hz',by simp;omega,by rw [Hres.out];rfl,Hst⟩
 case round =>
  obtain ⟨rd,x,ws,qu,inn,hz1,hz2,hr,hm⟩:=hrel;obtain ⟨A1,c1,A2,c2,hb,h1,h2,h3,hap,hk⟩:=hm.out;have hc:=hb.cell;have hf:=hb.frozen;have Hb:=hI hb;have H1:=hI h1;have H2:=hI h2;have H3:=hI h3;have Hap:=hI hap;have Hk:=hI hk;clear hb h1 h2 h3 hap hk hm;cases qu with
  | nil =>
   have hfin:=MvP.fin h0 (vi:=u3) ⟨A1,c1,A2,c2,Hb.out,H1.out,H2.out,H3.out,Hap.out,Hk.out⟩;have hres:res=(inn,⟨rd,x,ws,[]⟩):=by rw [hr.out];simp [mvq]
   have Hfin:=hI hfin;have Hr2:=hI hres;clear hfin hres;go_wp2;go_ret;rw [Hr2.out];exact Hfin.out
  | cons a q =>
   obtain ⟨a1,a2⟩:=a;have hql:(0:Int)<(((a1,a2)::q).length:Nat):=by simp
   cases ws with
   | true =>
    have hfin:=MvP.fin h0 (vi:=u3) ⟨A1,c1,A2,c2,Hb.out,H1.out,H2.out,H3.out,Hap.out,Hk.out⟩;have hres:res=(inn,⟨rd,x,true,((a1,a2)::q)⟩):=by rw [hr.out];simp [mvq]
    have Hfin:=hI hfin;have Hr2:=hI hres;clear hfin hres;go_wp2;go_ret;rw [Hr2.out];exact Hfin.out
   | false =>
    obtain ⟨gq,oq,hA2,_,_,_⟩:=H2.out.sl.2 (by simp)
    subst hA2;have hs2:=slq_at H2.out.sl (i:=0) (e:=(a1,a2)) rfl;obtain ⟨hq1,hq2⟩:=hs2;simp only [Nat.zero_mul,Nat.add_zero] at hq1 hq2;have hka:Pure wr (wr.alloc (.cells #[.int .i64 a1,.bool a2] 199)):=(Kept.refl _ _).alloc _;have hba:=Blk.new wr 199 #[.int .i64 a1,.bool a2];have hac:=hba.cell;have hcA:=(Hb.out.alloc (.cells #[.int .i64 a1,.bool a2] 199)).cell;cases a2 with
    | true =>
     by_cases hrl:0<rd.length
     ·have hrl':(0:Int)<(rd.length:Nat):=by omega
      have hfin:=MvP.fin h0 (vi:=u3) (w0:=w) (F:=F) (w:=wr.alloc (.cells #[.int .i64 a1,.bool true] 199)) (inn:=inn) (rd:=rd) (wr:=x) (ws:=false) (qu:=(a1,true)::q) (g:=g) ⟨A1,c1,_,c2,Hb.out.alloc _,H1.out.alloc _,H2.out.alloc _,H3.out.alloc _,Hap.out,Hk.out.trans hka (fun _ _ h=>h.elim)⟩;have hres:res=(inn,⟨rd,x,false,(a1,true)::q⟩):=by rw [hr.out];simp [mvq,hrl]
      have Hfin:=hI hfin;have Hr2:=hI hres;clear hfin hres;go_wp2;go_ret;rw [Hr2.out];exact Hfin.out
     ·have hrl':¬(0:Int)<(rd.length:Nat):=by omega
      have CD:=hI (q_del (qcs ((a1,true)::q)) (qcs_one _) _ ((a1,true)::q).length c2 0 1 (wr.alloc (.cells #[.int .i64 a1,.bool true] 199)) _ (H2.out.mini.alloc _) (by omega) (by omega) (by simp))
      have hgA:g<(wr.alloc (.cells #[.int .i64 a1,.bool true] 199)).heap.size:=by have:=Hb.out.lt;simp;omega
      have hB5:=fun (S:Nat→Prop) (w5:World) (hk:Kept S (wr.alloc (.cells #[.int .i64 a1,.bool true] 199)) w5) (hs:¬S g)=>(Hb.out.alloc (.cells #[.int .i64 a1,.bool true] 199)).kept hk hs;have HB5:=hI hB5;clear hB5;have Hka:=hI hka;have Hba:=hI hba;have hqn:((a1,true)::q).length-(1-0)=q.length:=by simp
      have hqx:(qcs ((a1,true)::q)).take (0*2)++(qcs ((a1,true)::q)).drop (1*2)=qcs q:=by simp [qcs]
      rw [hqn,hqx] at CD;clear hka hba hqn hqx;go_wp2_with fail;refine (CD.out).mono ?_;rintro e w5 ⟨A5,c5,rfl,ho5,hk5⟩;have hb5:=HB5.out _ w5 hk5 (fun h=>(H2.out.2 _ h).2 rfl);have ha5:=Hba.out.kept hk5 (fun h=>by have:=H2.out.ltB h;omega)
      have hc5:=hb5.cell;have hf5:=hb5.frozen;have hac5:=ha5.cell;have h15:=(H1.out.mini.kept Hka.out (fun _ _ _ h=>h)).kept hk5 (fun b _ h1 h2=>own_apart H1.out H2.out (by decide) h1 h2)
      have h35:=(H3.out.mini.kept Hka.out (fun _ _ _ h=>h)).kept hk5 (fun b _ h1 h2=>own_apart H3.out H2.out (by decide) h1 h2)
      have Hb5:=hI hb5;have Ha5:=hI ha5;have H15:=hI h15;have H35:=hI h35;have H25:=hI ho5;have Hk5:=hI hk5;clear hb5 ha5 h15 h35 ho5 hk5;go_wp2_with (first|(at_builtin;refine held ?_));refine unheld ?_;have hk6:Kept (· = g) w5 ((w5.setCell ⟨g,3,none⟩ (.slice A5 q.length c5)).alloc (.cells #[.int .i64 a1] 3)):=((Kept.refl (· = g) w5).setCell (p:=⟨g,3,none⟩) (.inl rfl) _).alloc _
      have hb6:=(Hb5.out.set 3 (.slice A5 q.length c5)).alloc (.cells #[.int .i64 a1] 3);have hga:¬wr.heap.size=g:=fun e=>by have:=Hb.out.lt;omega
      have ha6:=Ha5.out.kept hk6 hga;have h16:=H15.out.kept hk6 (fun b _ h1 e=>(H1.out.2 b h1).2 e);have h26:=(H25.out.mini).kept hk6 (fun b hl h1 e=>by
       have e':b=g:=e;subst e';rcases H25.out.2 _ h1 with h|h
       ·exact (H2.out.2 _ h).2 rfl
       ·omega)
      have h36:=H35.out.kept hk6 (fun b _ h1 e=>by have e':b=g:=e;have:=H3.out.2 b h1;omega)
      have hlit:=Sl.lit (w5.setCell ⟨g,3,none⟩ (.slice A5 q.length c5)) #[.int .i64 a1] 3 1 1 _ rfl rfl;have hsz6:(w5.setCell ⟨g,3,none⟩ (.slice A5 q.length c5)).heap.size=w5.heap.size:=by simp [World.setCell]
      rw [hsz6] at hlit;refine wp_app Tryz.underlying84 info_di rfl (by omega) h36 hlit (ics_one [a1]) (by simp at hz2;omega) (by omega) rfl _ _ rfl rfl rfl ?_
      intro v7 w7 ho7 hk7;have hb7:Blk w7 g 197 #[.slice A1 rd.length c1,.int .i64 x,.bool false,.slice A5 q.length c5]:=hb6.kept hk7 (fun h=>by have:=H3.out.2 g h;omega)
      have ha7:=ha6.kept hk7 (fun h=>by have:=H3.out.ltB h;omega)
      have h17:=h16.kept hk7 (fun b _ h1 h2=>Hap.out b h1 h2);have h27:=h26.kept hk7 (fun b _ h1 h2=>own_apart h26 h36 (by decide) h1 h2)
      have hc7:=hb7.cell;have hf7:=hb7.frozen;have hac7:=ha7.cell;have Hb7:=hI hb7;have H17:=hI h17;have H27:=hI h27;have H37:=hI ho7;have Hk67:=hI ((hk6.mono (T:=fun b=>b=g∨u3.ownBlock=some b) (fun _ _ h=>.inl h)).same (hk7.mono (fun _ _ h=>.inr h)));clear hb6 ha6 h16 h26 h36 hlit hsz6 hb7 ha7 h17 h27 ho7;go_wp2;have hW5:wr.heap.size+1≤w5.heap.size:=by have:=Hk5.out.size;simpa using this
      have hb10:=(Hb7.out.set 1 (.int .i64 a1)).set 2 (.bool true);have hm10:((w7.setCell ⟨g,1,none⟩ (.int .i64 a1)).setCell ⟨g,2,none⟩ (.bool true)).cell? ⟨g,3,none⟩=some (.slice A5 q.length c5):=hb10.cell 3;have hfin:MvP w ((w7.setCell ⟨g,1,none⟩ (.int .i64 a1)).setCell ⟨g,2,none⟩ (.bool true)) F g rd a1 true q (inn++[a1]) v7:=by
       have hWr:w.heap.size≤wr.heap.size:=Hk.out.size;have hk10:Kept (· = g) w7 ((w7.setCell ⟨g,1,none⟩ (.int .i64 a1)).setCell ⟨g,2,none⟩ (.bool true)):=((Kept.refl (· = g) w7).setCell (p:=⟨g,1,none⟩) (.inl rfl) _).setCell (p:=⟨g,2,none⟩) (.inl rfl) _;have h7o:∀ b,v7.ownBlock=some b→u3.ownBlock=some b∨b=w5.heap.size+1:=fun b h=>by simpa [World.setCell] using H37.out.2 b h
       have h5o:∀ b,(Value.slice A5 q.length c5).ownBlock=some b→(Value.slice (some ⟨gq,oq,none⟩) ((a1,true)::q).length c2).ownBlock=some b∨wr.heap.size+1≤b:=fun b h=>by simpa using H25.out.2 b h
       refine ⟨A1,c1,A5,c5,hb10,?_,?_,?_,?_,?_⟩
       ·exact (H17.out.kept hk10 (fun b _ h e=>(H1.out.2 b h).2 e)).imp (fun b _ h=>H1.out.2 b h)
       ·exact (H27.out.kept hk10 (fun b _ h e=>by
         have e':b=g:=e;rcases h5o b h with h|h
         ·exact (H2.out.2 b h).2 e'
         ·omega)).imp (fun b _ h=>by
         rcases h5o b h with h|h
         ·exact H2.out.2 b h
         ·exact ⟨.inr (by omega),by omega⟩)
       ·have:=(H37.out.mini.kept hk10 (fun b _ h e=>by
         have e':b=g:=e;rcases h7o b h with h|h
         ·have:=H3.out.2 b h;omega
         ·omega)).imp (G:=fun b=>w.heap.size≤b) (fun b _ h=>by
         rcases h7o b h with h|h
         ·exact H3.out.2 b h
         ·omega)
        simpa [ics] using this
       ·intro b h1 h2
        rcases h7o b h2 with h'|h'
        ·exact Hap.out b h1 h'
        ·have:=H1.out.ltB h1;omega
       ·have k1:=(Hk.out.trans Hka.out (fun _ _ h=>h.elim)).trans Hk5.out (fun b hb h=>(H2.out.2 b h).1.elim id (fun h=>by omega))
        have k2:=k1.trans Hk67.out (fun b hb h=>h.elim (fun h=>by rw [h];exact h0) (fun h=>by have:=H3.out.2 b h;omega))
        exact k2.trans hk10 (fun b hb h=>by have h':b=g:=h;rw [h'];exact h0)
      have Hfin:=hI hfin;refine ⟨⟨rd,a1,true,q,inn++[a1],by simp at hz1 ⊢;omega,by simp at hz2 ⊢;omega,?_,Hfin⟩,?_⟩
      ·refine hI ?_
       rw [hr.out];simp [mvq,hrl]
      ·rw [hm10,hc 3];simp
    | false =>
     have CD:=hI (q_del (qcs ((a1,false)::q)) (qcs_one _) _ ((a1,false)::q).length c2 0 1 (wr.alloc (.cells #[.int .i64 a1,.bool false] 199)) _ (H2.out.mini.alloc _) (by omega) (by omega) (by simp))
     have hgA:g<(wr.alloc (.cells #[.int .i64 a1,.bool false] 199)).heap.size:=by have:=Hb.out.lt;simp;omega
     have hB5:=fun (S:Nat→Prop) (w5:World) (hk:Kept S (wr.alloc (.cells #[.int .i64 a1,.bool false] 199)) w5) (hs:¬S g)=>(Hb.out.alloc (.cells #[.int .i64 a1,.bool false] 199)).kept hk hs;have HB5:=hI hB5;clear hB5;have Hka:=hI hka;have Hba:=hI hba;have hqn:((a1,false)::q).length-(1-0)=q.length:=by simp
     have hqx:(qcs ((a1,false)::q)).take (0*2)++(qcs ((a1,false)::q)).drop (1*2)=qcs q:=by simp [qcs]
     rw [hqn,hqx] at CD;clear hka hba hqn hqx;go_wp2_with fail;refine (CD.out).mono ?_;rintro e w5 ⟨A5,c5,rfl,ho5,hk5⟩;have hb5:=HB5.out _ w5 hk5 (fun h=>(H2.out.2 _ h).2 rfl);have ha5:=Hba.out.kept hk5 (fun h=>by have:=H2.out.ltB h;omega)
     have hc5:=hb5.cell;have hf5:=hb5.frozen;have hac5:=ha5.cell;have h15:=(H1.out.mini.kept Hka.out (fun _ _ _ h=>h)).kept hk5 (fun b _ h1 h2=>own_apart H1.out H2.out (by decide) h1 h2)
     have h35:=(H3.out.mini.kept Hka.out (fun _ _ _ h=>h)).kept hk5 (fun b _ h1 h2=>own_apart H3.out H2.out (by decide) h1 h2)
     have Hb5:=hI hb5;have Ha5:=hI ha5;have H15:=hI h15;have H35:=hI h35;have H25:=hI ho5;have Hk5:=hI hk5;clear hb5 ha5 h15 h35 ho5 hk5;go_wp2_with (first|(at_builtin;refine held ?_));refine unheld ?_;have hk6:Kept (· = g) w5 ((w5.setCell ⟨g,3,none⟩ (.slice A5 q.length c5)).alloc (.cells #[.int .i64 a1] 3)):=((Kept.refl (· = g) w5).setCell (p:=⟨g,3,none⟩) (.inl rfl) _).alloc _
     have hb6:=(Hb5.out.set 3 (.slice A5 q.length c5)).alloc (.cells #[.int .i64 a1] 3);have hga:¬wr.heap.size=g:=fun e=>by have:=Hb.out.lt;omega
     have ha6:=Ha5.out.kept hk6 hga;have h16:=H15.out.kept hk6 (fun b _ h1 e=>(H1.out.2 b h1).2 e);have h26:=(H25.out.mini).kept hk6 (fun b hl h1 e=>by
      have e':b=g:=e;subst e';rcases H25.out.2 _ h1 with h|h
      ·exact (H2.out.2 _ h).2 rfl
      ·omega)
     have h36:=H35.out.kept hk6 (fun b _ h1 e=>by have e':b=g:=e;have:=H3.out.2 b h1;omega)
     have hlit:=Sl.lit (w5.setCell ⟨g,3,none⟩ (.slice A5 q.length c5)) #[.int .i64 a1] 3 1 1 _ rfl rfl;have hsz6:(w5.setCell ⟨g,3,none⟩ (.slice A5 q.length c5)).heap.size=w5.heap.size:=by simp [World.setCell]
     rw [hsz6] at hlit;refine wp_app Tryz.underlying84 info_di rfl (by omega) h36 hlit (ics_one [a1]) (by simp at hz2;omega) (by omega) rfl _ _ rfl rfl rfl ?_
     intro v7 w7 ho7 hk7;have hb7:Blk w7 g 197 #[.slice A1 rd.length c1,.int .i64 x,.bool false,.slice A5 q.length c5]:=hb6.kept hk7 (fun h=>by have:=H3.out.2 g h;omega)
     have ha7:=ha6.kept hk7 (fun h=>by have:=H3.out.ltB h;omega)
     have h17:=h16.kept hk7 (fun b _ h1 h2=>Hap.out b h1 h2);have h27:=h26.kept hk7 (fun b _ h1 h2=>own_apart h26 h36 (by decide) h1 h2)
     have hc7:=hb7.cell;have hac7:=ha7.cell;have Hb7:=hI hb7;have H17:=hI h17;have H27:=hI h27;have H37:=hI ho7;have Hk67:=hI ((hk6.mono (T:=fun b=>b=g∨u3.ownBlock=some b) (fun _ _ h=>.inl h)).same (hk7.mono (fun _ _ h=>.inr h)));clear hb6 ha6 h16 h26 h36 hlit hsz6 hb7 ha7 h17 h27 ho7;go_wp2;refine wp_region_late (fun x=>x.cell? ⟨g,0,none⟩=some (.slice A1 rd.length c1)) [7,8,11] [0,1,2,3,4] [11] (by kernel_rfl) (by kernel_rfl) (by kernel_rfl) (by kernel_rfl) (hc7 0) ?_
     repeat (with_reducible refine late_free (by decide) (by decide) (fun K hK=>?_);go_simp;first|(refine ex_steadyF ?_ (fun w' hw'=>?_) ?_;rotate_left;(skip;go_simp;first|done|rfl);(refine hK _ _ ?_;clear hK K))|(refine hK _ _ ?_;clear hK K))
     repeat (with_reducible refine late_step (by decide) (by decide) (fun K hK=>?_);go_simp;refine hK _ _ ?_;clear hK K)
     with_reducible refine late_move (by decide) (fun K hK=>?_)
     go_simp;have hc8:(w7.drew.alloc (.cells #[.int .i64 a1] 3)).cell? ⟨g,0,none⟩=some (.slice A1 rd.length c1):=(Hb7.out.alloc (.cells #[.int .i64 a1] 3)).cell 0;refine up_value ⟨hc8,?_⟩;refine hK _ _ ?_;clear hK K;have hlit8:=Sl.lit w7.drew #[.int .i64 a1] 3 1 1 _ rfl rfl;refine late_move0 (by decide) rfl ?_
     refine up_app Tryz.underlying84 info_di rfl (by omega) (H17.out.alloc (w:=w7.drew) _) hlit8 (ics_one [a1]) (by omega) (by omega) _ _ rfl rfl rfl (fun v9 w9 ho9 hk9=>?_)
     have hb9:Blk w9 g 197 #[.slice A1 rd.length c1,.int .i64 x,.bool false,.slice A5 q.length c5]:=(Hb7.out.alloc (w:=w7.drew) _).kept hk9 (fun h=>(H1.out.2 _ h).2 rfl);refine ⟨fun _=>hb9.cell 0,?_⟩;have hf9:=hb9.frozen;have hc9:=hb9.cell;have Hb9:=hI hb9;obtain ⟨A9,c9,rfl,_⟩:=ho9.form;have Ho9:=hI ho9;have H27':=hI ((H27.out.alloc (w:=w7.drew) (.cells #[.int .i64 a1] 3)).kept hk9 (fun b _ h1 h2=>own_apart H27.out H17.out (by decide) h1 h2))
     clear hb9 ho9
     repeat (with_reducible refine late_step (by decide) (by decide) (fun K hK=>?_);go_simp;refine hK _ _ ?_;clear hK K)
     with_reducible refine late_move (by decide) (fun K hK=>?_)
     go_simp;refine up_skip (hK _ _ ?_);clear hK K;refine late_nil ?_;go_wp2;have hW5:wr.heap.size+1≤w5.heap.size:=by have:=Hk5.out.size;simpa using this
     have hW7:w5.heap.size≤w7.heap.size:=Hk67.out.size;have hWr:w.heap.size≤wr.heap.size:=Hk.out.size;have hk10:Kept (· = g) w9 (w9.setCell ⟨g,0,none⟩ (.slice A9 (rd.length+1) c9)):=(Kept.refl (· = g) w9).setCell (p:=⟨g,0,none⟩) (.inl rfl) _;have hb10:=Hb9.out.set 0 (.slice A9 (rd.length+1) c9);have hq1b:∀ b,(Value.slice A1 rd.length c1).ownBlock=some b→b<wr.heap.size:=fun b h=>H1.out.ltB h;have h9o:∀ b,(Value.slice A9 (rd.length+1) c9).ownBlock=some b→(Value.slice A1 rd.length c1).ownBlock=some b∨b=w7.heap.size+1:=fun b h=>by
      have:=Ho9.out.2 b h;simpa using this
     have h7o:∀ b,v7.ownBlock=some b→u3.ownBlock=some b∨b=w5.heap.size+1:=fun b h=>by simpa [World.setCell] using H37.out.2 b h
     have h5o:∀ b,(Value.slice A5 q.length c5).ownBlock=some b→(Value.slice (some ⟨gq,oq,none⟩) ((a1,false)::q).length c2).ownBlock=some b∨wr.heap.size+1≤b:=fun b h=>by simpa using H25.out.2 b h
     have hfin:MvP w (w9.setCell ⟨g,0,none⟩ (.slice A9 (rd.length+1) c9)) F g (rd++[a1]) x false q (inn++[a1]) v7:=by
      refine ⟨A9,c9,A5,c5,?_,?_,?_,?_,?_,?_⟩
      ·simpa using hb10
      ·have:=(Ho9.out.kept hk10 (fun b _ h e=>by
        have e':b=g:=e;rcases h with h|h
        ·exact (H1.out.2 b h).2 e'
        ·simp at h;omega)).imp (G:=fun b=>(F b∨w.heap.size≤b)∧b≠g) (fun b _ h=>by
        rcases h with h|h
        ·exact H1.out.2 b h
        ·simp at h;exact ⟨.inr (by omega),by omega⟩)
       simpa [ics] using this
      ·exact (H27'.out.kept hk10 (fun b _ h e=>by
        have e':b=g:=e;rcases h5o b h with h|h
        ·exact (H2.out.2 b h).2 e'
        ·omega)).imp (fun b _ h=>by
        rcases h5o b h with h|h
        ·exact H2.out.2 b h
        ·exact ⟨.inr (by omega),by omega⟩)
      ·have h37':=(H37.out.alloc (w:=w7) (.cells #[.int .i64 a1] 3)).drew.kept (Kept.refl (fun _=>False) _) (fun _ _ _ h=>h)
       have:=((H37.out.mini.alloc (w:=w7.drew) (.cells #[.int .i64 a1] 3)).kept hk9 (fun b _ h1 h2=>by
        rcases h7o b h1 with h|h
        ·exact Hap.out b h2 h
        ·have:=hq1b b h2;omega)).kept hk10 (fun b _ h e=>by
        have e':b=g:=e;rcases h7o b h with h|h
        ·have:=H3.out.2 b h;omega
        ·omega)
       have:=this.imp (G:=fun b=>w.heap.size≤b) (fun b _ h=>by
        rcases h7o b h with h|h
        ·exact H3.out.2 b h
        ·omega)
       simpa [ics] using this
      ·intro b h1 h2
       have h1':(Value.slice A9 (rd.length+1) c9).ownBlock=some b:=by simpa using h1
       have hl7:=H37.out.ltB h2;rcases h9o b h1' with h|h
       ·rcases h7o b h2 with h'|h'
        ·exact Hap.out b h h'
        ·have:=hq1b b h;omega
       ·omega
      ·have k1:=(Hk.out.trans Hka.out (fun _ _ h=>h.elim)).trans Hk5.out (fun b hb h=>(H2.out.2 b h).1.elim id (fun h=>by omega))
       have k2:=k1.trans Hk67.out (fun b hb h=>h.elim (fun h=>by rw [h];exact h0) (fun h=>by have:=H3.out.2 b h;omega))
       have k3:=(k2.drew.alloc (.cells #[.int .i64 a1] 3)).trans hk9 (fun b hb h=>(H1.out.2 b h).1.elim id (fun h=>by omega))
       exact k3.trans hk10 (fun b hb h=>by have h':b=g:=h;rw [h'];exact h0)
     have Hfin:=hI hfin;have hm10:(w9.setCell ⟨g,0,none⟩ (.slice A9 (rd.length+1) c9)).cell? ⟨g,3,none⟩=some (.slice A5 q.length c5):=hb10.cell 3;refine ⟨⟨rd++[a1],x,false,q,inn++[a1],by simp at hz1 ⊢;omega,by simp at hz2 ⊢;omega,?_,Hfin⟩,?_⟩
     ·refine hI ?_
      rw [hr.out];simp [mvq]
     ·rw [hm10,hc 3];simp
end
section
open Go.RowKit
theorem lk_ask (w:World) (F:Nat→Prop) (g:Nat) (k:Lk) (who:Int) (b:Bool) (h:Lp w F g k) (hz:k.size≤99999) :
  Calls Tryz.prog 70 #[.pointer (some ⟨g,0,none⟩),.int .i64 who,.bool b] w fun e w'=>e = .returned (.bool (k.ask who b).1)∧Lp w' (fun b=>F b∨w.heap.size≤b) g (k.ask who b).2∧Kept F w w':=by
 have C1:=hI (lk_state w F g k who h (by omega))
 by_cases hs:k.st who=0
 ·rw [hs] at C1
  have hask:k.ask who b=(decide (((Lk.move { k with qu:=k.qu++[(who,b)] }).2).st who≠1),(Lk.move { k with qu:=k.qu++[(who,b)] }).2):=by unfold Lk.ask;rw [if_pos hs]
  rw [hask];obtain ⟨k2,hk2⟩:∃ k2,Lk.move { k with qu:=k.qu++[(who,b)] }=k2:=⟨_,rfl⟩;have hz2:k2.2.size≤100000:=by
   have:=move_size { k with qu:=k.qu++[(who,b)] };rw [hk2] at this;simp only [Lk.size,List.length_append,List.length_cons,List.length_nil] at this hz ⊢;omega
  rw [hk2];have Hk2:=hI hk2;have H:=hI h;clear h hask hs hk2;go_enter Tryz.func70,Tryz.ntmps70;go_wp2_with fail;refine (C1.out).mono ?_;rintro e w1 ⟨rfl,hk1⟩;obtain ⟨h0,A1,c1,A2,c2,hb,h1,h2⟩:=H.out.kept hk1 (fun _ _ _ h=>h);have hc:=hb.cell;have hf:=hb.frozen;have hgl:=hb.lt;have Hb:=hI hb;have H1:=hI h1;have H2:=hI h2;have Hk1:=hI hk1;clear hb h1 h2 hk1;have hzq:k.qu.length≤99999:=by simp only [Lk.size] at hz;omega
  go_wp2_with (first|(at_builtin;refine held ?_))
  refine unheld ?_;refine wp_app Tryz.underlying195 info_q rfl (by omega) (H2.out.mini.alloc _) (Sl.lit w1 #[.int .i64 who,.bool b] 199 2 1 _ rfl rfl) (qcs_one [(who,b)]) (by omega) (by omega) rfl _ _ rfl rfl rfl ?_
  intro v3 w3 ho3 hk3;obtain ⟨A3,c3,rfl,_⟩:=ho3.form;have hb3:=(Hb.out.alloc (.cells #[.int .i64 who,.bool b] 199)).kept hk3 (fun h=>(H2.out.2 g h).2 rfl);have hf3:=hb3.frozen;have hc3:=hb3.cell;have hb4:=hb3.set 3 (.slice A3 (k.qu.length+1) c3);have hk4:Kept (· = g) w3 (w3.setCell ⟨g,3,none⟩ (.slice A3 (k.qu.length+1) c3)):=(Kept.refl (· = g) w3).setCell (p:=⟨g,3,none⟩) (.inl rfl) _;have hL:Lp (w3.setCell ⟨g,3,none⟩ (.slice A3 (k.qu.length+1) c3)) (fun b=>F b∨w.heap.size≤b) g { k with qu:=k.qu++[(who,b)] }:=by
   refine ⟨.inl h0,A1,c1,A3,c3,by simpa using hb4,?_,?_⟩
   ·exact (((H1.out.mini.alloc (.cells #[.int .i64 who,.bool b] 199)).kept hk3 (fun b _ h1 h2=>own_apart H1.out H2.out (by decide) h1 h2)).kept hk4 (fun b _ h e=>(H1.out.2 b h).2 e)).imp (fun b _ h=>⟨.inl (H1.out.2 b h).1,(H1.out.2 b h).2⟩)
   ·have hs1:=Hk1.out.size
    have:=(ho3.kept hk4 (fun b _ h e=>by
     have e':b=g:=e;rcases h with h|h
     ·exact (H2.out.2 b h).2 e'
     ·simp at h;omega)).imp (G:=fun b=>(F b∨w.heap.size≤b)∧b≠g) (fun b _ h=>by
     rcases h with h|h
     ·exact ⟨.inl (H2.out.2 b h).1,(H2.out.2 b h).2⟩
     ·simp at h;exact ⟨.inr (by omega),by omega⟩)
    simpa [qcs] using this
  have hk14:Kept F w (w3.setCell ⟨g,3,none⟩ (.slice A3 (k.qu.length+1) c3)):=(((Hk1.out.mono (fun _ _ h=>h.elim)).alloc _).trans hk3 (fun b _ h=>(H2.out.2 b h).1)).trans hk4 (fun b _ h=>by have h':b=g:=h;rw [h'];exact h0)
  have CM:=hI (lk_move _ _ g _ hL (by simp only [Lk.size,List.length_append,List.length_cons,List.length_nil] at hz ⊢;omega))
  have Hk14:=hI hk14;clear hb3 hb4 hL hk4 hk14 ho3 hk3;go_wp2_with fail;refine (CM.out).mono ?_;rintro e w5 ⟨A5,n5,c5,rfl,_,hl5,hk5⟩;rw [Hk2.out] at hl5;have C2:=hI (lk_state w5 _ g k2.2 who hl5 hz2);have Hl5:=hI hl5;have Hk5:=hI hk5;clear hl5 hk5;go_wp2_with fail;refine (C2.out).mono ?_;rintro e w6 ⟨rfl,hk6⟩;go_wp2;go_ret;have hsz:=Hk14.out.size;refine ⟨?_,(Hl5.out.kept hk6 (fun _ _ _ h=>h)).imp (fun b _ h=>?_),((Hk14.out.trans Hk5.out (fun b hb h=>h.elim id (fun h=>by omega))).same (hk6.mono (fun _ _ h=>h.elim)))⟩
  ·have he:decide (k2.2.st who≠1)=(k2.2.st who != 1):=by rw [Bool.eq_iff_iff];simp
   rw [he];rfl
  ·rcases h with (h|h)|h
   ·exact .inl h
   ·exact .inr h
   ·exact .inr (by omega)
 ·have hask:k.ask who b=(false,k):=by unfold Lk.ask;rw [if_neg hs]
  rw [hask];have H:=hI h;clear h hask;go_enter Tryz.func70,Tryz.ntmps70;go_wp2_with fail;refine (C1.out).mono ?_;rintro e w1 ⟨rfl,hk1⟩;go_wp2;go_ret;exact cz61
end
section
open Go.RowKit
def LvP (w:World) (F:Nat→Prop) (g:Nat) (r:List Int×Lk) (e:Ending) (w':World):Prop :=
 ∃ A n c,e = .returned (.slice A n c)∧Sl w' (fun b=>w.heap.size≤b) 1 A n (ics r.1)∧Lp w' (fun b=>F b∨w.heap.size≤b) g r.2∧Kept F w w'
theorem LvP.of_move {w w4 w5:World} {F G:Nat→Prop} {g:Nat} {r:List Int×Lk} {A:Option Addr} {n c:Nat} (hk:Kept F w w4) (hG:∀ b,G b→F b∨w.heap.size≤b)
  (hs:Sl w5 (fun b=>w4.heap.size≤b) 1 A n (ics r.1)) (hl:Lp w5 (fun b=>G b∨w4.heap.size≤b) g r.2) (hk5:Kept G w4 w5):LvP w F g r (.returned (.slice A n c)) w5:=by
 have hsz:=hk.size;refine ⟨A,n,c,rfl,hs.imp (fun b _ h=>by omega),hl.imp (fun b _ h=>h.elim (hG b) (fun h=>.inr (by omega))),hk.trans hk5 (fun b hb h=>(hG b h).elim id (fun h=>by omega))⟩
theorem lk_leave (w:World) (F:Nat→Prop) (g:Nat) (k:Lk) (who:Int) (h:Lp w F g k) (hz:k.size≤100000) :
  Calls Tryz.prog 84 #[.pointer (some ⟨g,0,none⟩),.int .i64 who] w (LvP w F g (k.leave who)):=by
 have hkx:Pure w (w.alloc (.cells #[.int .i64 who] 3)):=(Kept.refl _ _).alloc _;have hx:=Blk.new w 3 #[.int .i64 who];have hxc:=hx.cell;have H:=hI (h.kept hkx (fun _ _ _ h=>h));have C1:=hI (lk_state _ F g k who H.out hz);have Hkx:=hI hkx;have Hx:=hI hx;have hgl:=h.lt;have h0:F g:=h.1;have H00:=hI h;clear h hkx hx;have hsz:(w.alloc (.cells #[.int .i64 who] 3)).heap.size=w.heap.size+1:=by simp
 rcases st_cases k who with hs|hs|hs|hs
 ·rw [hs] at C1
  have hlv:k.leave who=Lk.move { k with ws:=false }:=by unfold Lk.leave;rw [if_pos hs]
  rw [hlv];clear hlv hs;go_enter Tryz.func84,Tryz.ntmps84;go_wp2_with fail;refine (C1.out).mono ?_;rintro e w1 ⟨rfl,hk1⟩;obtain ⟨_,A1,c1,A2,c2,hb,h1,h2⟩:=H.out.kept hk1 (fun _ _ _ h=>h);have hc:=hb.cell;have hf:=hb.frozen;have hb4:=hb.set 2 (.bool false);have hk4:Kept (· = g) w1 (w1.setCell ⟨g,2,none⟩ (.bool false)):=(Kept.refl (· = g) w1).setCell (p:=⟨g,2,none⟩) (.inl rfl) _;have hL:Lp (w1.setCell ⟨g,2,none⟩ (.bool false)) F g { k with ws:=false }:=⟨h0,A1,c1,A2,c2,by simpa using hb4,h1.kept hk4 (fun b _ h e=>h.2 e),h2.kept hk4 (fun b _ h e=>h.2 e)⟩
  have hk14:Kept F w (w1.setCell ⟨g,2,none⟩ (.bool false)):=((Hkx.out.same hk1).mono (fun _ _ h=>h.elim)).trans hk4 (fun b _ h=>by have h':b=g:=h;rw [h'];exact h0)
  have CM:=hI (lk_move _ _ g _ hL hz);have Hk14:=hI hk14;clear hb h1 h2 hb4 hk4 hL hk14;go_wp2_with fail;refine (CM.out).mono ?_;rintro e w5 ⟨A5,n5,c5,rfl,hs5,hl5,hk5⟩;have hfin:=LvP.of_move Hk14.out (fun b h=>.inl h) hs5 hl5 hk5 (c:=c5);have Hfin:=hI hfin;clear hfin hs5 hl5 hk5;go_wp2;go_ret;exact Hfin.out
 ·rw [hs] at C1
  have hlv:k.leave who=Lk.move { k with rd:=lessI k.rd who }:=by unfold Lk.leave;rw [if_neg (by omega),if_pos hs]
  rw [hlv];have hzr:k.rd.length≤100000∧k.qu.length≤100000:=by simp only [Lk.size] at hz;omega
  clear hlv hs;go_enter Tryz.func84,Tryz.ntmps84;go_wp2_with fail;refine (C1.out).mono ?_;rintro e w1 ⟨rfl,hk1⟩;have hk01:Pure w w1:=Hkx.out.same hk1;obtain ⟨_,A1,c1,A2,c2,hb,h1,h2⟩:=H00.out;have hb1:=hb.kept hk01 (fun h=>h);have h11:=h1.mini.kept hk01 (fun _ _ _ h=>h);have h12:=h2.mini.kept hk01 (fun _ _ _ h=>h);have hxb:=Hx.out.kept hk1 (fun h=>h);have hc1:=hb1.cell;have hxc1:=hxb.cell;have hsz1:=hk01.size
  have C2:=hI (li_delf k.rd who A1 _ c1 w.heap.size w1 _ h11 (by omega) (hxb.cell 0) hxb.lt (fun e=>by have:=h1.ltB e;omega))
  have Hb1:=hI hb1;have H1:=hI h1;have H2:=hI h2;have H11:=hI h11;have H12:=hI h12;have Hk01:=hI hk01;have H1:=hI h1;clear hb hb1 h1 h2 h11 h12 hk01 hk1 hxb;go_wp2_with fail;refine (C2.out).mono ?_;rintro e w2 ⟨A3,c3,rfl,ho3,hk3⟩;have hb2:=Hb1.out.kept hk3 (fun h=>(H1.out.2 g h).2 rfl);have hc2:=hb2.cell;have hf2:=hb2.frozen;have hk4:Kept (· = g) w2 (w2.setCell ⟨g,0,none⟩ (.slice A3 (lessI k.rd who).length c3)):=(Kept.refl (· = g) w2).setCell (p:=⟨g,0,none⟩) (.inl rfl) _
  have hb4:=hb2.set 0 (.slice A3 (lessI k.rd who).length c3);have hk14:Kept F w (w2.setCell ⟨g,0,none⟩ (.slice A3 (lessI k.rd who).length c3)):=((Hk01.out.mono (fun _ _ h=>h.elim)).trans hk3 (fun b _ h=>(H1.out.2 b h).1)).trans hk4 (fun b _ h=>by have h':b=g:=h;rw [h'];exact h0)
  have hown4:=(ho3.kept hk4 (fun b _ h e=>by
   have e':b=g:=e;rcases h with h|h
   ·exact (H1.out.2 b h).2 e'
   ·omega)).imp (G:=fun b=>(F b∨w.heap.size≤b)∧b≠g) (fun b _ h=>by
   rcases h with h|h
   ·exact ⟨.inl (H1.out.2 b h).1,(H1.out.2 b h).2⟩
   ·exact ⟨.inr (by omega),by omega⟩)
  have hoth4:=((H12.out.kept hk3 (fun b _ h1 h2=>own_apart H11.out H12.out (by decide) h2 h1)).kept hk4 (fun b _ h e=>(H2.out.2 b h).2 e)).imp (G:=fun b=>(F b∨w.heap.size≤b)∧b≠g) (fun b _ h=>⟨.inl (H2.out.2 b h).1,(H2.out.2 b h).2⟩)
  have hL:Lp (w2.setCell ⟨g,0,none⟩ (.slice A3 (lessI k.rd who).length c3)) (fun b=>F b∨w.heap.size≤b) g { k with rd:=lessI k.rd who }:=⟨.inl h0,A3,c3,A2,c2,by simpa using hb4,hown4,hoth4⟩
  have CM:=hI (lk_move _ _ g _ hL (by simp only [Lk.size] at hz ⊢;have:=lessI_length k.rd who;omega))
  have Hk14:=hI hk14;clear hb2 hb4 hk4 hL hk14 hown4 hoth4 ho3 hk3;go_wp2_with fail;refine (CM.out).mono ?_;rintro e w5 ⟨A5,n5,c5,rfl,hs5,hl5,hk5⟩;have hfin:=LvP.of_move Hk14.out (fun b h=>h) hs5 hl5 hk5 (c:=c5);have Hfin:=hI hfin;clear hfin hs5 hl5 hk5;go_wp2;go_ret;exact Hfin.out
 ·rw [hs] at C1
  have hlv:k.leave who=Lk.move { k with qu:=lessQ k.qu who }:=by unfold Lk.leave;rw [if_neg (by omega),if_neg (by omega),if_pos hs]
  rw [hlv];have hzr:k.rd.length≤100000∧k.qu.length≤100000:=by simp only [Lk.size] at hz;omega
  clear hlv hs;go_enter Tryz.func84,Tryz.ntmps84;go_wp2_with fail;refine (C1.out).mono ?_;rintro e w1 ⟨rfl,hk1⟩;have hk01:Pure w w1:=Hkx.out.same hk1;obtain ⟨_,A1,c1,A2,c2,hb,h1,h2⟩:=H00.out;have hb1:=hb.kept hk01 (fun h=>h);have h11:=h1.mini.kept hk01 (fun _ _ _ h=>h);have h12:=h2.mini.kept hk01 (fun _ _ _ h=>h);have hxb:=Hx.out.kept hk1 (fun h=>h);have hc1:=hb1.cell;have hxc1:=hxb.cell;have hsz1:=hk01.size
  have C2:=hI (lq_delf k.qu who A2 _ c2 w.heap.size w1 _ h12 (by omega) (hxb.cell 0) hxb.lt (fun e=>by have:=h2.ltB e;omega))
  have Hb1:=hI hb1;have H1:=hI h1;have H2:=hI h2;have H11:=hI h11;have H12:=hI h12;have Hk01:=hI hk01;have H2:=hI h2;clear hb hb1 h1 h2 h11 h12 hk01 hk1 hxb;go_wp2_with fail;refine (C2.out).mono ?_;rintro e w2 ⟨A3,c3,rfl,ho3,hk3⟩;have hb2:=Hb1.out.kept hk3 (fun h=>(H2.out.2 g h).2 rfl);have hc2:=hb2.cell;have hf2:=hb2.frozen;have hk4:Kept (· = g) w2 (w2.setCell ⟨g,3,none⟩ (.slice A3 (lessQ k.qu who).length c3)):=(Kept.refl (· = g) w2).setCell (p:=⟨g,3,none⟩) (.inl rfl) _
  have hb4:=hb2.set 3 (.slice A3 (lessQ k.qu who).length c3);have hk14:Kept F w (w2.setCell ⟨g,3,none⟩ (.slice A3 (lessQ k.qu who).length c3)):=((Hk01.out.mono (fun _ _ h=>h.elim)).trans hk3 (fun b _ h=>(H2.out.2 b h).1)).trans hk4 (fun b _ h=>by have h':b=g:=h;rw [h'];exact h0)
  have hown4:=(ho3.kept hk4 (fun b _ h e=>by
   have e':b=g:=e;rcases h with h|h
   ·exact (H2.out.2 b h).2 e'
   ·omega)).imp (G:=fun b=>(F b∨w.heap.size≤b)∧b≠g) (fun b _ h=>by
   rcases h with h|h
   ·exact ⟨.inl (H2.out.2 b h).1,(H2.out.2 b h).2⟩
   ·exact ⟨.inr (by omega),by omega⟩)
  have hoth4:=((H11.out.kept hk3 (fun b _ h1 h2=>own_apart H11.out H12.out (by decide) h1 h2)).kept hk4 (fun b _ h e=>(H1.out.2 b h).2 e)).imp (G:=fun b=>(F b∨w.heap.size≤b)∧b≠g) (fun b _ h=>⟨.inl (H1.out.2 b h).1,(H1.out.2 b h).2⟩)
  have hL:Lp (w2.setCell ⟨g,3,none⟩ (.slice A3 (lessQ k.qu who).length c3)) (fun b=>F b∨w.heap.size≤b) g { k with qu:=lessQ k.qu who }:=⟨.inl h0,A1,c1,A3,c3,by simpa using hb4,hoth4,hown4⟩
  have CM:=hI (lk_move _ _ g _ hL (by simp only [Lk.size] at hz ⊢;have:=lessQ_length k.qu who;omega))
  have Hk14:=hI hk14;clear hb2 hb4 hk4 hL hk14 hown4 hoth4 ho3 hk3;go_wp2_with fail;refine (CM.out).mono ?_;rintro e w5 ⟨A5,n5,c5,rfl,hs5,hl5,hk5⟩;have hfin:=LvP.of_move Hk14.out (fun b h=>h) hs5 hl5 hk5 (c:=c5);have Hfin:=hI hfin;clear hfin hs5 hl5 hk5;go_wp2;go_ret;exact Hfin.out
 ·rw [hs] at C1
  have hlv:k.leave who=([],k):=by unfold Lk.leave;rw [if_neg (by omega),if_neg (by omega),if_neg (by omega)]
  rw [hlv];clear hlv hs;go_enter Tryz.func84,Tryz.ntmps84;go_wp2_with fail;refine (C1.out).mono ?_;rintro e w1 ⟨rfl,hk1⟩;go_wp2;go_ret;exact ⟨none,0,0,rfl,Sl.nil _ _ _ _,(H.out.kept hk1 (fun _ _ _ h=>h)).imp (fun _ _ h=>.inl h),(Hkx.out.same hk1).mono (fun _ _ h=>h.elim)⟩
end
end Go.Proofs.YtjfpfeapbcjioaaGreat
