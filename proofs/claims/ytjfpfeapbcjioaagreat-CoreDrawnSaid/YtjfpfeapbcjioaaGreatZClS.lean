/-
  The texts of this claim, put together: ClS.
-/
import Derived.Sort.OwnSorted
import Derived.Shelf.SlSortCmp.WholeK
import Derived.LoopTactic
import Derived.Test.YtjfpfeapbcjioaaGreatZCr
import Derived.Test.YtjfpfeapbcjioaaGreatZOm
import Derived.Test.YtjfpfeapbcjioaaGreatZBlk
import Derived.Test.YtjfpfeapbcjioaaGreatZLayF
import Derived.Test.YtjfpfeapbcjioaaGreatZDel
set_option linter.unusedSimpArgs false
set_option linter.unusedVariables false
set_option maxHeartbeats 12800000
set_option maxRecDepth 100000
namespace Go.Proofs.YtjfpfeapbcjioaaGreat
section
open Go.RowKit
open Go.Sort
section
variable {α:Type} [Inhabited α] {enc:α→List Value} {k:Nat}
theorem flat_list (hk:∀ x,(enc x).length=k) (l:List α):(flatK enc k l.toArray).toList=l.flatMap enc:=by
 apply List.ext_getElem?
 intro j;have hl:=fm_length enc k hk l
 by_cases hj:j<l.length*k
 ·have h0:0<k:=Nat.pos_of_ne_zero (by rintro rfl;simp at hj)
  have hq:j / k<l.length:=Nat.div_lt_of_lt_mul (by rw [Nat.mul_comm];exact hj)
  have h1:=fm_get enc k hk l (j / k) (j % k) (l[j / k]'hq) (List.getElem?_eq_getElem hq) (Nat.mod_lt _ h0);rw [Nat.div_add_mod'] at h1;rw [h1];have hz:j<(flatK enc k l.toArray).size:=by rw [size_flatK];simpa using hj
  rw [Array.getElem?_toList,Array.getElem?_eq_getElem hz];have h2:=get_flatK enc k l.toArray j (by simpa using hj)
  rw [getElem!_pos _ j hz] at h2;rw [h2];have h3:l.toArray[j / k]! = l[j / k]'hq:=by rw [getElem!_pos _ (j / k) (by simpa using hq)];simp
  rw [h3];have h4:j % k<(enc (l[j / k]'hq)).length:=by rw [hk];exact Nat.mod_lt _ h0
  rw [getElem!_pos _ (j % k) h4,List.getElem?_eq_getElem h4]
 ·have hz:(flatK enc k l.toArray).toList.length=l.length*k:=by rw [Array.length_toList,size_flatK];simp
  rw [List.getElem?_eq_none (by rw [hz];omega),List.getElem?_eq_none (by rw [hl];omega)]
theorem take_put (cur F:Array Value) (h:F.size≤cur.size):(putCells id 0 F cur).toList.take F.size=F.toList:=by
 apply List.ext_getElem?
 intro j
 by_cases hj:j<F.size
 ·rw [List.getElem?_take_of_lt hj,Array.getElem?_toList]
  simp [putCells,hj,show j<cur.size by omega]
 ·rw [List.getElem?_take_eq_none (by omega),List.getElem?_eq_none (by simp;omega)]
theorem holdsK_of_block {w:World} {g:Nat} {cur:Array Value} {e:TypeId} {l:List α} (hk:∀ x,(enc x).length=k) (hb:w.heap[g]? = some (.cells cur e (0,0))) (ht:cur.toList.take (l.length*k)=l.flatMap enc):HoldsK enc k w g 0 l.toArray:=by
 intro j hj;have hj':j<l.length*k:=by simpa using hj
 refine ⟨?_,by simp [World.frozen?,hb]⟩
 have h1:(cur.toList.take (l.length*k))[j]? = (l.flatMap enc)[j]?:=by rw [ht]
 rw [List.getElem?_take_of_lt hj',←flat_list hk,Array.getElem?_toList,Array.getElem?_toList] at h1;simp only [World.cell?,hb,Nat.zero_add];simp only [Option.isSome_none,Bool.false_eq_true,if_false];rw [h1,Array.getElem?_eq_getElem hj,getElem!_pos _ j hj];rfl
theorem heap_sortedK {w:World} {g n:Nat} {os:Array Obj} {cur:Array Value} {e:TypeId} {fr:Nat×Nat} (d:Array α) (hb:w.heap[g]? = some (.cells cur e fr)) :
  (sortWorldK enc k w g 0 n d os).heap[g]? = some (.cells (putCells id 0 (flatK enc k d) cur) e fr):=by
 have hg:g<w.heap.size:=(Array.getElem?_eq_some_iff.1 hb).1;unfold sortWorldK putRowK;rw [heap_grow_old _ _ (by simpa using hg)]
 simp [putRow,mapBlock,Sort.ahead,Array.getElem?_modify,hb,onCells]
theorem grownBy_sortedK {w:World} {g n:Nat} {os:Array Obj} (d:Array α):w.grownBy (sortWorldK enc k w g 0 n d os) (some g):=by
 unfold sortWorldK putRowK;refine ⟨rfl,rfl,rfl,by simp,fun i hi hne=>?_⟩
 rw [heap_grow_old _ _ (by simpa using hi)]
 have:g≠i:=fun e=>hne (by rw [e])
 simp [putRow,mapBlock,Sort.ahead,Array.getElem?_modify,this]
theorem ownsRow_sortedK {w:World} {base g cap n:Nat} {e:TypeId} {os:Array Obj} {cur:Array Value} {l ts:List α} (hk:∀ x,(enc x).length=k) (hl:ts.length=l.length) (hbase:base≤g) (hb:w.heap[g]? = some (.cells cur e (0,0)))
  (h1:l.length≤cap) (h2:cap≤maxLen) (h3:cur.size=cap*k) :
  (sortWorldK enc k w g 0 n ts.toArray os).ownsRow base e k (.slice (some ⟨g,0,none⟩) l.length cap) l.length (ts.flatMap enc) :=
 ⟨by rw [fm_length enc k hk,hl],.inr ⟨g,cap,_,rfl,hbase,heap_sortedK _ hb,h1,h2,by simp [putCells,h3],by
  have hz:(flatK enc k ts.toArray).size=l.length*k:=by rw [size_flatK];simp [hl]
  have:=take_put cur (flatK enc k ts.toArray) (by rw [hz,h3];exact Nat.mul_le_mul_right _ h1)
  rw [hz,flat_list hk] at this;exact this⟩⟩
end
instance:Inhabited It:=⟨⟨⟨#[]⟩,0,false,⟨#[]⟩⟩⟩
def ordI (x y:It):Int:=if x.ver<y.ver then -1 else if y.ver<x.ver then 1 else Lib.compareBytes (kb x.uid) (kb y.uid)
def ltI (x y:It):Prop:=x.ver<y.ver∨x.ver=y.ver∧kb x.uid<kb y.uid
theorem ltOf_ord (x y:It):ltOf ordI x y=true↔ltI x y:=by
 unfold ltOf ordI ltI;rw [decide_eq_true_eq]
 split
 ·exact ⟨fun _=>.inl (by assumption),fun _=>by decide⟩
 ·split
  ·exact ⟨fun h=>absurd h (by decide),fun h=>by omega⟩
  ·have hv:x.ver=y.ver:=by omega
   rcases cmp_tri (kb x.uid) (kb y.uid) with ⟨h,e⟩|⟨h,e⟩|⟨h,e⟩
   ·rw [e];exact ⟨fun _=>.inr ⟨hv,h⟩,fun _=>by decide⟩
   ·rw [e]
    refine ⟨fun h=>absurd h (by decide),fun k=>?_⟩
    rcases k with k|⟨_,k⟩
    ·omega
    ·rw [h] at k;exact absurd k (lt_irr _)
   ·rw [e]
    refine ⟨fun h=>absurd h (by decide),fun k=>?_⟩
    rcases k with k|⟨_,k⟩
    ·omega
    ·exact (lt_asym h k).elim
theorem ltOf_no (x y:It):ltOf ordI x y=false↔¬ltI x y:=by rw [←ltOf_ord];simp
theorem swoI:SWO (ltOf ordI) where
 irrefl x:=by
  rw [ltOf_no];unfold ltI;rintro (h|⟨_,h⟩)
  ·omega
  ·exact lt_irr _ h
 trans x y z h1 h2:=by
  rw [ltOf_ord] at *;unfold ltI at *;rcases h1 with h1|⟨h1,k1⟩ <;> rcases h2 with h2|⟨h2,k2⟩
  ·exact .inl (by omega)
  ·exact .inl (by omega)
  ·exact .inl (by omega)
  ·exact .inr ⟨by omega,lt_tr k1 k2⟩
 ntrans x y z h1 h2:=by
  rw [ltOf_no] at *;unfold ltI at *;rintro (h|⟨h,k⟩)
  ·by_cases hx:x.ver<y.ver
   ·exact h1 (.inl hx)
   ·exact h2 (.inl (by omega))
  ·have e1:¬x.ver<y.ver:=fun e=>h1 (.inl e)
   have e2:¬y.ver<z.ver:=fun e=>h2 (.inl e);have e3:x.ver=y.ver:=by omega
   have e4:y.ver=z.ver:=by omega
   exact le_tr (fun e=>h2 (.inr ⟨e4,e⟩)) (fun e=>h1 (.inr ⟨e3,e⟩)) k
theorem ltI_total {x y:It} (h1:¬ltI x y) (h2:¬ltI y x):x.uid=y.uid:=by
 unfold ltI at *;have e1:x.ver=y.ver:=by
  have:=fun e=>h1 (.inl e);have:=fun e=>h2 (.inl e);omega
 rcases cmp_tri (kb x.uid) (kb y.uid) with ⟨h,_⟩|⟨h,_⟩|⟨h,_⟩
 ·exact absurd (.inr ⟨e1,h⟩) h1
 ·exact kb_inj.1 h
 ·exact absurd (.inr ⟨e1.symm,h⟩) h2
def sortI (l:List It):List It:=l.mergeSort (fun x y=>!(ltOf ordI y x))
theorem sorted_uniq:∀ {a b:List It},a.Pairwise (fun x y=>¬ltI y x)→b.Pairwise (fun x y=>¬ltI y x)→(a.map (·.uid)).Nodup→a.Perm b→a=b
 | [],b,_,_,_,h=>(List.Perm.nil_eq h)
 | x::a,[],_,_,_,h=>by have:=h.length_eq;simp at this
 | x::a,y::b,ha,hb,hn,h=>by
  have ha':=List.pairwise_cons.1 ha;have hb':=List.pairwise_cons.1 hb;have hn':=List.nodup_cons.1 (by simpa using hn:(x.uid::a.map (·.uid)).Nodup)
  have hxy:x=y:=by
   have h1:x∈y::b:=h.mem_iff.1 (List.mem_cons_self);have h2:y∈x::a:=h.mem_iff.2 (List.mem_cons_self);rcases List.mem_cons.1 h1 with h1|h1
   ·exact h1
   ·rcases List.mem_cons.1 h2 with h2|h2
    ·exact h2.symm
    ·have e:=ltI_total (hb'.1 x h1) (ha'.1 y h2)
     exact absurd (List.mem_map.2 ⟨y,h2,e.symm⟩) hn'.1
  subst hxy;rw [sorted_uniq ha'.2 hb'.2 hn'.2 h.cons_inv]
theorem sortI_perm (l:List It):(sortI l).Perm l:=List.mergeSort_perm _ _
theorem sortI_pair (l:List It):(sortI l).Pairwise (fun x y=>¬ltI y x):=by
 have h1:(sortI l).Pairwise (fun x y=>(!(ltOf ordI y x))=true):=List.pairwise_mergeSort (by
  intro a b c h1 h2;simp only [Bool.not_eq_true'] at *;exact swoI.ntrans c b a h2 h1) (by
  intro a b;cases h:ltOf ordI b a with
  | false=>rfl
  | true =>
   cases h2:ltOf ordI a b with
   | false=>rfl
   | true =>
    have h3:=swoI.trans _ _ _ h h2;rw [swoI.irrefl] at h3;cases h3) _
 exact h1.imp (fun h=>by rw [Bool.not_eq_true',ltOf_no] at h;exact h)
end
end Go.Proofs.YtjfpfeapbcjioaaGreat
