/-
  The texts of this claim, put together: Open2, Open3.
-/
import Derived.Deep.Slices
import Derived.Deep.Fields
import Derived.ChangeSame
import Derived.Lib.SmallJoins
import Derived.Test.YtjfpfeapbcjioaaGreatZOpen
import Derived.Test.YtjfpfeapbcjioaaGreatZLib
set_option linter.unusedSimpArgs false
set_option linter.unusedVariables false
set_option maxHeartbeats 12800000
set_option maxRecDepth 100000
namespace Go.Proofs.YtjfpfeapbcjioaaGreat
section
open Go.RowKit
open Go.Joins Go.ChangeShapes Go.WideShapes Go.Deep
section
variable {H:Type} {enc:TypeId×Value→H} {P:Program} {w:World} {base:Nat} {spare:Nat→Bool} {held:Bool}
theorem add_spot {a:Addr} {v:Value} (h:w.cell? (a.add 0)=some v):a.spot=none:=by
 have e:=World.cell?_spot h;unfold Addr.add at e;rw [if_pos rfl] at e;exact e
theorem choose_row {α:Type} {n:Nat} {p:Nat→α→Prop} (h:∀ i,i<n→∃ x,p i x):∃ l:List α,l.length=n∧∀ (i:Nat) (x:α),l[i]? = some x→p i x:=by
 induction n with
 | zero=>exact ⟨[],rfl,fun i x hx=>by simp at hx⟩
 | succ n ih =>
  obtain ⟨l,hl,hp⟩:=ih fun i hi=>h i (by omega)
  obtain ⟨x,hx⟩:=h n (by omega)
  refine ⟨l++[x],by simp [hl],fun i y hy=>?_⟩
  rcases Nat.lt_or_ge i l.length with hlt|hge
  ·rw [List.getElem?_append_left hlt] at hy
   exact hp i y hy
  ·rw [List.getElem?_append_right hge] at hy
   have:i=n:=by
    have:=(List.getElem?_eq_some_iff.1 hy).1;simp at this;omega
   subst this;rw [show i-l.length=0 from by omega] at hy
   simp at hy;subst hy;exact hx
end
end
section
open Go.RowKit
open Go.Joins Go.ChangeShapes Go.WideShapes Go.Deep
section
variable {H:Type} {enc:TypeId×Value→H} {P:Program} {w:World}
def Tr (enc:TypeId×Value→H) (P:Program) (w:World) (t:TypeId) (cs:List Value):Prop:=∃ fuel x,DataW.trod enc P w 0 (fun _=>true) true fuel t cs=some x
theorem Tr.fields {t:TypeId} {fs:Array Field} {cs:List Value} (ht:P.underlying t=some (.struct fs)) (h:Tr enc P w t cs) :
  cs.length=P.cellsOf t∧∀ (j:Nat) (f:Field),fs[j]? = some f→Tr enc P w f.type ((cs.drop f.offset).take (P.cellsOf f.type)):=by
 obtain ⟨fuel,x,h⟩:=h;obtain ⟨xs,n,_,_,hl,hx,hf⟩:=DataW.trod_struct ht h;refine ⟨hl,fun j f hj=>?_⟩;have hjl:j<fs.size:=(Array.getElem?_eq_some_iff.1 hj).1;exact ⟨n,xs[j]'(by omega),(hf j f hj).trans (List.getElem?_eq_getElem (by omega))⟩
theorem Tr.int {t:TypeId} {cs:List Value} (ht:P.underlying t=some (.int .i64)) (h:Tr enc P w t cs):∃ z:Int,cs=[.int .i64 z]∧-9223372036854775808≤z∧z≤9223372036854775807:=by
 obtain ⟨fuel,x,h⟩:=h;obtain ⟨z,e,_,hw⟩:=DataW.trod_int ht h;exact ⟨z,e,bounds_i64 hw⟩
theorem Tr.str {t:TypeId} {cs:List Value} (ht:P.underlying t=some .string) (h:Tr enc P w t cs):∃ s:ByteArray,cs=[.string s]∧s.size≤maxLen:=by
 obtain ⟨fuel,x,h⟩:=h;obtain ⟨s,e,_,hw⟩:=DataW.trod_string ht h;exact ⟨s,e,hw⟩
theorem Tr.bool {t:TypeId} {cs:List Value} (ht:P.underlying t=some .bool) (h:Tr enc P w t cs):∃ b:Bool,cs=[.bool b]:=by
 obtain ⟨fuel,x,h⟩:=h;obtain ⟨b,e,_⟩:=DataW.trod_bool ht h;exact ⟨b,e⟩
def pcs (cs:List Value):Nat→List Nat→List Value
 | _,[]=>[]
 | o,k::ks=>(cs.drop o).take k++pcs cs (o+k) ks
theorem pcs_all (cs:List Value):∀ (ks:List Nat) (o:Nat),cs.length=o+ks.sum→cs.drop o=pcs cs o ks
 | [],o,h=>by
  simp at h;rw [List.drop_of_length_le (by omega)];rfl
 | k::ks,o,h=>by
  simp only [List.sum_cons] at h;rw [pcs,←pcs_all cs ks (o+k) (by omega),←List.drop_drop,List.take_append_drop]
theorem pcs_zero {cs:List Value} {ks:List Nat} (h:cs.length=ks.sum):cs=pcs cs 0 ks:=by
 have:=pcs_all cs ks 0 (by omega)
 rwa [List.drop_zero] at this
theorem Tr.rows {α:Type} {t e:TypeId} {k:Nat} {f:α→List Value} {Q:α→Prop} {cs:List Value} (ht:P.underlying t=some (.slice e)) (hC:P.cellsOf e=k) (hk:0<k) (hf:∀ a,(f a).length=k)
  (ho:∀ cs,Tr enc P w e cs→∃ a,cs=f a∧Q a) (h:Tr enc P w t cs) :
  ∃ (A:Option Addr) (c:Nat) (l:List α),cs=[.slice A l.length c]∧Sl w (fun b=>b<w.heap.size) k A l.length (l.flatMap f)∧l.length≤c∧c≤maxLen∧∀ a∈l,Q a:=by
 obtain ⟨fuel,x,h⟩:=h;rcases open_slice ht h with ⟨h0,_⟩|⟨a,len,cap,m,n,D,Pl,hcs,hb,hl,hm,hmm,hx,hi⟩
 ·exact ⟨none,0,[],h0,Sl.nil _ _ _ _,Nat.zero_le _,Nat.zero_le _,fun a ha=>by cases ha⟩
 ·have key:∀ i,i<len→∃ y:α,(∀ j,j<k→w.cell? (a.add (i*k+j))=(f y)[j]?)∧Q y:=fun i hil=>by
   obtain ⟨cs',hc,htr⟩:=hi i (by rw [hmm];split <;> omega)
   rw [hC] at hc;obtain ⟨y,e,hq⟩:=ho cs' ⟨_,_,htr⟩;subst e;obtain ⟨_,_,hat⟩:=World.cells?_some hc;exact ⟨y,fun j hj=>by rw [←Go.Deep.add_add];exact hat j hj,hq⟩
  obtain ⟨l,hll,hp⟩:=choose_row key;refine ⟨some a,cap,l,by rw [hcs,hll],⟨fm_length _ k hf l,fun h0=>?_⟩,by omega,hm,fun i hi=>?_⟩
  ·obtain ⟨i0,hi0⟩:∃ it,l[0]? = some it:=⟨_,List.getElem?_eq_getElem h0⟩
   have hc0:=(hp 0 i0 hi0).1 0 hk;obtain ⟨v0,hv0⟩:∃ v,(f i0)[0]? = some v:=⟨_,List.getElem?_eq_getElem (by rw [hf];exact hk)⟩
   rw [hv0,Nat.zero_mul] at hc0;have hsp:=add_spot hc0;obtain ⟨b,off,spot⟩:=a;simp only at hsp;subst hsp;rw [Addr.add_lit] at hc0;have hlt:=World.block_lt_of_cell? w _ hc0;refine ⟨b,off,rfl,hlt,hlt,fun j hj=>?_⟩;rw [fm_length _ k hf] at hj;have hjk:j / k<l.length:=Nat.div_lt_of_lt_mul (by rw [Nat.mul_comm];exact hj)
   obtain ⟨it,hit⟩:∃ it,l[j / k]? = some it:=⟨_,List.getElem?_eq_getElem hjk⟩;have h1:=(hp (j / k) it hit).1 (j % k) (Nat.mod_lt _ hk);have h2:=fm_get _ k hf l (j / k) (j % k) it hit (Nat.mod_lt _ hk);rw [show j / k*k+j % k=j from Nat.div_add_mod' j k] at h1 h2;rw [Addr.add_lit] at h1;rw [h1,h2]
  ·obtain ⟨j,hj,e⟩:=List.getElem_of_mem hi
   exact (hp j i (by rw [List.getElem?_eq_getElem hj,e])).2
theorem Tr.slice {t e:TypeId} {v:Value} {r0:Reach} {b0:Nat} {d:DataW H} {p:List MemPlace} (ht:P.underlying t=some (.slice e)) (hv:Value.okWide P w r0 b0 t v) (h:DataW.Trod enc P w 0 (fun _=>true) true t v d p):Tr enc P w t [v]:=by
 obtain ⟨a,len,cap,rfl⟩:=okWide_slice ht hv;obtain ⟨fuel,hf⟩:=h;exact ⟨fuel,_,hf⟩
theorem Tr.struct {t:TypeId} {fs:Array Field} {v:Value} {r0:Reach} {b0:Nat} {d:DataW H} {p:List MemPlace} (ht:P.underlying t=some (.struct fs)) (hv:Value.okWide P w r0 b0 t v) (h:DataW.Trod enc P w 0 (fun _=>true) true t v d p):∃ cs,v = .agg cs∧Tr enc P w t cs.toList:=by
 obtain ⟨cs,rfl,_⟩:=okWide_struct ht hv;obtain ⟨fuel,hf⟩:=h;exact ⟨cs,rfl,fuel,_,hf⟩
end
end
end Go.Proofs.YtjfpfeapbcjioaaGreat
