/-
  The texts of this claim, put together: RowK.
-/
import Derived.Laws.CopyRow
import Derived.Laws.CopyOwn
import Derived.Lib.AppendZeros
import Derived.Lib.Overlaps
import Derived.Laws.Externs
import Derived.Test.YtjfpfeapbcjioaaGreatZFree
set_option linter.unusedSimpArgs false
set_option linter.unusedVariables false
set_option maxHeartbeats 12800000
set_option maxRecDepth 100000
namespace Go.Proofs.YtjfpfeapbcjioaaGreat
section
open Go.RowKit
section
variable {P:Program} (w:World)
theorem run_copyK (dT sT ty elem:TypeId) (size:Nat) (g o dLen dCap:Nat) (a:Addr) (sLen sCap:Nat) (cur:Array Value) (t:TypeId) (cs:List Value)
  (hu:P.underlying dT=some (.slice elem)) (hs:(P.info? elem).map (·.size)=some size) (hg:w.heap[g]? = some (.cells cur t (0,0))) (hn:cs.length=Nat.min sLen dLen*size)
  (hsrc:∀ j v,cs[j]? = some v→w.cell? (a.add j)=some v) (hfit:o+cs.length≤cur.size) (h1:∀ v∈cs,v.oneCell'=true) :
  (Builtin.copy_ #[dT,sT] ty #[.slice (some ⟨g,o,none⟩) dLen dCap,.slice (some a) sLen sCap]).run P w =
   .ok (goInt (Nat.min sLen dLen)) (w.setRow g (cur.toList.take o++cs++cur.toList.drop (o+cs.length)).toArray):=by
 have hl:=run_firstCells_some (P:=P) w size (Nat.min sLen dLen) a sLen sCap cs hn hsrc;have hst:=run_storeCells_at P g o t cs 0 cur w hg (by simpa using hfit) h1
 cases hq:P.info? elem with
 | none=>simp [hq] at hs
 | some i =>
  have hi:i.size=size:=by simpa [hq] using hs
  simp only [Nat.add_zero] at hst;simp [Builtin.copy_,run_underlying hu,Builtin.lenOf,sizeOf,typeInfo,hq,hi,hl,hst]
theorem run_clearK (tS e ty:TypeId) (z:Value) (size:Nat) (ht:P.underlying tS=some (.slice e)) (hv:∀ w,(zeroValue e).run P w = .ok z w) (hz:z.cells.size=size) (h1:∀ v∈z.cells,v.oneCell'=true) (g o n c:Nat) (cur:Array Value) (t:TypeId)
  (hg:w.heap[g]? = some (.cells cur t (0,0))) (hfit:o+n*size≤cur.size) :
  (Builtin.clear_ #[tS] ty #[.slice (some ⟨g,o,none⟩) n c]).run P w = .ok (.tuple #[]) (w.setRow g (cur.toList.take o++(Builtin.zeroCells z.cells n).toList++cur.toList.drop (o+n*size)).toArray):=by
 have hlen:(Builtin.zeroCells z.cells n).toList.length=n*size:=by rw [Array.length_toList,size_zeroCells,hz]
 have hone:∀ v∈(Builtin.zeroCells z.cells n).toList,v.oneCell'=true:=by
  intro v hv';unfold Builtin.zeroCells at hv';simp only [Array.toList_map,List.mem_map,Array.mem_toList_iff,Array.mem_range] at hv';obtain ⟨i,hi,rfl⟩:=hv';have hpos:0<z.cells.size:=by
   rcases Nat.eq_zero_or_pos z.cells.size with h|h
   ·rw [h] at hi;simp at hi
   ·exact h
  have hlt:=Nat.mod_lt i hpos;rw [getElem!_pos z.cells _ hlt];exact h1 _ (Array.getElem_mem _)
 have hst:=run_storeCells_at P g o t (Builtin.zeroCells z.cells n).toList 0 cur w hg (by rw [hlen];simpa using hfit) hone
 simp only [Nat.add_zero,hlen] at hst;cases n with
 | zero =>
  have:(cur.toList.take o++(Builtin.zeroCells z.cells 0).toList++cur.toList.drop (o+0*size)).toArray=cur:=by
   have h0:(Builtin.zeroCells z.cells 0).toList=[]:=List.eq_nil_of_length_eq_zero (by rw [hlen];simp)
   rw [h0];simp
  rw [this,setRow_self w g cur t (0,0) hg];simp [Builtin.clear_,run_underlying ht]
 | succ m =>
  simp [Builtin.clear_,run_underlying ht,hv,hst]
theorem run_append_makeK (t tn ty e:TypeId) (i:TypeInfo) (z:Value) (k kn:IntKind) (ht:P.underlying t=some (.slice e)) (htn:P.underlying tn=some (.int kn)) (hi:P.info? e=some i) (hz:i.zero=some z)
  (a:Addr) (n c m:Nat) (old:List Value) (hl:old.length=n*i.size) (hold:∀ j u,old[j]? = some u→w.cell? (a.add j)=some u) (h0:0<m) (hc:c<n+m) (hs:0<i.size) (hsmall:(n+m)*i.bytes≤140737488355328) (h63:n+m≤1073741824) :
  (Builtin.append_ #[t,tn] ty #[.slice (some a) n c,.int k m]).run P w =
   .ok (.slice (some ⟨w.heap.size,0,none⟩) (n+m) (grownCap w (n+m) c e)) (w.drew.alloc (.cells (old.toArray++Builtin.zeroCells z.cells m++Builtin.zeroCells z.cells (grownCap w (n+m) c e-(n+m))) e)):=by
 have hm0:m≠0:=by omega
 have hw:IntKind.i64.wrap (m:Int)=m:=by rw [IntKind.wrap_i64];omega
 have h63':¬(9223372036854775807<((n:Int)+(m:Int))):=by omega
 have hfits:=growslice_fits hc hsmall;have h48':¬(281474976710656<Builtin.nextslicecap (n+m) c*i.bytes):=by omega
 have hmb:m*i.bytes≤(n+m)*i.bytes:=Nat.mul_le_mul_right _ (by omega)
 have h48i:¬(281474976710656<(m:Int)*(i.bytes:Int)):=by
  rw [←Int.natCast_mul];omega
 have hneg:¬((m:Int)<0):=by omega
 have hns:¬(m*i.size=0):=Nat.mul_ne_zero hm0 (by omega)
 have hroom:¬(n+m≤c):=by omega
 have hold':=run_firstCells_some (P:=P) w.drew i.size n a n c old hl hold;simp [Builtin.append_,run_underlying ht,run_underlying htn,sizeOf,typeInfo,zeroValue,hi,hz,asInt,asIntOf,hw,hm0,hneg,hns,h63',h48',h48i,hroom,Question.forced,hold',newRow,grownCap]
end
end
end Go.Proofs.YtjfpfeapbcjioaaGreat
