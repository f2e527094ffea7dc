/-
  The texts of this claim, put together: CaP.
-/
import Derived.Sort.Walk0
import Derived.Lib.ValidLaws
import Derived.Test.YtjfpfeapbcjioaaGreatZLib
set_option linter.unusedSimpArgs false
set_option linter.unusedVariables false
set_option maxHeartbeats 12800000
set_option maxRecDepth 100000
namespace Go.Proofs.YtjfpfeapbcjioaaGreat
section
def foldB (b:UInt8):UInt8:=if 65≤b.toNat∧b.toNat≤90 then b+32 else b
def foldL (l:List UInt8):List UInt8:=l.map foldB
theorem foldL_length (l:List UInt8):(foldL l).length=l.length:=by simp [foldL]
theorem foldB_up (b:UInt8) (h1:65≤b.toNat) (h2:b.toNat≤90):foldB b=b+32∧(foldB b).toNat=b.toNat+32:=by
 have e:foldB b=b+32:=by simp [foldB,h1,h2]
 refine ⟨e,?_⟩;rw [e,UInt8.toNat_add];have:(32:UInt8).toNat=32:=rfl;omega
theorem foldB_no (b:UInt8) (h:¬(65≤b.toNat∧b.toNat≤90)):foldB b=b:=by simp [foldB,h]
def foldTo (k:Nat) (l:List UInt8):List UInt8:=foldL (l.take k)++l.drop k
theorem foldTo_zero (l:List UInt8):foldTo 0 l=l:=by simp [foldTo,foldL]
theorem foldTo_all (l:List UInt8):foldTo l.length l=foldL l:=by simp [foldTo]
theorem foldTo_length (k:Nat) (l:List UInt8):(foldTo k l).length=l.length:=by
 simp [foldTo,foldL];omega
theorem foldTo_get (l:List UInt8) (k:Nat) (j:Nat):(foldTo k l)[j]? = if j<k then l[j]?.map foldB else l[j]?:=by
 by_cases hk:j<k
 ·rw [if_pos hk]
  by_cases hl:j<l.length
  ·rw [foldTo,List.getElem?_append_left (by simp [foldL];omega)]
   simp [foldL,List.getElem?_take,hk]
  ·rw [List.getElem?_eq_none (by rw [foldTo_length];omega),List.getElem?_eq_none (by omega)]
   rfl
 ·rw [if_neg hk]
  by_cases hl:k≤l.length
  ·rw [foldTo,List.getElem?_append_right (by simp [foldL];omega),List.getElem?_drop]
   congr 1
   simp [foldL];omega
  ·rw [List.getElem?_eq_none (by rw [foldTo_length];omega),List.getElem?_eq_none (by omega)]
theorem foldTo_at (l:List UInt8) (k:Nat):(foldTo k l)[k]? = l[k]?:=by rw [foldTo_get,if_neg (Nat.lt_irrefl k)]
theorem foldTo_succ (l:List UInt8) (k:Nat) (b:UInt8) (h:l[k]? = some b):foldTo (k+1) l=(foldTo k l).set k (foldB b):=by
 apply List.ext_getElem?
 intro j;obtain ⟨hkl,hb⟩:=List.getElem?_eq_some_iff.1 h;rw [List.getElem?_set,foldTo_get,foldTo_get,foldTo_length]
 by_cases hj:k=j
 ·subst hj
  simp [h,hkl,hb]
 ·rw [if_neg hj]
  by_cases h1:j<k
  ·rw [if_pos (by omega),if_pos h1]
  ·rw [if_neg (by omega),if_neg h1]
def sqStep (out:List UInt8) (b:UInt8):List UInt8:=if b=32∧(out=[]∨out.getLast? = some 32) then out else out++[b]
def sq (l:List UInt8):List UInt8:=l.foldl sqStep []
theorem sq_snoc (l:List UInt8) (b:UInt8):sq (l++[b])=sqStep (sq l) b:=by simp [sq]
theorem sq_take (l:List UInt8) (k:Nat) (b:UInt8) (h:l[k]? = some b):sq (l.take (k+1))=sqStep (sq (l.take k)) b:=by
 rw [List.take_add_one,h,Option.toList_some,sq_snoc]
theorem sq_length (l:List UInt8):(sq l).length≤l.length:=by
 have:∀ (l o:List UInt8),(l.foldl sqStep o).length≤o.length+l.length:=by
  intro l
  induction l with
  | nil=>intro o;simp
  | cons b t ih =>
   intro o;refine Nat.le_trans (ih _) ?_;unfold sqStep
   split <;> simp <;> omega
 simpa [sq] using this l []
def endL (o:List UInt8):List UInt8:=if o.getLast? = some 32 then o.dropLast else o
def ctl (b:UInt8):Bool:=decide (b.toNat<32∨b.toNat=127)
def outL (o:List UInt8):List UInt8×Int:=if o.length=0 then ([],14) else if 64<o.length then ([],2) else (o,0)
def cleanL (v:Bool) (l:List UInt8):List UInt8×Int:=if v=true∧l.any ctl=false then outL (endL (sq l)) else ([],1)
theorem str_at (s:ByteArray) (k:Nat) (b:UInt8) (hk:k<s.size) (h:s.data.toList[k]? = some b):s[k]'hk=b:=by
 rw [List.getElem?_eq_getElem (by simpa using hk)] at h
 injection h
theorem ctl_any {l:List UInt8} {k:Nat} {b:UInt8} (h:l[k]? = some b) (hc:b.toNat<32∨b.toNat=127):l.any ctl=true:=by
 rw [List.any_eq_true];exact ⟨b,List.mem_of_getElem? h,by simpa [ctl] using hc⟩
theorem ctl_next {l:List UInt8} {k:Nat} {b:UInt8} (hno:(l.take k).any ctl=false) (h:l[k]? = some b) (h1:¬b.toNat<32) (h2:¬b.toNat=127):(l.take (k+1)).any ctl=false:=by
 rw [List.take_add_one,h,Option.toList_some,List.any_append,hno];simp [ctl];omega
theorem sqStep_skip {o:List UInt8} {b:UInt8} (hb:b=32) (h:o=[]∨o.getLast? = some 32):sqStep o b=o:=by simp [sqStep,hb,h]
theorem sqStep_add {o:List UInt8} {b:UInt8} (h:¬(b=32∧(o=[]∨o.getLast? = some 32))):sqStep o b=o++[b]:=by simp only [sqStep,if_neg h]
theorem u8_eq {b:UInt8}:b=32↔b.toNat=32:=⟨fun h=>by rw [h];rfl,fun h=>by
 apply UInt8.toNat_inj.1;exact h⟩
def clnL (l:List UInt8):List UInt8×Int:=cleanL (Lib.validD l) l
theorem clnL_ok {l o:List UInt8} (h:clnL l=(o,0)):Lib.validD l=true∧l.any ctl=false∧o=endL (sq l)∧1≤o.length∧o.length≤64:=by
 unfold clnL cleanL at h
 split at h
 ·rename_i c
  unfold outL at h
  split at h
  ·simp at h
  ·split at h
   ·simp at h
   ·injection h with h1 h2
    subst h1;exact ⟨c.1,c.2,rfl,by omega,by omega⟩
 ·simp at h
def bareL (l:List UInt8):List UInt8:=Lib.trimPrefix l [43]
def digL (b:UInt8):Bool:=decide (48≤b.toNat∧b.toNat≤57)
def rowL (l:List UInt8):List UInt8×Bool:=if 3≤(bareL l).length∧(bareL l).length≤15∧(bareL l).all digL=true then (bareL l,true) else ([],false)
def isL (l:List UInt8):Bool:=(rowL l).2
def gap (b:UInt8):Bool:=decide (b.toNat=32∨b.toNat=45∨b.toNat=46∨b.toNat=47∨b.toNat=40∨b.toNat=41)
def keepL (l:List UInt8):List UInt8:=l.filter fun b=>!gap b
theorem keep_skip {l:List UInt8} {k:Nat} {b:UInt8} (hb:l[k]? = some b) (h:gap b=true):keepL (l.take (k+1))=keepL (l.take k):=by
 rw [List.take_add_one,hb,Option.toList_some,keepL,List.filter_append];simp [h,keepL]
theorem keep_add {l:List UInt8} {k:Nat} {b:UInt8} (hb:l[k]? = some b) (h:gap b=false):keepL (l.take (k+1))=keepL (l.take k)++[b]:=by
 rw [List.take_add_one,hb,Option.toList_some,keepL,List.filter_append];simp [h,keepL]
theorem keep_length (l:List UInt8):(keepL l).length≤l.length:=List.length_filter_le _ _
def telL (l:List UInt8):List UInt8×Int:=if (clnL l).2≠0 then ([],(clnL l).2) else if isL (keepL (clnL l).1)=true then (keepL (clnL l).1,0) else ([],1)
theorem ext_data (s:ByteArray) (i j:Nat):(s.extract i j).data.toList=(s.data.toList.take j).drop i:=by
 simp [ByteArray.data_extract,List.drop_take]
theorem app_data (a b:ByteArray):(a++b).data.toList=a.data.toList++b.data.toList:=by simp
theorem set_same {α:Type} (l:List α) (k:Nat) (b:α) (h:l[k]? = some b):l.set k b=l:=by
 obtain ⟨h1,h2⟩:=List.getElem?_eq_some_iff.1 h;rw [←h2];exact List.set_getElem_self h1
end
end Go.Proofs.YtjfpfeapbcjioaaGreat
