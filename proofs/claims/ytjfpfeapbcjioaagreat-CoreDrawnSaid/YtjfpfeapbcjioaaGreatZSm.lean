/-
  The texts of this claim, put together: Sm.
-/
import Derived.Test.YtjfpfeapbcjioaaGreatProg
import Derived.Deep.QuietTactic
import Derived.BigQuiet
import Derived.Lib.Bytealg
import Derived.Test.YtjfpfeapbcjioaaGreatZBlk
set_option linter.unusedSimpArgs false
set_option linter.unusedVariables false
set_option maxHeartbeats 12800000
set_option maxRecDepth 100000
namespace Go.Proofs.YtjfpfeapbcjioaaGreat
section
open Go.RowKit
theorem toList_eq {a b:ByteArray}:a.toList=b.toList↔a=b:=by
 constructor
 ·intro h
  rw [Go.Lib.toList_data,Go.Lib.toList_data] at h;exact ByteArray.ext (Array.toList_inj.1 h)
 ·rintro rfl;rfl
theorem neq_item (i1 i2:It) (w:World):(binOp .neq 55 (.agg #[.string i1.uid,.int .i64 i1.ver,.bool i1.gone,.string i1.card]) (.agg #[.string i2.uid,.int .i64 i2.ver,.bool i2.gone,.string i2.card])).run Tryz.prog w = .ok (.bool (!decide (i1=i2))) w:=by
 obtain ⟨u1,v1,g1,c1⟩:=i1;obtain ⟨u2,v2,g2,c2⟩:=i2;go_simp;simp only [toList_eq]
 (repeat' split) <;> simp_all
theorem guard_item (x y:Operand) (xs ys:Array Value) (op:BinOp) (w:World):(eqGuard op 55 x y (.agg xs) (.agg ys)).run Tryz.prog w = .ok () w:=run_eqGuard_agg w op _ x y xs ys (by kernel_rfl)
def BoolD (b:Bool) (w:World) (e:Ending) (w':World):Prop:=e = .returned (.bool b)∧∃ n,w'=w.drewN n
theorem items_any (A1:Option Addr) (n1 c1:Nat) (l1:List It) (A2:Option Addr) (n2 c2:Nat) (l2:List It) (w:World) (F G:Nat→Prop) (h1:Sl w F 4 A1 n1 (itc l1)) (h2:Sl w G 4 A2 n2 (itc l2)) (hn1:n1≤1000000) (hn2:n2≤1000000) :
  Calls Tryz.prog 16 #[.slice A1 n1 c1,.slice A2 n2 c2] w (BoolD (decide (l1=l2)) w):=by
 have hl1:l1.length=n1:=by have:=h1.1;rw [itc_length] at this;omega
 have hl2:l2.length=n2:=by have:=h2.1;rw [itc_length] at this;omega
 by_cases hnn:n1=n2
 ·subst hnn
  have HL:=hI (And.intro hl1 hl2);clear hl1 hl2;go_enter Tryz.func16,Tryz.ntmps16;go_wp2_with fail
  go_loopw [5] (fun i wr=>∃ k:Nat,k≤n1∧i = .int .i64 k∧(∃ q,wr=w.drewN q)∧Hid (∀ j,j<k→l1[j]? = l2[j]?)) (fun i _=>n1-(intOf i).toNat)
  case atStart=>exact ⟨0,Nat.zero_le _,rfl,⟨0,rfl⟩,fun j hj=>absurd hj (by omega)⟩
  case round =>
   obtain ⟨k,hk,rfl,⟨q,rfl⟩,hall⟩:=hrel
   by_cases hlt:k<n1
   ·obtain ⟨b1,o1,rfl,_,hb1,_⟩:=h1.2 (by omega)
    obtain ⟨b2,o2,rfl,_,hb2,_⟩:=h2.2 (by omega)
    obtain ⟨i1,hi1⟩:∃ it,l1[k]? = some it:=⟨_,List.getElem?_eq_getElem (by have:=HL.out.1;omega)⟩
    obtain ⟨i2,hi2⟩:∃ it,l2[k]? = some it:=⟨_,List.getElem?_eq_getElem (by have:=HL.out.2;omega)⟩
    obtain ⟨a0,a1,a2,a3⟩:=it_cells h1 hi1;obtain ⟨b0,b1',b2',b3⟩:=it_cells h2 hi2;have HI:=hI (And.intro hi1 hi2);have hne:=neq_item i1 i2;have hgd:=fun x y xs ys=>guard_item x y xs ys .neq;clear hi1 hi2 h1 h2
    by_cases hii:i1=i2
    ·rw [decide_eq_true hii] at hne
     have HII:=hI hii;clear hii;go_wp2_with fail
     go_quiet (fail)
     go_wp2_with fail
     go_roundw
     case measure=>simp [intOf];omega
     case rel =>
      refine ⟨k+1,by omega,by go_num,⟨_,rfl⟩,fun j hj=>?_⟩
      by_cases hjk:j<k
      ·exact hall.out j hjk
      ·obtain rfl:j=k:=by omega
       rw [HI.out.1,HI.out.2,HII.out]
    ·rw [decide_eq_false hii] at hne
     have hno:decide (l1=l2)=false:=decide_eq_false (by
      rintro rfl;have h1:=HI.out.1;rw [HI.out.2] at h1;injection h1 with h1;exact hii h1.symm)
     have HNO:=hI hno;clear hii hno;go_wp2_with fail
     go_quiet (fail)
     go_wp2_with fail
     go_ret;rw [HNO.out];exact ⟨rfl,_,World.drewN_drewN _ _ _⟩
   ·obtain rfl:k=n1:=by omega
    have hyes:decide (l1=l2)=true:=decide_eq_true (List.ext_getElem? fun j=>by
     rcases Nat.lt_or_ge j k with h|h
     ·exact hall.out j h
     ·rw [List.getElem?_eq_none (by have:=HL.out.1;omega),List.getElem?_eq_none (by have:=HL.out.2;omega)])
    have HY:=hI hyes;clear hyes;go_wp2_with fail;go_ret;rw [HY.out];exact ⟨rfl,q,rfl⟩
 ·have hno:decide (l1=l2)=false:=decide_eq_false (by rintro rfl;omega)
  have HNO:=hI hno;have hne:((n1:Int) != (n2:Int))=true:=by simp;omega
  clear hno hnn hl1 hl2;go_enter Tryz.func16,Tryz.ntmps16;go_wp2_with fail;go_ret;rw [HNO.out];exact ⟨rfl,0,rfl⟩
end
end Go.Proofs.YtjfpfeapbcjioaaGreat
