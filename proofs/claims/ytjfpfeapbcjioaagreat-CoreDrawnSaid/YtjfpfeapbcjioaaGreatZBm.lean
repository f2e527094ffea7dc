/-
  The texts of this claim, put together: Bm.
-/
import Derived.LoopTactic
import Derived.Deep.QuietTactic
import Derived.BigQuiet
import Derived.Test.YtjfpfeapbcjioaaGreatZEt
import Derived.Test.YtjfpfeapbcjioaaGreatZRwR
set_option linter.unusedSimpArgs false
set_option linter.unusedVariables false
set_option maxHeartbeats 12800000
set_option maxRecDepth 100000
namespace Go.Proofs.YtjfpfeapbcjioaaGreat
section
open Go.RowKit
theorem bk_may (c:Cf) (w:World):Calls Tryz.prog 50 #[c.val] w fun e w'=>e = .returned (.int .i64 (if c.okB=true then 0 else 12))∧Pure w w':=by
 have C:=fun w=>qu_check c.quota w;unfold Qt.val at C;obtain ⟨conns,start,room,shards,⟨q1,q2,q3,q4⟩⟩:=c;obtain ⟨B,hBq⟩:∃ B,Qt.okB ⟨q1,q2,q3,q4⟩=B:=⟨_,rfl⟩;simp only at C;rw [hBq] at C;have C:=hI C;have hB:=Blk.new w 25 #[.int .i64 conns,.int .i64 start,.int .i64 room,.int .i64 shards,.int .i64 q1,.int .i64 q2,.int .i64 q3,.int .i64 q4];have hp:Pure w (w.alloc (.cells #[.int .i64 conns,.int .i64 start,.int .i64 room,.int .i64 shards,.int .i64 q1,.int .i64 q2,.int .i64 q3,.int .i64 q4] 25)):=(Kept.refl _ _).alloc _
 have hc:=hB.cell;have hok:Cf.okB ⟨conns,start,room,shards,⟨q1,q2,q3,q4⟩⟩=((decide (1≤conns)&&decide (conns≤12)&&decide (0≤start)&&decide (20006≤room)&&decide (room≤40000)&&decide (1≤shards)&&decide (shards≤16))&&B):=by rw [←hBq];rfl
 rw [hok];unfold Cf.val Cf.cells;simp only;clear hB hok hBq;have hno:(conns<1∨12<conns∨start<0∨room<20006∨40000<room∨shards<1∨16<shards)→(decide (1≤conns)&&decide (conns≤12)&&decide (0≤start)&&decide (20006≤room)&&decide (room≤40000)&&decide (1≤shards)&&decide (shards≤16))=false:=fun h=>by
  simp only [Bool.and_eq_false_iff,decide_eq_false_iff_not];omega
 by_cases h0:conns<1
 ·rw [hno ((.inl h0))]
  have e0:(conns<1)=True:=by simpa using h0
  clear hno h0;go_enter Tryz.func50,Tryz.ntmps50;go_wp2;go_ret;exact ⟨rfl,hp⟩
 ·have e0:(conns<1)=False:=by simpa using h0
  by_cases h1:12<conns
  ·rw [hno ((.inr (.inl h1)))]
   have e1:(12<conns)=True:=by simpa using h1
   clear hno h1;go_enter Tryz.func50,Tryz.ntmps50;go_wp2;go_ret;exact ⟨rfl,hp⟩
  ·have e1:(12<conns)=False:=by simpa using h1
   by_cases h2:start<0
   ·rw [hno ((.inr (.inr (.inl h2))))]
    have e2:(start<0)=True:=by simpa using h2
    clear hno h2;go_enter Tryz.func50,Tryz.ntmps50;go_wp2;go_ret;exact ⟨rfl,hp⟩
   ·have e2:(start<0)=False:=by simpa using h2
    by_cases h3:room<20006
    ·rw [hno ((.inr (.inr (.inr (.inl h3)))))]
     have e3:(room<20006)=True:=by simpa using h3
     clear hno h3;go_enter Tryz.func50,Tryz.ntmps50;go_wp2;go_ret;exact ⟨rfl,hp⟩
    ·have e3:(room<20006)=False:=by simpa using h3
     by_cases h4:40000<room
     ·rw [hno ((.inr (.inr (.inr (.inr (.inl h4))))))]
      have e4:(40000<room)=True:=by simpa using h4
      clear hno h4;go_enter Tryz.func50,Tryz.ntmps50;go_wp2;go_ret;exact ⟨rfl,hp⟩
     ·have e4:(40000<room)=False:=by simpa using h4
      by_cases h5:shards<1
      ·rw [hno ((.inr (.inr (.inr (.inr (.inr (.inl h5)))))))]
       have e5:(shards<1)=True:=by simpa using h5
       clear hno h5;go_enter Tryz.func50,Tryz.ntmps50;go_wp2;go_ret;exact ⟨rfl,hp⟩
      ·have e5:(shards<1)=False:=by simpa using h5
       by_cases h6:16<shards
       ·rw [hno ((.inr (.inr (.inr (.inr (.inr (.inr h6)))))))]
        have e6:(16<shards)=True:=by simpa using h6
        clear hno h6;go_enter Tryz.func50,Tryz.ntmps50;go_wp2;go_ret;exact ⟨rfl,hp⟩
       ·have e6:(16<shards)=False:=by simpa using h6
        have hyes:(decide (1≤conns)&&decide (conns≤12)&&decide (0≤start)&&decide (20006≤room)&&decide (room≤40000)&&decide (1≤shards)&&decide (shards≤16))=true:=by
         simp only [Bool.and_eq_true,decide_eq_true_eq];omega
        rw [hyes,Bool.true_and];clear hyes hno h0 h1 h2 h3 h4 h5 h6;generalize (if B=true then (0:Int) else 12)=E at C ⊢;go_enter Tryz.func50,Tryz.ntmps50;go_wp2_with fail;refine (C.out _).mono ?_;rintro e w1 ⟨rfl,hk1⟩;go_wp2;go_ret;exact ⟨rfl,hp.same hk1⟩
end
end Go.Proofs.YtjfpfeapbcjioaaGreat
