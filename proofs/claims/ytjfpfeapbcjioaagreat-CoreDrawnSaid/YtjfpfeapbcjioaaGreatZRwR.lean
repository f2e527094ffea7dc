/-
  The texts of this claim, put together: RwR.
-/
import Derived.Deep.QuietTactic
import Derived.BigQuiet
import Derived.Test.YtjfpfeapbcjioaaGreatZRw
import Derived.Test.YtjfpfeapbcjioaaGreatZFree
import Derived.Test.YtjfpfeapbcjioaaGreatZRowK
import Derived.Test.YtjfpfeapbcjioaaGreatZIter
set_option linter.unusedSimpArgs false
set_option linter.unusedVariables false
set_option maxHeartbeats 12800000
set_option maxRecDepth 100000
namespace Go.Proofs.YtjfpfeapbcjioaaGreat
section
open Go.RowKit
def Lp (w:World) (F:Nat→Prop) (g:Nat) (k:Lk):Prop :=
 F g∧∃ A1 c1 A2 c2,Blk w g 197 #[.slice A1 k.rd.length c1,.int .i64 k.wr,.bool k.ws,.slice A2 k.qu.length c2] ∧
  Own w (fun b=>F b∧b≠g) 3 1 (.slice A1 k.rd.length c1) k.rd.length (ics k.rd)∧Own w (fun b=>F b∧b≠g) 199 2 (.slice A2 k.qu.length c2) k.qu.length (qcs k.qu)
section
variable {w w':World} {F G S:Nat→Prop} {g:Nat} {k:Lk}
theorem Lp.kept (h:Lp w F g k) (hk:Kept S w w') (hd:∀ b,b<w.heap.size→F b→¬S b):Lp w' F g k:=by
 obtain ⟨h0,A1,c1,A2,c2,hb,h1,h2⟩:=h;exact ⟨h0,A1,c1,A2,c2,hb.kept hk (hd g hb.lt h0),h1.kept hk (fun b hl hb=>hd b hl hb.1),h2.kept hk (fun b hl hb=>hd b hl hb.1)⟩
theorem Lp.imp (h:Lp w F g k) (hF:∀ b,b<w.heap.size→F b→G b):Lp w G g k:=by
 obtain ⟨h0,A1,c1,A2,c2,hb,h1,h2⟩:=h;exact ⟨hF g hb.lt h0,A1,c1,A2,c2,hb,h1.imp (fun b hl hb=>⟨hF b hl hb.1,hb.2⟩),h2.imp (fun b hl hb=>⟨hF b hl hb.1,hb.2⟩)⟩
theorem Lp.lt (h:Lp w F g k):g<w.heap.size:=by
 obtain ⟨h0,A1,c1,A2,c2,hb,h1,h2⟩:=h;exact hb.lt
end
theorem lk_state (w:World) (F:Nat→Prop) (g:Nat) (k:Lk) (who:Int) (h:Lp w F g k) (hz:k.size≤100000) :
  Calls Tryz.prog 71 #[.pointer (some ⟨g,0,none⟩),.int .i64 who] w fun e w'=>e = .returned (.int .i64 (k.st who))∧Pure w w':=by
 obtain ⟨h0,A1,c1,A2,c2,hb,h1,h2⟩:=h;obtain ⟨rd,wr,ws,qu⟩:=k;simp only [Lk.size] at hz hb h1 h2;have hk1:Pure w (w.alloc (.cells #[.int .i64 who] 3)):=(Kept.refl _ _).alloc _;have hc:=(hb.alloc (.cells #[.int .i64 who] 3)).cell;have hx:=Blk.new w 3 #[.int .i64 who];have Hx:=hI hx;have hxc:=hx.cell;have s1:=h1.sl.kept hk1 (fun _ _ _ h=>h);have s2:=h2.sl.kept hk1 (fun _ _ _ h=>h);have hst:Lk.st ⟨rd,wr,ws,qu⟩ who=if ws=true∧wr=who then 3 else if hasI rd who=true then 2 else if hasQ qu who=true then 1 else 0:=rfl
 rw [hst];have hgx:g≠w.heap.size:=Nat.ne_of_lt hb.lt;have q1:¬g=w.heap.size:=hgx;have q2:¬w.heap.size=g:=fun h=>q1 h.symm;have hb0:=hb.alloc (.cells #[.int .i64 who] 3);clear hst hb h1 h2 hgx;generalize hn1:rd.length=n1 at *;generalize hn2:qu.length=n2 at *;have S1:=hI s1;have S2:=hI s2;have Hk1:=hI hk1;clear s1 s2 hk1 hn1 hn2 hx
 by_cases hw:ws=true∧wr=who
 ·obtain ⟨rfl,rfl⟩:=hw
  rw [if_pos ⟨rfl,rfl⟩];go_enter Tryz.func71,Tryz.ntmps71;go_wp2
  go_quiet (fail)
  go_wp2;go_ret;exact ⟨rfl,Hk1.out.drewN _⟩
 ·rw [if_neg hw]
  have C1:=fun (wx:World) (hp:Pure (w.alloc (.cells #[.int .i64 who] 3)) wx)=>contains_i rd who A1 n1 c1 wx F ((S1.out.kept hp (fun _ _ _ h=>h)).imp (fun _ _ h=>h.1)) (by omega)
  have C2:=fun (wx:World) (hp:Pure (w.alloc (.cells #[.int .i64 who] 3)) wx)=>containsf_q qu who A2 n2 c2 w.heap.size wx F ((S2.out.kept hp (fun _ _ _ h=>h)).imp (fun _ _ h=>h.1)) (by omega) ((World.cell?_of_block (a:=⟨w.heap.size,0,none⟩) (hp.block _ Hx.out.lt (fun h=>h))).trans (Hx.out.cell 0)) (Nat.lt_of_lt_of_le Hx.out.lt hp.size)
  have C1:=hI C1;have C2:=hI C2;have Hc:=hI hc;have Hb2:=fun (wx:World) (hp:Pure (w.alloc (.cells #[.int .i64 who] 3)) wx) (i:Nat)=>(World.cell?_of_block (a:=⟨g,i,none⟩) (hp.block g (Array.getElem?_eq_some_iff.1 (show _=_ from hb0)).1 (fun h=>h))).trans (hc i);have HB:=hI Hb2;clear Hb2;cases hr:hasI rd who with
  | true =>
   rw [hr] at C1;rw [if_pos rfl]
   by_cases hws:ws=true
   ·subst hws
    have hwr:(wr == who)=false:=by simpa using fun h=>hw ⟨rfl,h⟩
    clear hw hr;go_enter Tryz.func71,Tryz.ntmps71;go_wp2
    go_quiet (fail)
    go_wp2;refine gz41 ?_;refine gz2 ?_
    with_reducible refine seq_move (by decide) (fun K hK=>?_)
    go_simp;refine up_enter ((C1.out _ ((Kept.refl _ _).drewN _).drew).mono ?_);rintro e w1 ⟨rfl,hk1⟩;refine ⟨_,rfl,hK _ _ ?_⟩;clear hK K;refine gz2 ?_;refine gz13 ?_;go_wp2;go_ret;exact ⟨rfl,(Hk1.out.drewN _).drew.same hk1⟩
   ·have hws:ws=false:=by simpa using hws
    subst hws;clear hw hr;go_enter Tryz.func71,Tryz.ntmps71;go_wp2
    go_quiet (fail)
    go_wp2;refine gz41 ?_;refine gz2 ?_
    with_reducible refine seq_move (by decide) (fun K hK=>?_)
    go_simp;refine up_enter ((C1.out _ ((Kept.refl _ _).drewN _).drew).mono ?_);rintro e w1 ⟨rfl,hk1⟩;refine ⟨_,rfl,hK _ _ ?_⟩;clear hK K;refine gz2 ?_;refine gz13 ?_;go_wp2;go_ret;exact ⟨rfl,(Hk1.out.drewN _).drew.same hk1⟩
  | false =>
   rw [hr] at C1;rw [if_neg (by simp)]
   cases hq:hasQ qu who with
   | true =>
    rw [hq] at C2;rw [if_pos rfl]
    by_cases hws:ws=true
    ·subst hws
     have hwr:(wr == who)=false:=by simpa using fun h=>hw ⟨rfl,h⟩
     clear hw hr hq;go_enter Tryz.func71,Tryz.ntmps71;go_wp2
     go_quiet (fail)
     go_wp2;refine gz41 ?_;refine gz2 ?_
     with_reducible refine seq_move (by decide) (fun K hK=>?_)
     go_simp;refine up_enter ((C1.out _ ((Kept.refl _ _).drewN _).drew).mono ?_);rintro e w1 ⟨rfl,hk1⟩;refine ⟨_,rfl,hK _ _ ?_⟩;clear hK K;refine gz2 ?_;refine gz13 ?_;have hkw:=((Kept.refl (fun _=>False) (w.alloc (.cells #[.int .i64 who] 3))).drewN _).drew.same hk1;have hcw:=HB.out w1 hkw;go_wp2_with fail;refine (C2.out _ hkw).mono ?_;rintro e w2 ⟨rfl,hk2⟩;go_wp2;go_ret;exact ⟨rfl,(Hk1.out.same hkw).same hk2⟩
    ·have hws:ws=false:=by simpa using hws
     subst hws;clear hw hr hq;go_enter Tryz.func71,Tryz.ntmps71;go_wp2
     go_quiet (fail)
     go_wp2;refine gz41 ?_;refine gz2 ?_
     with_reducible refine seq_move (by decide) (fun K hK=>?_)
     go_simp;refine up_enter ((C1.out _ ((Kept.refl _ _).drewN _).drew).mono ?_);rintro e w1 ⟨rfl,hk1⟩;refine ⟨_,rfl,hK _ _ ?_⟩;clear hK K;refine gz2 ?_;refine gz13 ?_;have hkw:=((Kept.refl (fun _=>False) (w.alloc (.cells #[.int .i64 who] 3))).drewN _).drew.same hk1;have hcw:=HB.out w1 hkw;go_wp2_with fail;refine (C2.out _ hkw).mono ?_;rintro e w2 ⟨rfl,hk2⟩;go_wp2;go_ret;exact ⟨rfl,(Hk1.out.same hkw).same hk2⟩
   | false =>
    rw [hq] at C2;rw [if_neg (by simp)]
    by_cases hws:ws=true
    ·subst hws
     have hwr:(wr == who)=false:=by simpa using fun h=>hw ⟨rfl,h⟩
     clear hw hr hq;go_enter Tryz.func71,Tryz.ntmps71;go_wp2
     go_quiet (fail)
     go_wp2;refine gz41 ?_;refine gz2 ?_
     with_reducible refine seq_move (by decide) (fun K hK=>?_)
     go_simp;refine up_enter ((C1.out _ ((Kept.refl _ _).drewN _).drew).mono ?_);rintro e w1 ⟨rfl,hk1⟩;refine ⟨_,rfl,hK _ _ ?_⟩;clear hK K;refine gz2 ?_;refine gz13 ?_;have hkw:=((Kept.refl (fun _=>False) (w.alloc (.cells #[.int .i64 who] 3))).drewN _).drew.same hk1;have hcw:=HB.out w1 hkw;go_wp2_with fail;refine (C2.out _ hkw).mono ?_;rintro e w2 ⟨rfl,hk2⟩;go_wp2;go_ret;exact ⟨rfl,(Hk1.out.same hkw).same hk2⟩
    ·have hws:ws=false:=by simpa using hws
     subst hws;clear hw hr hq;go_enter Tryz.func71,Tryz.ntmps71;go_wp2
     go_quiet (fail)
     go_wp2;refine gz41 ?_;refine gz2 ?_
     with_reducible refine seq_move (by decide) (fun K hK=>?_)
     go_simp;refine up_enter ((C1.out _ ((Kept.refl _ _).drewN _).drew).mono ?_);rintro e w1 ⟨rfl,hk1⟩;refine ⟨_,rfl,hK _ _ ?_⟩;clear hK K;refine gz2 ?_;refine gz13 ?_;have hkw:=((Kept.refl (fun _=>False) (w.alloc (.cells #[.int .i64 who] 3))).drewN _).drew.same hk1;have hcw:=HB.out w1 hkw;go_wp2_with fail;refine (C2.out _ hkw).mono ?_;rintro e w2 ⟨rfl,hk2⟩;go_wp2;go_ret;exact ⟨rfl,(Hk1.out.same hkw).same hk2⟩
end
end Go.Proofs.YtjfpfeapbcjioaaGreat
