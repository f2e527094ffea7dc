/-
  The texts of this claim, put together: OmU.
-/
import Derived.Test.YtjfpfeapbcjioaaGreatZOmI
import Derived.Test.YtjfpfeapbcjioaaGreatZIter
set_option linter.unusedSimpArgs false
set_option linter.unusedVariables false
set_option maxHeartbeats 12800000
set_option maxRecDepth 100000
namespace Go.Proofs.YtjfpfeapbcjioaaGreat
section
open Go.RowKit
attribute [local go_sem] Oper.semAt_some
theorem i_under1 (n:Nat) (hn:1≤n) (l Bm Bp g:Nat) (S F:Nat→Prop) (es:List (En Int)) (t:ByteArray) (J Jx:List (En Int)→World→Prop) (W:World) (hJ:AbidesFrom W.heap.size J)
  (hY:∀ pre x W,J pre W→pre.length<(underE es (kb t)).length→YieldAt Fence.wide (n-1) Tryz.prog l (encE (Value.int .i64) x) W fun e W' =>
   (e = .returned (.bool true)∧J (pre++[x]) W'∧Kept S W W')∨(e = .returned (.bool false)∧Jx (pre++[x]) W'))
  (hm:Blk W Bm 158 #[.pointer (some ⟨g,0,none⟩)]) (hmS:¬S Bm) (hp:Blk W Bp 9 #[.string t]) (hpS:¬S Bp) (h:Mpi W F g es) (hd:∀ b,b<W.heap.size→F b→¬S b) (h0:J [] W) :
  CallsIn Fence.wide n Tryz.prog 178 #[.func (.yield l) #[] #[],.pointer (some ⟨Bm,0,none⟩),.pointer (some ⟨Bp,0,none⟩)] W fun e W'=>(∃ v,e = .returned v) ∧
   ((∃ ys,ys=underE es (kb t)∧J ys W')∨(∃ pre,pre <+: underE es (kb t)∧Jx pre W')):=by
 have C:=hI (i_find W F g es t h);have hc1:=hm.cell;have hc2:=hp.cell;have H:=hI h;have hl1:=h.2.2.1;have Hm:=hI hm;have Hp:=hI hp;have hle:=low_le es (kb t);obtain ⟨a,ha⟩:∃ a,low es (kb t)=a:=⟨_,rfl⟩;rw [ha] at C hle;obtain ⟨us,hus⟩:∃ us,es.drop a=us:=⟨_,rfl⟩;have hul:us.length=es.length-a:=by rw [←hus,List.length_drop]
 have hun:underE es (kb t)=us.takeWhile (fun e=>Lib.hasPrefix (kb e.1) (kb t)):=by unfold underE;rw [ha,hus]
 rw [hun] at hY ⊢;have HY:=hI hY;have Hus:=hI hus;clear h hm hp ha hun hus hY;refine callsIn_wide.2 ?_;go_enter Tryz.func178,Tryz.ntmps178;go_wp2_with fail;refine (C.out).mono ?_;rintro e w1 ⟨rfl,hk1⟩;have hJ1:J [] w1:=abides_pure hJ h0 hk1;have Hk1:=hI hk1;go_wp2
 go_loopw [4] (fun i wr=>∃ m:Nat,i = .int .i64 ((a+m:Nat):Int)∧m≤us.length∧Hid ((∀ j e,j<m→us[j]? = some e→Lib.hasPrefix (kb e.1) (kb t)=true)∧J (us.take m) wr∧Kept S W wr))
  (fun i _=>es.length-(intOf i).toNat)
 case atStart=>exact ⟨0,by simp,Nat.zero_le _,⟨fun j e h=>by omega,hJ1,Hk1.out.mono (fun _ _ h=>h.elim)⟩⟩
 case round =>
  obtain ⟨m,rfl,hm,hr⟩:=hrel;have Hr:=hr;obtain ⟨hpre,hJm,hkm⟩:=hr.out;have hmb:=Hm.out.kept hkm hmS;have hpb:=Hp.out.kept hkm hpS;obtain ⟨h0',h1',h2',A,c,hb,ho⟩:=H.out.kept hkm hd;have hc1:=hmb.cell;have hc2:=hpb.cell;have hc3:=hb.cell
  by_cases hlt:m<us.length
  ·obtain ⟨x,hx⟩:∃ x,us[m]? = some x:=⟨_,List.getElem?_eq_getElem hlt⟩
   have hx':es[a+m]? = some x:=by rw [←Hus.out,List.getElem?_drop] at hx;exact hx
   obtain ⟨gb,go,rfl,_,_,_⟩:=ho.sl.2 (by omega)
   obtain ⟨hc4,hc5⟩:=en_cells ho.sl hx';have hi:((a+m:Nat):Int)<(es.length:Int):=by omega
   have hpa:=fun w=>Any.strings_HasPrefix Tryz.lays99 x.1 t w;have Hpa:=hI hpa;obtain ⟨V,hV⟩:∃ V,Lib.hasPrefix (kb x.1) (kb t)=V:=⟨_,rfl⟩;have HV:=hI hV;have Hx:=hI hx;clear hmb hpb hb ho h1' hpa hpre hJm hkm hx hx';obtain ⟨q,hq⟩:∃ q,a+m=q:=⟨_,rfl⟩;rw [hq] at hi hc4 hc5 ⊢;go_wp2
   go_quiet ((go_at_call 179;refine Calls.quiet_of_same (Hpa.out _)))
   rw [show Lib.hasPrefix x.1.data.toList t.data.toList=V from hV];cases V with
   | true =>
    go_wp2;have hpr:us.take m <+: us.takeWhile (fun e=>Lib.hasPrefix (kb e.1) (kb t)):=take_prefix us m Hr.out.1;have hpr1:us.take (m+1) <+: us.takeWhile (fun e=>Lib.hasPrefix (kb e.1) (kb t)):=take_prefix us (m+1) (fun j e hj he=>by
     by_cases hjm:j<m
     ·exact Hr.out.1 j e hjm he
     ·obtain rfl:j=m:=by omega
      have:=Hx.out;rw [he] at this;injection this with this;subst this;exact HV.out)
    have hJ2:J (us.take m) (wr.drewN (nq+1)):=abides_pure hJ Hr.out.2.1 ((Kept.refl _ _).drewN (nq+1));have hlp:(us.take m).length<(us.takeWhile (fun e=>Lib.hasPrefix (kb e.1) (kb t))).length:=by
     have:=hpr1.length_le;rw [List.length_take] at this ⊢;omega
    have htk:us.take m++[x]=us.take (m+1):=by rw [List.take_add_one,Hx.out];rfl
    obtain ⟨fn,tmps,assign,body,hy,hR⟩:=HY.out _ x _ hJ2 hlp;rw [htk] at hR;have hR2:RoundIn Fence.wide (n-1) Tryz.prog l fn tmps assign body (wr.drewN (nq+1)) fun e W'=>∃ b,e = .returned (.bool b)∧Hid ((b=true∧J (us.take (m+1)) W'∧Kept S (wr.drewN (nq+1)) W')∨(b=false∧Jx (us.take (m+1)) W')):=hR.mono (fun e W' h=>by
     rcases h with ⟨h1,h2,h3⟩|⟨h1,h2⟩
     ·exact ⟨true,h1,hI (.inl ⟨rfl,h2,h3⟩)⟩
     ·exact ⟨false,h1,hI (.inr ⟨rfl,h2⟩)⟩)
    have HR:=hI hR2;have Hp1:=hI hpr1;have hy':(Instr.yield l #[.string x.1,(Value.int .i64) x.2]).run Tryz.prog (wr.drewN (nq+1)) = .ok (.round l fn tmps assign body) (wr.drewN (nq+1)):=hy;clear hpr hpr1 hJ2 hlp htk hy hR hR2 hJ hJ1 h0 hd hmS hpS hk1 hV;refine (wpIn_wide (n:=n)).1 ?_
    gi_region_with ((refine HR.out.mono ?_;rintro e W3 ⟨b,rfl,hb⟩))
    all_goals (
     rcases hb.out with ⟨rfl,hJ3,hk3⟩|⟨rfl,hJx3⟩
     ·go_wp2
      go_roundw
      case rel =>
       refine ⟨m+1,by first|(congr 1;omega)|go_num,by omega,⟨fun j e hj he=>?_,hJ3,(Hr.out.2.2.drewN _).same hk3⟩⟩
       by_cases hjm:j<m
       ·exact Hr.out.1 j e hjm he
       ·obtain rfl:j=m:=by omega
        have:=Hx.out;rw [he] at this;injection this with this;subst this;exact HV.out
      case measure=>simp [intOf];omega
     ·go_wp2
      refine bodyPost_ret (results_none rfl _ _ _) rfl ?_;exact ⟨⟨_,rfl⟩,.inr ⟨_,Hp1.out,hJx3⟩⟩)
   | false =>
    go_wp2
    go_end0
    refine ⟨⟨_,rfl⟩,.inl ⟨_,rfl,?_⟩⟩;rw [takeWhile_all us m hm Hr.out.1 (fun e he=>by
     have:=Hx.out;rw [he] at this;injection this with this;subst this;exact HV.out)]
    exact abides_pure hJ Hr.out.2.1 ((Kept.refl _ _).drewN nq)
  ·obtain rfl:m=us.length:=by omega
   have hi:((a+us.length:Nat):Int)=(es.length:Int):=by omega
   obtain ⟨q,hq⟩:∃ q,a+us.length=q:=⟨_,rfl⟩;rw [hq] at hi ⊢;obtain rfl:q=es.length:=by omega
   have hd1:decide ((es.length:Int)<(es.length:Int))=false:=by simp
   clear hmb hpb hb ho h1' hpre hJm hkm hi;go_wp2
   go_quiet (fail)
   go_wp2
   go_end0
   refine ⟨⟨_,rfl⟩,.inl ⟨_,rfl,?_⟩⟩;have:=Hr.out.2.1;rw [List.take_length] at this;rw [takeWhile_all us us.length (Nat.le_refl _) Hr.out.1 (fun e he=>by have:=(List.getElem?_eq_some_iff.1 he).1;omega),List.take_length]
   exact abides_pure hJ this ((Kept.refl _ _).drewN _)
theorem i_under (w:World) (g:Nat) (t:ByteArray):Calls Tryz.prog 129 #[.pointer (some ⟨g,0,none⟩),.string t] w fun e w' =>
  e = .returned (.func (.func 178) #[] #[.pointer (some ⟨w.heap.size,0,none⟩),.pointer (some ⟨w.heap.size+1,0,none⟩)])∧w'=(w.alloc (.cells #[.pointer (some ⟨g,0,none⟩)] 158)).alloc (.cells #[.string t] 9):=by
 go_enter Tryz.func129,Tryz.ntmps129
 go_wp2;go_ret;exact ⟨rfl,rfl⟩
theorem i_stops (n:Nat) (hn:1≤n) (Bm Bp g:Nat) (S F:Nat→Prop) (es:List (En Int)) (t:ByteArray) (w:World)
  (hm:Blk w Bm 158 #[.pointer (some ⟨g,0,none⟩)]) (hmS:¬S Bm) (hp:Blk w Bp 9 #[.string t]) (hpS:¬S Bp) (h:Mpi w F g es) (hd:∀ b,F b→¬S b) :
  SeqStopsK Fence.wide n Tryz.prog 178 #[.pointer (some ⟨Bm,0,none⟩),.pointer (some ⟨Bp,0,none⟩)] (encE (α:=Int) (Value.int .i64)) (Kept S) (fun ys=>ys=underE es (kb t)) (fun pre=>pre <+: underE es (kb t)) (underE es (kb t)).length w :=
 fun l J Jx W hW hJ _ hY h0 =>
  have hk:Pure w W:=Pure.of_below hW
  i_under1 n hn l Bm Bp g S F es t J Jx W hJ hY (hm.kept hk (fun h=>h)) hmS (hp.kept hk (fun h=>h)) hpS (h.kept hk (fun _ _ _ h=>h)) (fun b _=>hd b) h0
end
end Go.Proofs.YtjfpfeapbcjioaaGreat
