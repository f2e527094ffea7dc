/-
  The texts of this claim, put together: CoOp.
-/
import Derived.Test.YtjfpfeapbcjioaaGreatRows
import Derived.Test.YtjfpfeapbcjioaaGreatZOpen2
import Derived.Test.YtjfpfeapbcjioaaGreatZCoKE
set_option linter.unusedSimpArgs false
set_option linter.unusedVariables false
set_option maxHeartbeats 12800000
set_option maxRecDepth 100000
namespace Go.Proofs.YtjfpfeapbcjioaaGreat
section
open Go.RowKit
abbrev Lt (w:World):Nat→Prop:=fun b=>b<w.heap.size
def I64 (z:Int):Prop:=-9223372036854775808≤z∧z≤9223372036854775807
def OpR.Fits (o:OpR):Prop:=o.uid.size≤maxLen∧o.card.size≤maxLen∧I64 o.cond.kind∧I64 o.cond.version
def Rq.Fits (q:Rq):Prop:=I64 q.kind∧q.tenant.size≤maxLen∧q.col.size≤maxLen∧q.uid.size≤maxLen∧q.card.size≤maxLen∧I64 q.cond.kind∧I64 q.cond.version∧(∀ o∈q.ops,o.Fits)∧I64 q.token∧I64 q.most∧I64 q.ticks
structure RqA where
 q:Rq
 A:Option Addr
 c:Nat
abbrev RqA.row (a:RqA):Array Value:=a.q.cells a.A a.q.ops.length a.c
def RqA.cells (a:RqA):List Value:=a.row.toList
structure RqA.Ok (w:World) (a:RqA):Prop where
 fit:a.q.Fits
 ops:Sl w (Lt w) 5 a.A a.q.ops.length (a.q.ops.flatMap OpR.cells)
 lc:a.q.ops.length≤a.c
 cm:a.c≤maxLen
section
variable {H:Type} {enc:TypeId×Value→H} {W:World}
theorem open_cond {cs:List Value} (h:Tr enc Tryz.prog W 30 cs):∃ z:Cn,cs=[.int .i64 z.kind,.int .i64 z.version]∧I64 z.kind∧I64 z.version:=by
 obtain ⟨hl,hf⟩:=h.fields Tryz.underlying30;obtain ⟨a,e0,b0⟩:=(hf 0 _ rfl).int Tryz.underlying3;obtain ⟨b,e1,b1⟩:=(hf 1 _ rfl).int Tryz.underlying2;have hl:cs.length=2:=hl;have h1:=pcs_zero (cs:=cs) (ks:=[1,1]) hl;simp only [pcs] at h1;refine ⟨⟨a,b⟩,?_,b0,b1⟩;rw [h1];have e0:(cs.drop 0).take 1=_:=e0;have e1:(cs.drop (0+1)).take 1=_:=e1;rw [e0,e1];rfl
theorem open_op {cs:List Value} (h:Tr enc Tryz.prog W 58 cs):∃ o:OpR,cs=o.cells∧o.Fits:=by
 obtain ⟨hl,hf⟩:=h.fields Tryz.underlying58;obtain ⟨a,e0⟩:=(hf 0 _ rfl).bool Tryz.underlying4;obtain ⟨b,e1,b1⟩:=(hf 1 _ rfl).str Tryz.underlying9;obtain ⟨c,e2,b2⟩:=(hf 2 _ rfl).str Tryz.underlying9;obtain ⟨d,e3,b3⟩:=open_cond (hf 3 _ rfl);have hl:cs.length=5:=hl;have h1:=pcs_zero (cs:=cs) (ks:=[1,1,1,2]) hl;simp only [pcs] at h1;refine ⟨⟨a,b,c,d⟩,?_,b1,b2,b3⟩;rw [h1];have e0:(cs.drop 0).take 1=_:=e0
 have e1:(cs.drop (0+1)).take 1=_:=e1;have e2:(cs.drop (0+1+1)).take 1=_:=e2;have e3:(cs.drop (0+1+1+1)).take 2=_:=e3;rw [e0,e1,e2,e3];rfl
theorem open_ops {cs:List Value} (h:Tr enc Tryz.prog W 27 cs):∃ (A:Option Addr) (c:Nat) (l:List OpR),cs=[.slice A l.length c]∧Sl W (Lt W) 5 A l.length (l.flatMap OpR.cells)∧l.length≤c∧c≤maxLen∧∀ o∈l,o.Fits :=
 h.rows Tryz.underlying27 (by kernel_rfl) (by omega) OpR.cells_len (fun cs h=>open_op h)
theorem open_req {cs:List Value} (h:Tr enc Tryz.prog W 32 cs):∃ a:RqA,cs=a.cells∧a.Ok W:=by
 obtain ⟨hl,hf⟩:=h.fields Tryz.underlying32;obtain ⟨a0,e0,b0⟩:=(hf 0 _ rfl).int Tryz.underlying3;obtain ⟨a1,e1,b1⟩:=(hf 1 _ rfl).str Tryz.underlying9;obtain ⟨a2,e2,b2⟩:=(hf 2 _ rfl).str Tryz.underlying9;obtain ⟨a3,e3,b3⟩:=(hf 3 _ rfl).str Tryz.underlying9;obtain ⟨a4,e4,b4⟩:=(hf 4 _ rfl).str Tryz.underlying9;obtain ⟨a5,e5,b5⟩:=open_cond (hf 5 _ rfl);obtain ⟨A,c,l,e6,hs,hlc,hcm,b6⟩:=open_ops (hf 6 _ rfl)
 obtain ⟨a7,e7,b7⟩:=(hf 7 _ rfl).int Tryz.underlying2;obtain ⟨a8,e8,b8⟩:=(hf 8 _ rfl).int Tryz.underlying3;obtain ⟨a9,e9,b9⟩:=(hf 9 _ rfl).int Tryz.underlying3;have hl:cs.length=11:=hl;have h1:=pcs_zero (cs:=cs) (ks:=[1,1,1,1,1,2,1,1,1,1]) hl;simp only [pcs] at h1;refine ⟨⟨⟨a0,a1,a2,a3,a4,a5,l,a7,a8,a9⟩,A,c⟩,?_,⟨b0,b1,b2,b3,b4,b5.1,b5.2,b6,b7,b8,b9⟩,hs,hlc,hcm⟩;rw [h1];have e0:(cs.drop 0).take 1=_:=e0
 have e1:(cs.drop (0+1)).take 1=_:=e1;have e2:(cs.drop (0+1+1)).take 1=_:=e2;have e3:(cs.drop (0+1+1+1)).take 1=_:=e3;have e4:(cs.drop (0+1+1+1+1)).take 1=_:=e4;have e5:(cs.drop (0+1+1+1+1+1)).take 2=_:=e5;have e6:(cs.drop (0+1+1+1+1+1+2)).take 1=_:=e6;have e7:(cs.drop (0+1+1+1+1+1+2+1)).take 1=_:=e7;have e8:(cs.drop (0+1+1+1+1+1+2+1+1)).take 1=_:=e8;have e9:(cs.drop (0+1+1+1+1+1+2+1+1+1)).take 1=_:=e9
 rw [e0,e1,e2,e3,e4,e5,e6,e7,e8,e9];rfl
structure AsA where
 tenant:ByteArray
 r:RqA
def AsA.cells (a:AsA):List Value:=.string a.tenant::a.r.cells
theorem AsA.cells_len (a:AsA):a.cells.length=12:=rfl
def AsA.Ok (w:World) (a:AsA):Prop:=a.tenant.size≤maxLen∧a.r.Ok w
theorem open_ask {cs:List Value} (h:Tr enc Tryz.prog W 39 cs):∃ a:AsA,cs=a.cells∧a.Ok W:=by
 obtain ⟨hl,hf⟩:=h.fields Tryz.underlying39;obtain ⟨a0,e0,b0⟩:=(hf 0 _ rfl).str Tryz.underlying9;obtain ⟨a1,e1,b1⟩:=open_req (hf 1 _ rfl);have hl:cs.length=12:=hl;have h1:=pcs_zero (cs:=cs) (ks:=[1,11]) hl;simp only [pcs] at h1;refine ⟨⟨a0,a1⟩,?_,b0,b1⟩;rw [h1];have e0:(cs.drop 0).take 1=_:=e0;have e1:(cs.drop (0+1)).take 11=_:=e1;rw [e0,e1];simp [AsA.cells]
theorem open_asksV {r0:Reach} {b0:Nat} {v:Value} {d:DataW H} {p:List MemPlace} (hv:Value.okWide Tryz.prog W r0 b0 26 v) (h:DataW.Trod enc Tryz.prog W 0 (fun _=>true) true 26 v d p) :
  ∃ (A:Option Addr) (c:Nat) (l:List AsA),v = .slice A l.length c∧Sl W (Lt W) 12 A l.length (l.flatMap AsA.cells)∧l.length≤c∧c≤maxLen∧∀ a∈l,a.Ok W:=by
 obtain ⟨A,c,l,e,h1,h2,h3,h4⟩:=(Tr.slice Tryz.underlying26 hv h).rows Tryz.underlying26 (by kernel_rfl) (by omega) AsA.cells_len (fun cs h=>open_ask h)
 injection e with e
 exact ⟨A,c,l,e,h1,h2,h3,h4⟩
theorem open_opsV {r0:Reach} {b0:Nat} {v:Value} {d:DataW H} {p:List MemPlace} (hv:Value.okWide Tryz.prog W r0 b0 27 v) (h:DataW.Trod enc Tryz.prog W 0 (fun _=>true) true 27 v d p) :
  ∃ (A:Option Addr) (c:Nat) (l:List OpR),v = .slice A l.length c∧Sl W (Lt W) 5 A l.length (l.flatMap OpR.cells)∧l.length≤c∧c≤maxLen∧∀ o∈l,o.Fits:=by
 obtain ⟨A,c,l,e,h1,h2,h3,h4⟩:=open_ops (Tr.slice Tryz.underlying27 hv h);injection e with e;exact ⟨A,c,l,e,h1,h2,h3,h4⟩
end
end
end Go.Proofs.YtjfpfeapbcjioaaGreat
