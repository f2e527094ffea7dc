/-
  The texts of this claim, put together: RowD, RowS.
-/
import Derived.Deep.RegionLaw
import Derived.Test.YtjfpfeapbcjioaaGreatZRowK
import Derived.Laws.CopyRow
import Derived.Laws.CopyOwn
import Derived.Test.YtjfpfeapbcjioaaGreatZBlk
set_option linter.unusedSimpArgs false
set_option linter.unusedVariables false
set_option maxHeartbeats 12800000
set_option maxRecDepth 100000
namespace Go.Proofs.YtjfpfeapbcjioaaGreat
section
open Go.RowKit
theorem own_row {w:World} {F:Nat→Prop} {E:TypeId} {k n c:Nat} {A:Option Addr} {xs:List Value} (h:Own w F E k (.slice A n c) n xs) (h0:0<n) :
  ∃ g cur,A=some ⟨g,0,none⟩∧F g∧Blk w g E cur∧n≤c∧c≤maxLen∧cur.size=c*k∧cur.toList.take (n*k)=xs:=by
 obtain ⟨h1,h2⟩:=h;rcases h1.2 with ⟨h3,h4⟩|⟨g,cap,cur,h3,_,hg,hc,hm,hs,ht⟩
 ·omega
 ·injection h3 with h3 _ h5
  subst h5 h3;exact ⟨g,cur,rfl,h2 g rfl,hg,hc,hm,hs,ht⟩
theorem setRow_blk {w:World} {g:Nat} {t:TypeId} {cur:Array Value} (h:Blk w g t cur) (cs:Array Value):Blk (w.setRow g cs) g t cs:=setRow_heap w g cur cs t (0,0) h
def DelP (E:TypeId) (k:Nat) (F:Nat→Prop) (n':Nat) (ys:List Value) (w:World) (r:Ending) (w':World):Prop :=
 ∃ A' c',r = .returned (.slice A' n' c')∧Own w' (fun b=>F b∨w.heap.size≤b) E k (.slice A' n' c') n' ys∧Kept F w w'
end
section
open Go.RowKit
section
variable {P:Program} {w:World} {ops:Array Oper} {rest:List Oper} {o:Oper} {a:Act} {Q:Exit→Act→World→Prop}
theorem run_storeVar_at (w:World) (g off:Nat) (t ty:TypeId) (old:Array Value) (v:Value) (vs:List Value) (hv:v.cells.toList=vs) (hg:w.heap[g]? = some (.cells old t (0,0))) (hi:(P.info? ty).map (·.size)=some vs.length)
  (ho:off+vs.length≤old.size) (h1:∀ u∈vs,u.oneCell'=true):(storeVar ty ⟨g,off,none⟩ v).run P w = .ok () (w.setRow g (splice old.toList off vs).toArray):=by
 have:=run_storeCells_at P g off t vs 0 old w hg (by simpa using ho) h1
 cases hq:P.info? ty with
 | none=>simp [hq] at hi
 | some i =>
  have hs:vs.length=i.size:=by simp [hq] at hi;omega
  have hvs:v.cells.size=i.size:=by rw [←hs,←hv];simp
  simp only [Nat.add_zero] at this;simp [storeVar,sizeOf,typeInfo,hq,hv,hvs,this,splice]
theorem wp_store_at (hgd:o.guard=none) (ty:TypeId) (x y:Operand) (ho:o.op = .store ty x y) {g off:Nat} (hx:a.eval x = .pointer (some ⟨g,off,none⟩)) {v:Value} (hy:a.eval y=v) {vs:List Value} (hv:v.cells.toList=vs)
  {t:TypeId} {old:Array Value} (hb:Blk w g t old) (hfit:off+vs.length≤old.size) (hi:(P.info? ty).map (·.size)=some vs.length) (h1:∀ u∈vs,u.oneCell'=true)
  (hdst:o.dst=none) (h:∀ w',Blk w' g t (splice old.toList off vs).toArray→Kept (· = g) w w'→wpList P ops Q rest a w'):wpList P ops Q (o::rest) a w :=
 wpList_plain hgd fun K hK=>by
  have h':=h _ (setRow_heap w g old (splice old.toList off vs).toArray t (0,0) hb) (setRow_kept w g _);have:=hK (a.put o.dst undef) (w.setRow g (splice old.toList off vs).toArray) (by rw [hdst];exact h')
  unfold Oper.wp execOp;simp only [ho,hx,hy,Instr.storeAt,Instr.sureAddr,Sem.run_bind,Sem.run_pure,Result.andThen_ok,run_storeVar_at w g off t ty old v vs hv hb hi hfit h1];exact this
end
end
end Go.Proofs.YtjfpfeapbcjioaaGreat
