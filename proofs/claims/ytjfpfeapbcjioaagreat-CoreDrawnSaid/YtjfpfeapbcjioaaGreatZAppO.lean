/-
  The texts of this claim, put together: AppO.
-/
import Derived.Test.YtjfpfeapbcjioaaGreatZOwnO
import Derived.Test.YtjfpfeapbcjioaaGreatZFree
import Derived.Test.YtjfpfeapbcjioaaGreatZTn
set_option linter.unusedSimpArgs false
set_option linter.unusedVariables false
set_option maxHeartbeats 12800000
set_option maxRecDepth 100000
namespace Go.Proofs.YtjfpfeapbcjioaaGreat
section
open Go.RowKit
section
variable {P:Program} {w:World} {F G:Nat→Prop} {e:TypeId} {k n:Nat} {v:Value} {xs:List Value}
theorem run_appO' {t ty:TypeId} {z:Value} {by_:Nat} (ht:P.underlying t=some (.slice e)) (hI:(P.info? e).map (fun i=>(i.zero,i.size,i.bytes))=some (some z,k,by_)) (hzs:z.cells.size=k) (hk:0<k)
  (hown:OwnO w F e k v n xs) {A:Option Addr} {m c:Nat} {news:List Value} (hr:Sl w G k A m news) (h1:∀ u∈news,u.oneCell'=true)
  (hbytes:n+m≤1073741824) (hb2:by_≤65536) :
  ∃ v' w',(Builtin.append_ #[t,t] ty #[v,.slice A m c]).run P w = .ok v' w'∧OwnO w' (fun g=>F g∨w.heap.size≤g) e k v' (n+m) (xs++news)∧Kept F w w':=by
 rcases Nat.eq_zero_or_pos m with h0|h0
 ·subst h0
  have hn:news=[]:=List.eq_nil_of_length_eq_zero (by simpa using hr.1)
  subst hn;obtain ⟨i,hi,hz,hsize,hby⟩:=info_parts hI;refine ⟨v,w,?_,by simpa using hown.imp (fun _ _ h=>.inl h),Kept.refl _ _⟩
  obtain ⟨A1,c1,rfl,hc1,_,_⟩:=hown.form;cases A with
  | none=>cases A1 <;> simp [Builtin.append_,run_underlying ht,sizeOf,typeInfo,hi,Builtin.lenOf,Builtin.firstCells,hc1,storeCells]
  | some ad=>cases A1 <;> simp [Builtin.append_,run_underlying ht,sizeOf,typeInfo,hi,Builtin.lenOf,Builtin.firstCells,loadCells,loadCellsFrom,hc1,storeCells]
 ·exact run_appO ht hI hzs hk hown hr h1 h0 hbytes hb2
theorem up_appO {N:Value→World→Prop} {o:Oper} {a:Act} {t:TypeId} {z:Value} {by_:Nat} (ht:P.underlying t=some (.slice e)) (hI:(P.info? e).map (fun i=>(i.zero,i.size,i.bytes))=some (some z,k,by_)) (hzs:z.cells.size=k) (hk:0<k)
  (hown:OwnO w F e k v n xs) {A:Option Addr} {m c:Nat} {news:List Value} (hr:Sl w G k A m news) (h1:∀ u∈news,u.oneCell'=true)
  (hbytes:n+m≤1073741824) (hb2:by_≤65536)
  (s x:Operand) (ho:o.op = .call { callee:=.builtin .append,args:=#[s,x],argTypes:=#[t,t] }) (hs:a.eval s=v) (hx:a.eval x = .slice A m c)
  (h:∀ v' w',OwnO w' (fun g=>F g∨w.heap.size≤g) e k v' (n+m) (xs++news)→Kept F w w'→N v' w'):upN P N ((execOp a.eval o).run P w):=by
 obtain ⟨v',w',hrun,h2,h3⟩:=run_appO' (P:=P) (ty:=o.type) ht hI hzs hk hown hr h1 hbytes hb2;unfold execOp;simp only [ho,resolve,invoke,builtin,Sem.run_bind,Sem.run_pure,Result.andThen_ok,List.map_toArray,List.map_cons,List.map_nil,hs,hx];rw [hrun];exact h v' w' h2 h3
theorem Run.upApp {w₀:World} {Ps:List Ch} (hR:Run w₀ F w Ps) (i:Nat) (hi:Ps[i]? = some (ownOC e k v n xs)) {N:Value→World→Prop} {o:Oper} {a:Act} {t:TypeId} {z:Value} {by_:Nat} (ht:P.underlying t=some (.slice e)) (hI:(P.info? e).map (fun i=>(i.zero,i.size,i.bytes))=some (some z,k,by_)) (hzs:z.cells.size=k) (hk:0<k)
  {A:Option Addr} {m c:Nat} {news:List Value} (hr:Sl w G k A m news) (h1:∀ u∈news,u.oneCell'=true)
  (hbytes:n+m≤1073741824) (hb2:by_≤65536)
  (s x:Operand) (ho:o.op = .call { callee:=.builtin .append,args:=#[s,x],argTypes:=#[t,t] }) (hs:a.eval s=v) (hx:a.eval x = .slice A m c)
  (h:∀ v' w',(∃ A' c',v' = .slice A' (n+m) c'∧n+m≤c'∧c'≤maxLen)→Run w₀ F w' (Ps.set i (ownOC e k v' (n+m) (xs++news)))→N v' w'):upN P N ((execOp a.eval o).run P w):=by
 obtain ⟨G',_,h2,h3⟩:=hR.at i hi;refine up_appO ht hI hzs hk h2 hr h1 hbytes hb2 s x ho hs hx fun v' w' h4 h5=>h v' w' ?_ (h3 _ (ownOC e k v' (n+m) (xs++news)) h4 h5);obtain ⟨A',c',e1,e2,e3,_⟩:=h4.form;exact ⟨A',c',e1,e2,e3⟩
theorem OwnO.cut0 {A:Option Addr} {c:Nat} (h:OwnO w F e k (.slice A n c) n xs):OwnO w F e k (.slice A 0 0) 0 []:=by
 obtain ⟨h1,⟨h2,_⟩|⟨g,o,cap,cur,h2,hF,hb,hc,hm,hs,ht⟩⟩:=h
 ·injection h2 with e1 _ _
  subst e1;exact ⟨by simp,.inl ⟨rfl,rfl⟩⟩
 ·injection h2 with e1 _ e3
  subst e1 e3;exact ⟨by simp,.inr ⟨g,o,0,cur,rfl,hF,hb,Nat.le_refl _,Nat.zero_le _,by omega,by simp⟩⟩
end
end
end Go.Proofs.YtjfpfeapbcjioaaGreat
