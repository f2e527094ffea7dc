/-
  The texts of this claim, put together: RwP.
-/
set_option linter.unusedSimpArgs false
set_option linter.unusedVariables false
set_option maxHeartbeats 12800000
set_option maxRecDepth 100000
namespace Go.Proofs.YtjfpfeapbcjioaaGreat
section
structure Lk where
 rd:List Int
 wr:Int
 ws:Bool
 qu:List (Int×Bool)
def Lk.none:Lk:=⟨[],0,false,[]⟩
def hasI (l:List Int) (x:Int):Bool:=l.any (fun a=>decide (a=x))
def hasQ (l:List (Int×Bool)) (x:Int):Bool:=l.any (fun a=>decide (a.1=x))
def Lk.st (k:Lk) (who:Int):Int:=if k.ws=true∧k.wr=who then 3 else if hasI k.rd who=true then 2 else if hasQ k.qu who=true then 1 else 0
def mvq (rd:List Int) (wr:Int) (ws:Bool):List (Int×Bool)→List Int×Lk
 | []=>([],⟨rd,wr,ws,[]⟩)
 | a::q =>
  if ws=true then ([],⟨rd,wr,ws,a::q⟩)
  else if a.2=true then
   if 0<rd.length then ([],⟨rd,wr,ws,a::q⟩)
   else (a.1::(mvq rd a.1 true q).1,(mvq rd a.1 true q).2)
  else (a.1::(mvq (rd++[a.1]) wr ws q).1,(mvq (rd++[a.1]) wr ws q).2)
def Lk.move (k:Lk):List Int×Lk:=mvq k.rd k.wr k.ws k.qu
def Lk.ask (k:Lk) (who:Int) (w:Bool):Bool×Lk :=
 if k.st who=0 then (decide (((Lk.move { k with qu:=k.qu++[(who,w)] }).2).st who≠1),(Lk.move { k with qu:=k.qu++[(who,w)] }).2) else (false,k)
def lessI (l:List Int) (x:Int):List Int:=l.filter (fun a=>decide (¬a=x))
def lessQ (l:List (Int×Bool)) (x:Int):List (Int×Bool):=l.filter (fun a=>decide (¬a.1=x))
def Lk.leave (k:Lk) (who:Int):List Int×Lk :=
 if k.st who=3 then Lk.move { k with ws:=false }
 else if k.st who=2 then Lk.move { k with rd:=lessI k.rd who }
 else if k.st who=1 then Lk.move { k with qu:=lessQ k.qu who }
 else ([],k)
def Lk.size (k:Lk):Nat:=k.rd.length+k.qu.length
theorem mvq_size (q:List (Int×Bool)) (rd:List Int) (wr:Int) (ws:Bool):(mvq rd wr ws q).2.rd.length+(mvq rd wr ws q).2.qu.length≤rd.length+q.length:=by
 induction q generalizing rd wr ws with
 | nil=>simp [mvq]
 | cons a q ih =>
  unfold mvq
  split
  ·simp
  ·split
   ·split
    ·simp
    ·have:=ih rd a.1 true;simp only [List.length_cons] at this ⊢;omega
   ·have:=ih (rd++[a.1]) wr ws;simp only [List.length_append,List.length_cons,List.length_nil] at this ⊢;omega
theorem move_size (k:Lk):k.move.2.size≤k.size:=mvq_size k.qu k.rd k.wr k.ws
theorem lessI_length (l:List Int) (x:Int):(lessI l x).length≤l.length:=List.length_filter_le _ _
theorem lessQ_length (l:List (Int×Bool)) (x:Int):(lessQ l x).length≤l.length:=List.length_filter_le _ _
theorem leave_size (k:Lk) (x:Int):(k.leave x).2.size≤k.size:=by
 unfold Lk.leave
 split
 ·exact move_size _
 ·split
  ·refine Nat.le_trans (move_size _) ?_
   have:=lessI_length k.rd x;simp only [Lk.size];omega
  ·split
   ·refine Nat.le_trans (move_size _) ?_
    have:=lessQ_length k.qu x;simp only [Lk.size];omega
   ·exact Nat.le_refl _
theorem ask_size (k:Lk) (x:Int) (b:Bool):(k.ask x b).2.size≤k.size+1:=by
 unfold Lk.ask
 split
 ·refine Nat.le_trans (move_size _) ?_
  simp only [Lk.size,List.length_append,List.length_cons,List.length_nil];omega
 ·exact Nat.le_succ _
theorem st_cases (k:Lk) (x:Int):k.st x=3∨k.st x=2∨k.st x=1∨k.st x=0:=by
 unfold Lk.st
 split
 ·exact .inl rfl
 ·split
  ·exact .inr (.inl rfl)
  ·split
   ·exact .inr (.inr (.inl rfl))
   ·exact .inr (.inr (.inr rfl))
end
end Go.Proofs.YtjfpfeapbcjioaaGreat
