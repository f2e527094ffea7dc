/-
  The texts of this claim, put together: ClN.
-/
import Derived.Maps.OwnIn
import Derived.Maps.OwnOps
import Derived.Maps.Views
import Derived.LoopTactic
import Derived.Test.YtjfpfeapbcjioaaGreatZRi
import Derived.Test.YtjfpfeapbcjioaaGreatZClT
set_option linter.unusedSimpArgs false
set_option linter.unusedVariables false
set_option maxHeartbeats 12800000
set_option maxRecDepth 100000
namespace Go.Proofs.YtjfpfeapbcjioaaGreat
section
open Go.RowKit
open Go.Maps (Keyed string_keyed)
def cntU (us:List ByteArray) (u:ByteArray):Nat:=(us.filter fun v=>decide (v=u)).length
theorem cntU_snoc_same (us:List ByteArray) (u:ByteArray):cntU (us++[u]) u=cntU us u+1:=by simp [cntU]
theorem cntU_snoc_other (us:List ByteArray) {u v:ByteArray} (h:¬v=u):cntU (us++[v]) u=cntU us u:=by simp [cntU,h]
theorem cntU_le (us:List ByteArray) (u:ByteArray):cntU us u≤us.length:=List.length_filter_le _ _
theorem cntU_zero {us:List ByteArray} {u:ByteArray}:cntU us u=0↔u∉us:=by
 unfold cntU;rw [List.length_eq_zero_iff,List.filter_eq_nil_iff];constructor
 ·intro h hu;exact (by simpa using h u hu)
 ·intro h v hv;simp;rintro rfl;exact h hv
def SeenM (W:World) (b:Nat) (us:List ByteArray):Prop :=
 ∃ D:DataW Unit,W.ownsMap Tryz.prog 9 (plainElem Tryz.prog 3) b us.length D∧Maps.IsMap D∧∀ u:ByteArray,D.atKey (.string u.data.toList) (.lit (.int .i64 0)) = .lit (.int .i64 (cntU us u:Nat))
theorem SeenM.kept {W W':World} {b:Nat} {us:List ByteArray} {S:Nat→Prop} (h:SeenM W b us) (hk:Kept S W W') (hS:¬S b):SeenM W' b us:=by
 obtain ⟨D,⟨es,clock,hb,F,hs,hD⟩,h2,h3⟩:=h;exact ⟨D,⟨es,clock,(hk.block b (Array.getElem?_eq_some_iff.1 hb).1 hS).trans hb,F,hs,hD⟩,h2,h3⟩
theorem SeenM.grown {W W':World} {b:Nat} {us:List ByteArray} {row:Option Nat} (h:SeenM W b us) (hg:W.grownBy W' row) (hne:some b≠row):SeenM W' b us:=by
 obtain ⟨D,h1,h2,h3⟩:=h;exact ⟨D,h1.kept hg hne,h2,h3⟩
theorem SeenM.new (w:World):SeenM (w.alloc (.map #[] 0)) w.heap.size []:=⟨.map [],World.ownsMap_made _ _ _ _,Maps.isMap_empty,fun u=>by simp [cntU,DataW.atKey]⟩
theorem zeroInt (w:World):(zeroValue 3).run Tryz.prog w = .ok (.int .i64 0) w:=Tryz.zeroValue3 w
theorem seen_get {W:World} {b:Nat} {us:List ByteArray} (h:SeenM W b us) (u:ByteArray) (hu:u.size≤maxLen):(Instr.lookup 247 (.map (some b)) (.string u) false).run Tryz.prog W = .ok (.int .i64 (cntU us u:Nat)) W:=by
 obtain ⟨D,h1,h2,h3⟩:=h;obtain ⟨c,hrun,hat,_⟩:=h1.lookup_int (string_keyed Tryz.underlying9) Tryz.underlying247 Tryz.underlying3 (zeroInt W) (WideMaps.keyOf_string_mk Tryz.underlying9 hu);rw [h3 u] at hat;injection hat with hat;injection hat with _ hat;rw [hrun,←hat]
theorem seen_put {W:World} {b:Nat} {us:List ByteArray} (h:SeenM W b us) (u:ByteArray) (hu:u.size≤maxLen) (hz:us.length≤100000):∃ W',(Instr.mapUpdate 247 (.map (some b)) (.string u) (.int .i64 ((cntU us u:Nat)+1))).run Tryz.prog W = .ok () W'∧SeenM W' b (us++[u])∧W.grownBy W' (some b):=by
 obtain ⟨D,h1,h2,h3⟩:=h;have hc:=cntU_le us u;have hwf:(Lit.int .i64 ((cntU us u:Nat)+1)).wf=true:=WalkArith.wf_i64 (by omega)
 obtain ⟨W',hrun,ho,hg⟩:=h1.update (string_keyed Tryz.underlying9) Tryz.underlying247 (by unfold maxLen;omega) (WideMaps.keyOf_string_mk Tryz.underlying9 hu) (plainElem_int Tryz.underlying3 hwf)
 refine ⟨W',hrun,⟨_,by simpa using ho,h2.put _ _,fun v=>?_⟩,hg⟩
 by_cases hv:u=v
 ·subst hv
  rw [cntU_snoc_same];exact Maps.atKey_put_same (k:=.string u.data.toList) h2 (show WideAt.IsKeyLit (.string u.data.toList) from True.intro) _ _
 ·have hne:(Lit.string v.data.toList)≠Lit.string u.data.toList:=by
   intro e;have e2:=Lit.string.inj e;exact hv (ByteArray.ext (Array.toList_inj.1 e2)).symm
  rw [cntU_snoc_other us hv,←h3 v];exact Maps.atKey_put_other hne _ _
def Cl.itOf (c:Cl) (x:Cg):It:=match c.get x.uid with|some v=>⟨x.uid,v.version,false,v.text⟩|none=>⟨x.uid,x.token,true,⟨#[]⟩⟩
def Cl.stepS (c:Cl) (token:Int) (s:List ByteArray×List It) (x:Cg):List ByteArray×List It:=(s.1++[x.uid],if x.token≤token∨0<cntU s.1 x.uid then s.2 else s.2++[c.itOf x])
def Cl.foldS (c:Cl) (token:Int) (l:List Cg):List ByteArray×List It:=l.foldl (c.stepS token) ([],[])
theorem foldS_snoc (c:Cl) (token:Int) (l:List Cg) (x:Cg):c.foldS token (l++[x])=c.stepS token (c.foldS token l) x:=by simp [Cl.foldS]
theorem foldS_us (c:Cl) (token:Int) (l:List Cg):(c.foldS token l).1=l.map (·.uid):=by
 have:∀ (l:List Cg) (s:List ByteArray×List It),(l.foldl (c.stepS token) s).1=s.1++l.map (·.uid):=by
  intro l
  induction l with
  | nil=>intro s;simp
  | cons x l ih=>intro s;simp [ih,Cl.stepS]
 simpa [Cl.foldS] using this l ([],[])
theorem foldS_len (c:Cl) (token:Int) (l:List Cg):(c.foldS token l).2.length≤l.length:=by
 have:∀ (l:List Cg) (s:List ByteArray×List It),(l.foldl (c.stepS token) s).2.length≤s.2.length+l.length:=by
  intro l
  induction l with
  | nil=>intro s;simp
  | cons x l ih =>
   intro s;have:=ih (c.stepS token s x);simp only [List.foldl_cons,List.length_cons];have h2:(c.stepS token s x).2.length≤s.2.length+1:=by unfold Cl.stepS;simp only;split <;> simp
   omega
 simpa [Cl.foldS] using this l ([],[])
theorem itOf_uid (c:Cl) (x:Cg):(c.itOf x).uid=x.uid:=by unfold Cl.itOf;split <;> rfl
theorem foldS_uids (c:Cl) (token:Int) (l:List Cg):((c.foldS token l).2.map (·.uid)).Nodup∧∀ u∈(c.foldS token l).2.map (·.uid),u∈(c.foldS token l).1:=by
 have:∀ (l:List Cg) (s:List ByteArray×List It),((s.2.map (·.uid)).Nodup∧∀ u∈s.2.map (·.uid),u∈s.1)→(((l.foldl (c.stepS token) s).2.map (·.uid)).Nodup∧∀ u∈(l.foldl (c.stepS token) s).2.map (·.uid),u∈(l.foldl (c.stepS token) s).1):=by
  intro l
  induction l with
  | nil=>intro s h;exact h
  | cons x l ih =>
   intro s h;refine ih _ ?_;unfold Cl.stepS;simp only
   split
   ·exact ⟨h.1,fun u hu=>List.mem_append_left _ (h.2 u hu)⟩
   ·rename_i hn
    have hn':x.uid∉s.1:=cntU_zero.1 (by have:=fun e=>hn (.inr e);omega)
    rw [List.map_append,List.map_singleton,itOf_uid];refine ⟨List.nodup_append.2 ⟨h.1,by simp,fun a ha b hb e=>?_⟩,fun u hu=>?_⟩
    ·simp at hb;subst hb;subst e;exact hn' (h.2 _ ha)
    ·rcases List.mem_append.1 hu with hu|hu
     ·exact List.mem_append_left _ (h.2 u hu)
     ·exact List.mem_append_right _ hu
 exact this l ([],[]) ⟨by simp,by simp⟩
def Cl.since (c:Cl) (token:Int):Int×List It:=if token=0 then (0,sortI c.live) else if token<c.horizon∨c.latest<token then (8,[]) else (0,sortI (c.foldS token c.log.reverse).2)
end
end Go.Proofs.YtjfpfeapbcjioaaGreat
