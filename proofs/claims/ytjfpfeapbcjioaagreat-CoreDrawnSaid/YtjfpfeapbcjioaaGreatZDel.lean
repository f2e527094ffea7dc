/-
  The texts of this claim, put together: Del.
-/
import Derived.Test.YtjfpfeapbcjioaaGreatZTn
import Derived.Test.YtjfpfeapbcjioaaGreatZRowD
import Derived.Test.YtjfpfeapbcjioaaGreatZLib
set_option linter.unusedSimpArgs false
set_option linter.unusedVariables false
set_option maxHeartbeats 12800000
set_option maxRecDepth 100000
namespace Go.Proofs.YtjfpfeapbcjioaaGreat
section
open Go.RowKit
section
variable {α:Type} {f:α→List Value} {k:Nat}
theorem fm_take (hf:∀ a,(f a).length=k) (l:List α) (i:Nat):(l.take i).flatMap f=(l.flatMap f).take (i*k):=by
 induction l generalizing i with
 | nil=>simp
 | cons e l ih =>
  cases i with
  | zero=>simp
  | succ i =>
   simp only [List.take_succ_cons,List.flatMap_cons];rw [ih,show (i+1)*k=(f e).length+i*k from by rw [hf,Nat.succ_mul,Nat.add_comm],List.take_length_add_append]
theorem fm_drop (hf:∀ a,(f a).length=k) (l:List α) (i:Nat):(l.drop i).flatMap f=(l.flatMap f).drop (i*k):=by
 induction l generalizing i with
 | nil=>simp
 | cons e l ih =>
  cases i with
  | zero=>simp
  | succ i =>
   simp only [List.drop_succ_cons,List.flatMap_cons];rw [ih,show (i+1)*k=(f e).length+i*k from by rw [hf,Nat.succ_mul,Nat.add_comm],List.drop_length_add_append]
end
section
variable {α:Type} {f:α→List Value} {k:Nat}
theorem fm_set (hf:∀ a,(f a).length=k) {l:List α} {j q:Nat} {a a':α} {v:Value} (hl:l[j]? = some a) (hq:q<k) (ha:f a'=(f a).set q v):(l.set j a').flatMap f=(l.flatMap f).set (j*k+q) v:=by
 induction l generalizing j with
 | nil=>simp at hl
 | cons x l ih =>
  cases j with
  | zero =>
   simp only [List.getElem?_cons_zero,Option.some.injEq] at hl;subst hl;simp only [List.set_cons_zero,List.flatMap_cons,Nat.zero_mul,Nat.zero_add];rw [ha,List.set_append,if_pos (by rw [hf];exact hq)]
  | succ j =>
   simp only [List.set_cons_succ,List.flatMap_cons];rw [ih (by simpa using hl),List.set_append,if_neg (by rw [hf,Nat.succ_mul];omega)]
   congr 2
   rw [hf,Nat.succ_mul];omega
end
theorem Own.setN {w:World} {F:Nat→Prop} {e:TypeId} {k n c g:Nat} {xs:List Value} (h:Own w F e k (.slice (some ⟨g,0,none⟩) n c) n xs) (j:Nat) (u:Value):Own (w.setCell ⟨g,j,none⟩ u) F e k (.slice (some ⟨g,0,none⟩) n c) n (xs.set j u)∧Kept F w (w.setCell ⟨g,j,none⟩ u):=by
 obtain ⟨⟨h1,h⟩,hF⟩:=h;have hFg:F g:=hF g rfl;refine ⟨⟨⟨by simpa using h1,.inr ?_⟩,hF⟩,(Kept.refl F w).setCell (p:=⟨g,j,none⟩) (.inl hFg) u⟩
 rcases h with ⟨h,_⟩|⟨g',cap,cur,h,hb,hg,hc,hm,hs,ht⟩
 ·cases h
 ·injection h with h2 h3 h4
  injection h2 with h2
  injection h2 with h2
  subst h2 h4;refine ⟨g,c,cur.setIfInBounds j u,rfl,hb,Blk.set (g:=g) hg j u,hc,hm,by simpa using hs,?_⟩
  rw [←ht,Array.toList_setIfInBounds,List.take_set]
theorem Run.setN {w₀ w:World} {F:Nat→Prop} {Ps:List Ch} {e:TypeId} {k n c g:Nat} {xs:List Value} (h:Run w₀ F w Ps) (i:Nat) (hi:Ps[i]? = some (ownC e k (.slice (some ⟨g,0,none⟩) n c) n xs)) (j:Nat) (u:Value):Run w₀ F (w.setCell ⟨g,j,none⟩ u) (Ps.set i (ownC e k (.slice (some ⟨g,0,none⟩) n c) n (xs.set j u))):=by
 obtain ⟨G,_,h2,h3⟩:=h.at i hi;obtain ⟨k1,k2⟩:=Own.setN h2 j u;exact h3 _ _ (k1.imp (fun b _ h=>.inl h)) k2
theorem Own.head {w:World} {F:Nat→Prop} {e:TypeId} {k n c:Nat} {A:Option Addr} {xs:List Value} (h:Own w F e k (.slice A n c) n xs) (h0:0<n):∃ g,A=some ⟨g,0,none⟩:=by
 obtain ⟨g,cur,rfl,_⟩:=own_row h h0;exact ⟨g,rfl⟩
end
end Go.Proofs.YtjfpfeapbcjioaaGreat
