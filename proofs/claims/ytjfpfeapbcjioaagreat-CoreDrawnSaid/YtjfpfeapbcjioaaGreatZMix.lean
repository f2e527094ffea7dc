/-
  The texts of this claim, put together: Mix.
-/
import Derived.Deep.QuietTactic
import Derived.BigQuiet
set_option linter.unusedSimpArgs false
set_option linter.unusedVariables false
set_option maxHeartbeats 12800000
set_option maxRecDepth 100000
namespace Go.Proofs.YtjfpfeapbcjioaaGreat
section
open Go
section
variable {P:Program} {ops:Array Oper} {md:Region.Mode} {C:World→Prop} {ms:List Nat}
def moveUpon (P:Program) (N:Value→World→Prop):Result Next→Prop
 | .ok (.value v) w'=>N v w'
 | .ok (.enter f args) w'=>Calls P f args w' fun e w''=>∃ v,e = .returned v∧N v w''
 | _=>False
def move (P:Program) (o:Oper) (a:Act) (w:World) (N:Value→World→Prop):Prop:=moveUpon P N ((execOp a.eval o).run P w)
def waitsB (md:Region.Mode) (ops:Array Oper) (i:Nat) (W:List Nat) (j:Nat):Bool :=
 match ops[j]? with|some oj=>oj.after.any (fun e=>Region.binds md e&&(e.on == i||W.contains e.on))|none=>false
def waitsStep (md:Region.Mode) (ops:Array Oper) (i:Nat) (W:List Nat) (j:Nat):List Nat:=if waitsB md ops i W j then j::W else W
def waits (md:Region.Mode) (ops:Array Oper) (i:Nat):List Nat:=(List.range ops.size).foldl (waitsStep md ops i) []
def waitOk (md:Region.Mode) (ops:Array Oper) (i:Nat) (W:List Nat):Prop :=
 ∀ j∈W,∃ oj e,ops[j]? = some oj∧e∈oj.after∧Region.binds md e=true∧(e.on=i∨e.on∈W)
theorem waits_ok (md:Region.Mode) (ops:Array Oper) (i:Nat):waitOk md ops i (waits md ops i):=by
 have key:∀ (l:List Nat) (W:List Nat),waitOk md ops i W→waitOk md ops i (l.foldl (waitsStep md ops i) W):=by
  intro l
  induction l with
  | nil=>exact fun W h=>h
  | cons j l ih =>
   intro W h;refine ih _ ?_;unfold waitsStep
   split
   ·rename_i hj
    unfold waitsB at hj;cases ho:ops[j]? with
    | none=>simp [ho] at hj
    | some oj =>
     simp only [ho] at hj;obtain ⟨e,he,hb⟩:=Array.any_eq_true'.1 hj;simp only [Bool.and_eq_true,Bool.or_eq_true,beq_iff_eq,List.contains_iff_mem] at hb;intro k hk;rcases List.mem_cons.1 hk with rfl|hk
     ·exact ⟨oj,e,ho,he,hb.1,hb.2.imp id (List.mem_cons_of_mem _)⟩
     ·obtain ⟨ok,e',h1,h2,h3,h4⟩:=h k hk
      exact ⟨ok,e',h1,h2,h3,h4.imp id (List.mem_cons_of_mem _)⟩
   ·exact h
 exact key _ [] (fun j hj=>by cases hj)
abbrev Past:=List (Nat×(World→Prop))
def cur (C:World→Prop) (H:Past) (x:World):Prop:=C x∧∀ p∈H,p.2 x
end
end
end Go.Proofs.YtjfpfeapbcjioaaGreat
