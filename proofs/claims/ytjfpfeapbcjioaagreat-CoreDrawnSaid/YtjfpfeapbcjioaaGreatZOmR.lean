/-
  The texts of this claim, put together: OmR.
-/
import Derived.Deep.QuietTactic
import Derived.BigQuiet
import Derived.Test.YtjfpfeapbcjioaaGreatZOm
import Derived.Test.YtjfpfeapbcjioaaGreatZOmB
set_option linter.unusedSimpArgs false
set_option linter.unusedVariables false
set_option maxHeartbeats 12800000
set_option maxRecDepth 100000
namespace Go.Proofs.YtjfpfeapbcjioaaGreat
section
open Go.RowKit
def Mp {α:Type} (T E:TypeId) (enc:α→Value) (w:World) (F:Nat→Prop) (g:Nat) (es:List (En α)):Prop :=
 F g∧Rises es∧es.length≤100000∧∃ A c,Blk w g T #[.slice A es.length c]∧Own w (fun b=>F b∧b≠g) E 2 (.slice A es.length c) es.length (ecs enc es)
section
variable {α:Type} {T E:TypeId} {enc:α→Value} {w w':World} {F G S:Nat→Prop} {g:Nat} {es:List (En α)}
theorem Mp.kept (h:Mp T E enc w F g es) (hk:Kept S w w') (hd:∀ b,b<w.heap.size→F b→¬S b):Mp T E enc w' F g es:=by
 obtain ⟨h0,h1,h2,A,c,hb,ho⟩:=h;exact ⟨h0,h1,h2,A,c,hb.kept hk (hd g hb.lt h0),ho.kept hk (fun b hl hb=>hd b hl hb.1)⟩
theorem Mp.imp (h:Mp T E enc w F g es) (hF:∀ b,b<w.heap.size→F b→G b):Mp T E enc w G g es:=by
 obtain ⟨h0,h1,h2,A,c,hb,ho⟩:=h;exact ⟨hF g hb.lt h0,h1,h2,A,c,hb,ho.imp (fun b hl hb=>⟨hF b hl hb.1,hb.2⟩)⟩
end
abbrev Mpi:=Mp (α:=Int) 235 238 (Value.int .i64)
theorem i_find (w:World) (F:Nat→Prop) (g:Nat) (es:List (En Int)) (t:ByteArray) (h:Mpi w F g es) :
  Calls Tryz.prog 166 #[.pointer (some ⟨g,0,none⟩),.string t] w fun e w'=>e = .returned (.tuple #[.int .i64 (low es (kb t):Nat),.bool (has es (kb t))])∧Pure w w':=by
 obtain ⟨h0,h1,h2,A,c,hb,ho⟩:=h;have C:=hI (i_bs es h1 A es.length c t w _ ho.sl (by omega))
 have hc:=hb.cell;clear hb ho h1 h2;go_enter Tryz.func166,Tryz.ntmps166;go_wp2_with fail;refine (C.out).mono ?_;rintro e w1 ⟨rfl,hk1⟩;go_wp2
 go_ret2
 exact ⟨rfl,hk1⟩
theorem i_get (w:World) (F:Nat→Prop) (g:Nat) (es:List (En Int)) (t:ByteArray) (h:Mpi w F g es) :
  Calls Tryz.prog 118 #[.pointer (some ⟨g,0,none⟩),.string t] w fun e w'=>e = .returned (match valAt es (kb t) with|some v=>.tuple #[.int .i64 v,.bool true]|none=>.tuple #[.int .i64 0,.bool false])∧Pure w w':=by
 have C:=hI (i_find w F g es t h);have hv:=has_val es (kb t);cases hx:valAt es (kb t) with
 | none =>
  rw [hx] at hv;simp only [Option.isSome_none] at hv;rw [hv] at C;clear h hv hx;go_enter Tryz.func118,Tryz.ntmps118;go_wp2_with fail;refine (C.out).mono ?_;rintro e w1 ⟨rfl,hk1⟩;go_wp2
  go_ret2
  exact ⟨rfl,hk1⟩
 | some v =>
  rw [hx] at hv;simp only [Option.isSome_some] at hv;rw [hv] at C;obtain ⟨e,he,hev⟩:∃ e,es[low es (kb t)]? = some e∧e.2=v:=by
   unfold valAt at hx;cases hl:es[low es (kb t)]? with
   | none=>rw [hl] at hx;cases hx
   | some e =>
    rw [hl] at hx;simp only at hx
    split at hx
    ·injection hx with hx;exact ⟨e,rfl,hx⟩
    ·cases hx
  have hk:=(List.getElem?_eq_some_iff.1 he).1;obtain ⟨k1,v1⟩:=e;simp only at hev;subst hev;have H:=hI h;generalize low es (kb t)=k at *;have He:=hI he;have hki:(k:Int)<(es.length:Int):=by omega
  clear h hv hx he;go_enter Tryz.func118,Tryz.ntmps118;go_wp2_with fail;refine (C.out).mono ?_;rintro e w1 ⟨rfl,hk1⟩;obtain ⟨h0,h1,h2,A,c,hb,ho⟩:=H.out.kept hk1 (fun _ _ _ h=>h);have hc:=hb.cell;obtain ⟨b,o,rfl,_,_,_⟩:=ho.sl.2 (by omega)
  obtain ⟨hc1,hc2⟩:=en_cells ho.sl He.out;simp only at hc1 hc2;clear hb ho h1;go_wp2
  go_ret2
  exact ⟨rfl,hk1⟩
end
end Go.Proofs.YtjfpfeapbcjioaaGreat
