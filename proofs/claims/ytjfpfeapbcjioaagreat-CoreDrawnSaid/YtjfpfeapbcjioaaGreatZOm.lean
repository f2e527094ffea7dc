/-
  The texts of this claim, put together: Om.
-/
import Derived.Test.YtjfpfeapbcjioaaGreatRows
import Derived.LoopTactic
import Derived.Test.YtjfpfeapbcjioaaGreatZOmP
import Derived.Test.YtjfpfeapbcjioaaGreatZLays
import Derived.Test.YtjfpfeapbcjioaaGreatZBlk
set_option linter.unusedSimpArgs false
set_option linter.unusedVariables false
set_option maxHeartbeats 12800000
set_option maxRecDepth 100000
namespace Go.Proofs.YtjfpfeapbcjioaaGreat
section
open Go.RowKit
section
variable {α:Type}
def enCells (enc:α→Value) (e:En α):List Value:=[.string e.1,enc e.2]
def ecs (enc:α→Value) (es:List (En α)):List Value:=es.flatMap (enCells enc)
theorem ecs_length (enc:α→Value) (es:List (En α)):(ecs enc es).length=es.length*2:=by
 induction es with
 | nil=>rfl
 | cons e es ih=>simp only [ecs,List.flatMap_cons,List.length_append,List.length_cons] at ih ⊢;rw [ih];simp [enCells];omega
theorem ecs_get (enc:α→Value) (es:List (En α)) (k j:Nat) (e:En α) (h:es[k]? = some e) (hj:j<2):(ecs enc es)[k*2+j]? = (enCells enc e)[j]?:=by
 induction es generalizing k with
 | nil=>simp at h
 | cons x es ih =>
  cases k with
  | zero =>
   simp at h;subst h;simp only [ecs,List.flatMap_cons];rw [List.getElem?_append_left (by simp [enCells];omega)]
   congr 1
   omega
  | succ k =>
   simp only [ecs,List.flatMap_cons];rw [List.getElem?_append_right (by simp [enCells];omega),show (k+1)*2+j-(enCells enc x).length=k*2+j from by simp [enCells];omega]
   exact ih k (by simpa using h)
theorem sl_len {enc:α→Value} {w:World} {F:Nat→Prop} {A:Option Addr} {n:Nat} {es:List (En α)} (h:Sl w F 2 A n (ecs enc es)):es.length=n:=by have:=h.1;rw [ecs_length] at this;omega
theorem en_cells {enc:α→Value} {w:World} {F:Nat→Prop} {b o n:Nat} {es:List (En α)} (h:Sl w F 2 (some ⟨b,o,none⟩) n (ecs enc es)) {k:Nat} {e:En α} (hk:es[k]? = some e) :
  w.cell? ⟨b,o+k*2,none⟩=some (.string e.1)∧w.cell? ⟨b,o+k*2+1,none⟩=some (enc e.2):=by
 have hl:=sl_len h;have hkl:=(List.getElem?_eq_some_iff.1 hk).1;obtain ⟨b',o',he,_,_,hc⟩:=h.2 (by omega)
 injection he with he
 injection he with e1 e2
 subst e1 e2;refine ⟨?_,?_⟩
 ·have:=hc (k*2+0) (by rw [ecs_length];omega)
  rw [ecs_get enc es k 0 e hk (by omega)] at this
  exact this
 ·have:=hc (k*2+1) (by rw [ecs_length];omega)
  rw [ecs_get enc es k 1 e hk (by omega)] at this
  exact this
end
theorem cmp_any (a b:ByteArray) (w:World):Calls Tryz.prog 203 #[.string a,.string b] w fun e w'=>e = .returned (.int .i64 (Lib.compareBytes (kb a) (kb b)))∧w'=w:=Any.strings_Compare Tryz.lays106 a b w
theorem i_key (k t:ByteArray) (v:Int) (w:World):Calls Tryz.prog 202 #[.agg #[.string k,(Value.int .i64) v],.string t] w fun e w'=>e = .returned (.int .i64 (Lib.compareBytes (kb k) (kb t)))∧Pure w w':=by
 have hb:=Blk.new w 238 #[.string k,(Value.int .i64) v];have hk:Pure w (w.alloc (.cells #[.string k,(Value.int .i64) v] 238)):=(Kept.refl _ _).alloc _;have C:=hI (fun w=>cmp_any k t w);go_enter Tryz.func202,Tryz.ntmps202;have hc:=hb.cell;go_wp2_with fail;refine (C.out _).mono ?_;rintro e w' ⟨rfl,rfl⟩;go_wp2;go_ret;exact ⟨rfl,hk⟩
theorem i_bs (es:List (En Int)) (hr:Rises es) (A:Option Addr) (n c:Nat) (t:ByteArray) (w:World) (F:Nat→Prop) (hs:Sl w F 2 A n (ecs (Value.int .i64) es)) (hn:n≤1000000) :
  Calls Tryz.prog 201 #[.slice A n c,.string t,.func (.func 202) #[] #[]] w fun e w'=>e = .returned (.tuple #[.int .i64 (low es (kb t):Nat),.bool (has es (kb t))])∧Pure w w':=by
 have hl:=sl_len hs;have Hr:=hI hr;have Hl:=hI hl;have Hs:=hI hs;clear hl hs hr;go_enter Tryz.func201,Tryz.ntmps201;go_wp2
 go_loopw [9,10] (fun i j wr=>∃ a b:Nat,i = .int .i64 a∧j = .int .i64 b∧a≤b∧b≤n∧Hid ((∀ p e,p<a→es[p]? = some e→kb e.1<kb t)∧(∀ p e,b≤p→es[p]? = some e→¬kb e.1<kb t))∧Pure w wr) (fun i j _=>(intOf j).toNat-(intOf i).toNat)
 case atStart=>exact ⟨0,n,rfl,rfl,Nat.zero_le _,Nat.le_refl _,⟨fun p e h=>by omega,fun p e h h'=>by have:=(List.getElem?_eq_some_iff.1 h').1;have:=Hl.out;omega⟩,Kept.refl _ _⟩
 case round =>
  obtain ⟨a,b,rfl,rfl,hab,hbn,hcut,hp⟩:=hrel
  by_cases hlt:a<b
  ·obtain ⟨m,hm⟩:∃ m,(a+b) / 2=m:=⟨_,rfl⟩
   have hmn:m<n:=by omega
   obtain ⟨e,he⟩:∃ e,es[m]? = some e:=⟨_,List.getElem?_eq_getElem (by have:=Hl.out;omega)⟩
   obtain ⟨bb,oo,rfl,_,_,_⟩:=Hs.out.2 (by omega)
   have hsw:=Hs.out.kept hp (fun _ _ _ h=>h);obtain ⟨hc1,hc2⟩:=en_cells hsw he;have hmd:((a:Int)+(b:Int)) / 2=(m:Int):=by omega
   have hmi:(m:Int)<(n:Int):=by omega
   have hbd:a<m+1∧m<b:=by omega
   have hab2:0≤(a:Int)+(b:Int)∧(a:Int)+(b:Int)≤2000000:=by omega
   have C:=hI (fun w=>i_key e.1 t e.2 w);obtain ⟨V,hV⟩:∃ V,Lib.compareBytes (kb e.1) (kb t)=V:=⟨_,rfl⟩;rw [hV] at C;have hlt0:=cmp_lt (kb e.1) (kb t);rw [hV] at hlt0;obtain ⟨k1,v1⟩:=e;simp only at hc1 hc2 C
   by_cases hv:V<0
   ·have hcut2:Hid ((∀ p e,p<m+1→es[p]? = some e→kb e.1<kb t)∧(∀ p e,b≤p→es[p]? = some e→¬kb e.1<kb t)):=⟨Hr.out.below he (hlt0.1 hv),hcut.out.2⟩
    clear hm hlt0 hV he hsw;go_wp2_with fail;refine (C.out _).mono ?_;rintro e w1 ⟨rfl,hk1⟩;go_wp2
    go_roundw
    case measure=>simp [intOf];omega
    case rel=>exact ⟨m+1,b,by first|rfl|go_num,rfl,by omega,hbn,hcut2,hp.same hk1⟩
   ·have hcut2:Hid ((∀ p e,p<a→es[p]? = some e→kb e.1<kb t)∧(∀ p e,m≤p→es[p]? = some e→¬kb e.1<kb t)):=⟨hcut.out.1,Hr.out.above he (fun h=>hv (hlt0.2 h))⟩
    clear hm hlt0 hV he hsw;go_wp2_with fail;refine (C.out _).mono ?_;rintro e w1 ⟨rfl,hk1⟩;go_wp2
    go_roundw
    case measure=>simp [intOf];omega
    case rel=>exact ⟨a,m,rfl,rfl,by omega,by omega,hcut2,hp.same hk1⟩
  ·obtain rfl:a=b:=by omega
   have hlow:low es (kb t)=a:=low_of es a (by have:=Hl.out;omega) hcut.out.1 (fun e he=>hcut.out.2 a e (Nat.le_refl _) he)
   have Hlow:=hI hlow
   by_cases hin:a<n
   ·obtain ⟨e,he⟩:∃ e,es[a]? = some e:=⟨_,List.getElem?_eq_getElem (by have:=Hl.out;omega)⟩
    obtain ⟨bb,oo,rfl,_,_,_⟩:=Hs.out.2 (by omega)
    have hsw:=Hs.out.kept hp (fun _ _ _ h=>h);obtain ⟨hc1,hc2⟩:=en_cells hsw he;have C:=hI (fun w=>i_key e.1 t e.2 w);obtain ⟨V,hV⟩:∃ V,Lib.compareBytes (kb e.1) (kb t)=V:=⟨_,rfl⟩;rw [hV] at C;have heq0:=cmp_eq0 (kb e.1) (kb t);rw [hV] at heq0;have hhas:has es (kb t)=(V == 0):=by
     unfold has;rw [hlow,he,Bool.eq_iff_iff];simp only [beq_iff_eq];exact heq0.symm
    have Hhas:=hI hhas;obtain ⟨k1,v1⟩:=e;simp only at hc1 hc2 C;have hmi:(a:Int)<(n:Int):=by omega
    clear heq0 hV he hsw hlow hhas hcut;go_wp2_with fail;refine (C.out _).mono ?_;rintro e w1 ⟨rfl,hk1⟩;go_wp2
    go_ret2
    exact ⟨by rw [Hlow.out,Hhas.out];rfl,hp.same hk1⟩
   ·have hhas:has es (kb t)=false:=by
     unfold has;rw [hlow,List.getElem?_eq_none (by have:=Hl.out;omega)]
    have Hhas:=hI hhas;have hmi:¬(a:Int)<(n:Int):=by omega
    clear hlow hhas hcut;go_wp2
    go_ret2
    exact ⟨by rw [Hlow.out,Hhas.out];rfl,hp⟩
end
end Go.Proofs.YtjfpfeapbcjioaaGreat
