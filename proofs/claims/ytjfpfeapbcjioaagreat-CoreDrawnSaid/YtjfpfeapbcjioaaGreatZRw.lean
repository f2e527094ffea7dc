/-
  The texts of this claim, put together: Rw.
-/
import Derived.Test.YtjfpfeapbcjioaaGreatRows
import Derived.LoopTactic
import Derived.Deep.QuietTactic
import Derived.BigQuiet
import Derived.Test.YtjfpfeapbcjioaaGreatZRwP
import Derived.Test.YtjfpfeapbcjioaaGreatZLib
import Derived.Test.YtjfpfeapbcjioaaGreatZBlk
set_option linter.unusedSimpArgs false
set_option linter.unusedVariables false
set_option maxHeartbeats 12800000
set_option maxRecDepth 100000
namespace Go.Proofs.YtjfpfeapbcjioaaGreat
section
open Go.RowKit
def qcs (l:List (Int×Bool)):List Value:=l.flatMap fun a=>[.int .i64 a.1,.bool a.2]
def ics (l:List Int):List Value:=l.map (Value.int .i64)
theorem qcs_length (l:List (Int×Bool)):(qcs l).length=l.length*2:=fm_length _ 2 (fun _=>rfl) l
theorem ics_length (l:List Int):(ics l).length=l.length:=by simp [ics]
theorem slq_len {w:World} {F:Nat→Prop} {A:Option Addr} {n:Nat} {l:List (Int×Bool)} (h:Sl w F 2 A n (qcs l)):l.length=n:=by have:=h.1;rw [qcs_length] at this;omega
theorem sli_len {w:World} {F:Nat→Prop} {A:Option Addr} {n:Nat} {l:List Int} (h:Sl w F 1 A n (ics l)):l.length=n:=by have:=h.1;rw [ics_length] at this;omega
theorem slq_at {w:World} {F:Nat→Prop} {b o n:Nat} {l:List (Int×Bool)} (h:Sl w F 2 (some ⟨b,o,none⟩) n (qcs l)) {i:Nat} {e:Int×Bool} (he:l[i]? = some e) :
  w.cell? ⟨b,o+i*2,none⟩=some (.int .i64 e.1)∧w.cell? ⟨b,o+i*2+1,none⟩=some (.bool e.2):=by
 have hn:0<n:=by have:=slq_len h;have:=(List.getElem?_eq_some_iff.1 he).1;omega
 exact ⟨sl_at (f:=fun a:Int×Bool=>[.int .i64 a.1,.bool a.2]) (k:=2) (fun _=>rfl) h hn he 0 (by omega),sl_at (f:=fun a:Int×Bool=>[.int .i64 a.1,.bool a.2]) (k:=2) (fun _=>rfl) h hn he 1 (by omega)⟩
theorem sli_at {w:World} {F:Nat→Prop} {b o n:Nat} {l:List Int} (h:Sl w F 1 (some ⟨b,o,none⟩) n (ics l)) {i:Nat} {e:Int} (he:l[i]? = some e) :
  w.cell? ⟨b,o+i,none⟩=some (.int .i64 e):=sl_one (f:=Value.int .i64) h he
theorem index_i (l:List Int) (x:Int) (A:Option Addr) (n c:Nat) (w:World) (F:Nat→Prop) (hs:Sl w F 1 A n (ics l)) (hn:n≤1000000) :
  Calls Tryz.prog 188 #[.slice A n c,.int .i64 x] w fun e w'=>e = .returned (.int .i64 (idx (fun a=>decide (a=x)) l))∧Pure w w':=by
 have hl:=sli_len hs;have Hl:=hI hl;have Hs:=hI hs;clear hl hs;go_enter Tryz.func188,Tryz.ntmps188;go_wp2
 go_loopw [8] (fun i wr=>∃ k:Nat,i = .int .i64 k∧k≤n∧Hid (∀ (j:Nat) (y:Int),j<k→l[j]? = some y→decide (y=x)=false)∧Pure w wr) (fun i _=>n-(intOf i).toNat)
 case atStart=>exact ⟨0,rfl,Nat.zero_le _,fun j y h=>by omega,Kept.refl _ _⟩
 case round =>
  obtain ⟨k,rfl,hk,hj,hp⟩:=hrel
  by_cases hkn:k<n
  ·obtain ⟨y,hy⟩:∃ y,l[k]? = some y:=⟨_,List.getElem?_eq_getElem (by have:=Hl.out;omega)⟩
   have hsw:=Hs.out.kept hp (fun _ _ _ h=>h);obtain ⟨b,o,rfl,_,_,_⟩:=hsw.2 (by omega)
   have hc1:=sli_at hsw hy;have hki:(k:Int)<(n:Int):=by omega
   have Hy:=hI hy;clear hy hsw
   by_cases hxy:x=y
   ·subst hxy
    have hr:=idx_some Hy.out (p:=fun a=>decide (a=x)) (by simp) hj.out
    have Hr:=hI hr;clear hr;go_wp2;go_ret;exact ⟨by rw [Hr.out];rfl,hp⟩
   ·go_wp2
    go_roundw
    case measure=>simp [intOf];omega
    case rel=>exact ⟨k+1,by first|rfl|go_num,by omega,fun j z h hz=>by
     by_cases hjk:j=k
     ·subst hjk;rw [Hy.out] at hz;injection hz with hz;subst hz;exact decide_eq_false (fun h=>hxy h.symm)
     ·exact hj.out j z (by omega) hz,hp⟩
  ·obtain rfl:k=n:=by omega
   have hr:=idx_none (p:=fun a=>decide (a=x)) (l:=l) (fun j y hy=>hj.out j y (by have:=(List.getElem?_eq_some_iff.1 hy).1;have:=Hl.out;omega) hy)
   have Hr:=hI hr;clear hr;go_wp2;go_ret;exact ⟨by rw [Hr.out];rfl,hp⟩
theorem contains_i (l:List Int) (x:Int) (A:Option Addr) (n c:Nat) (w:World) (F:Nat→Prop) (hs:Sl w F 1 A n (ics l)) (hn:n≤1000000) :
  Calls Tryz.prog 138 #[.slice A n c,.int .i64 x] w fun e w'=>e = .returned (.bool (hasI l x))∧Pure w w':=by
 have C:=hI (index_i l x A n c w F hs hn);have hr:=idx_any (fun a=>decide (a=x)) l;have Hr:=hI hr;clear hs hr;go_enter Tryz.func138,Tryz.ntmps138;go_wp2_with fail;refine (C.out).mono ?_;rintro e w1 ⟨rfl,hk1⟩;go_wp2;go_ret;exact ⟨by unfold hasI;rw [←Hr.out];rfl,hk1⟩
theorem st_key (who:Int) (a:Int×Bool) (bx:Nat) (w:World) (hc:w.cell? ⟨bx,0,none⟩=some (.int .i64 who)) (hb:bx<w.heap.size) :
  Calls Tryz.prog 140 #[.agg #[.int .i64 a.1,.bool a.2],.pointer (some ⟨bx,0,none⟩)] w fun e w'=>e = .returned (.bool (decide (a.1=who)))∧Pure w w':=by
 have hB:=Blk.new w 199 #[.int .i64 a.1,.bool a.2];have hk:Pure w (w.alloc (.cells #[.int .i64 a.1,.bool a.2] 199)):=(Kept.refl _ _).alloc _;have hcell:=hB.cell;have hc2:(w.alloc (.cells #[.int .i64 a.1,.bool a.2] 199)).cell? ⟨bx,0,none⟩=some (.int .i64 who):=(World.cell?_of_block (a:=⟨bx,0,none⟩) (hk.block bx hb (fun h=>h))).trans hc;clear hc hB;go_enter Tryz.func140,Tryz.ntmps140;go_wp2;go_ret;exact ⟨rfl,hk⟩
theorem lq_key (who:Int) (a:Int×Bool) (bx:Nat) (w:World) (hc:w.cell? ⟨bx,0,none⟩=some (.int .i64 who)) (hb:bx<w.heap.size) :
  Calls Tryz.prog 151 #[.agg #[.int .i64 a.1,.bool a.2],.pointer (some ⟨bx,0,none⟩)] w fun e w'=>e = .returned (.bool (decide (a.1=who)))∧Pure w w':=by
 have hB:=Blk.new w 199 #[.int .i64 a.1,.bool a.2];have hk:Pure w (w.alloc (.cells #[.int .i64 a.1,.bool a.2] 199)):=(Kept.refl _ _).alloc _;have hcell:=hB.cell;have hc2:(w.alloc (.cells #[.int .i64 a.1,.bool a.2] 199)).cell? ⟨bx,0,none⟩=some (.int .i64 who):=(World.cell?_of_block (a:=⟨bx,0,none⟩) (hk.block bx hb (fun h=>h))).trans hc;clear hc hB;go_enter Tryz.func151,Tryz.ntmps151;go_wp2;go_ret;exact ⟨rfl,hk⟩
theorem li_key (who:Int) (a:Int) (bx:Nat) (w:World) (hc:w.cell? ⟨bx,0,none⟩=some (.int .i64 who)) (hb:bx<w.heap.size) :
  Calls Tryz.prog 149 #[.int .i64 a,.pointer (some ⟨bx,0,none⟩)] w fun e w'=>e = .returned (.bool (decide (a=who)))∧Pure w w':=by
 go_enter Tryz.func149,Tryz.ntmps149
 go_wp2;go_ret;exact ⟨rfl,Kept.refl _ _⟩
theorem st_index (l:List (Int×Bool)) (x:Int) (A:Option Addr) (n c:Nat) (bx:Nat) (w:World) (F:Nat→Prop) (hs:Sl w F 2 A n (qcs l)) (hn:n≤1000000) (hb:w.cell? ⟨bx,0,none⟩=some (.int .i64 x)) (hbl:bx<w.heap.size) :
  Calls Tryz.prog 189 #[.slice A n c,.func (.func 140) #[] #[.pointer (some ⟨bx,0,none⟩)]] w fun e w'=>e = .returned (.int .i64 (idx (fun a=>decide (a.1=x)) l))∧Pure w w':=by
 have hl:=slq_len hs;have Hl:=hI hl;have Hs:=hI hs;have Hb:=hI hb;clear hl hs hb;go_enter Tryz.func189,Tryz.ntmps189;go_wp2
 go_loopw [8] (fun i wr=>∃ k:Nat,i = .int .i64 k∧k≤n∧Hid (∀ (j:Nat) (y:(Int×Bool)),j<k→l[j]? = some y→(fun a=>decide (a.1=x)) y=false)∧Pure w wr) (fun i _=>n-(intOf i).toNat)
 case atStart=>exact ⟨0,rfl,Nat.zero_le _,fun j y h=>by omega,Kept.refl _ _⟩
 case round =>
  obtain ⟨k,rfl,hk,hj,hp⟩:=hrel
  by_cases hkn:k<n
  ·obtain ⟨y,hy⟩:∃ y,l[k]? = some y:=⟨_,List.getElem?_eq_getElem (by have:=Hl.out;omega)⟩
   have hsw:=Hs.out.kept hp (fun _ _ _ h=>h);obtain ⟨b,o,rfl,_,_,_⟩:=hsw.2 (by omega)
   have hc1:=slq_at hsw hy;have hki:(k:Int)<(n:Int):=by omega
   have C:=hI (st_key x y bx wr ((World.cell?_of_block (a:=⟨bx,0,none⟩) (hp.block bx hbl (fun h=>h))).trans Hb.out) (Nat.lt_of_lt_of_le hbl hp.size));have Hy:=hI hy;clear hy hsw;cases hxy:(fun a=>decide (a.1=x)) y with
   | true =>
    have hr:=idx_some Hy.out hxy hj.out;have Hr:=hI hr;simp only at hxy;rw [hxy] at C;clear hr hxy;go_wp2_with fail;refine (C.out).mono ?_;rintro e w1 ⟨rfl,hk1⟩;go_wp2;go_ret;exact ⟨by rw [Hr.out];rfl,hp.same hk1⟩
   | false =>
    have Hxy:=hI hxy;simp only at hxy;rw [hxy] at C;clear hxy;go_wp2_with fail;refine (C.out).mono ?_;rintro e w1 ⟨rfl,hk1⟩;go_wp2
    go_roundw
    case measure=>simp [intOf];omega
    case rel=>exact ⟨k+1,by first|rfl|go_num,by omega,fun j z h hz=>by
     by_cases hjk:j=k
     ·subst hjk;rw [Hy.out] at hz;injection hz with hz;subst hz;exact Hxy.out
     ·exact hj.out j z (by omega) hz,hp.same hk1⟩
  ·obtain rfl:k=n:=by omega
   have hr:=idx_none (p:=fun a=>decide (a.1=x)) (l:=l) (fun j y hy=>hj.out j y (by have:=(List.getElem?_eq_some_iff.1 hy).1;have:=Hl.out;omega) hy)
   have Hr:=hI hr;clear hr;go_wp2;go_ret;exact ⟨by rw [Hr.out];rfl,hp⟩
theorem lq_index (l:List (Int×Bool)) (x:Int) (A:Option Addr) (n c:Nat) (bx:Nat) (w:World) (F:Nat→Prop) (hs:Sl w F 2 A n (qcs l)) (hn:n≤1000000) (hb:w.cell? ⟨bx,0,none⟩=some (.int .i64 x)) (hbl:bx<w.heap.size) :
  Calls Tryz.prog 189 #[.slice A n c,.func (.func 151) #[] #[.pointer (some ⟨bx,0,none⟩)]] w fun e w'=>e = .returned (.int .i64 (idx (fun a=>decide (a.1=x)) l))∧Pure w w':=by
 have hl:=slq_len hs;have Hl:=hI hl;have Hs:=hI hs;have Hb:=hI hb;clear hl hs hb;go_enter Tryz.func189,Tryz.ntmps189;go_wp2
 go_loopw [8] (fun i wr=>∃ k:Nat,i = .int .i64 k∧k≤n∧Hid (∀ (j:Nat) (y:(Int×Bool)),j<k→l[j]? = some y→(fun a=>decide (a.1=x)) y=false)∧Pure w wr) (fun i _=>n-(intOf i).toNat)
 case atStart=>exact ⟨0,rfl,Nat.zero_le _,fun j y h=>by omega,Kept.refl _ _⟩
 case round =>
  obtain ⟨k,rfl,hk,hj,hp⟩:=hrel
  by_cases hkn:k<n
  ·obtain ⟨y,hy⟩:∃ y,l[k]? = some y:=⟨_,List.getElem?_eq_getElem (by have:=Hl.out;omega)⟩
   have hsw:=Hs.out.kept hp (fun _ _ _ h=>h);obtain ⟨b,o,rfl,_,_,_⟩:=hsw.2 (by omega)
   have hc1:=slq_at hsw hy;have hki:(k:Int)<(n:Int):=by omega
   have C:=hI (lq_key x y bx wr ((World.cell?_of_block (a:=⟨bx,0,none⟩) (hp.block bx hbl (fun h=>h))).trans Hb.out) (Nat.lt_of_lt_of_le hbl hp.size));have Hy:=hI hy;clear hy hsw;cases hxy:(fun a=>decide (a.1=x)) y with
   | true =>
    have hr:=idx_some Hy.out hxy hj.out;have Hr:=hI hr;simp only at hxy;rw [hxy] at C;clear hr hxy;go_wp2_with fail;refine (C.out).mono ?_;rintro e w1 ⟨rfl,hk1⟩;go_wp2;go_ret;exact ⟨by rw [Hr.out];rfl,hp.same hk1⟩
   | false =>
    have Hxy:=hI hxy;simp only at hxy;rw [hxy] at C;clear hxy;go_wp2_with fail;refine (C.out).mono ?_;rintro e w1 ⟨rfl,hk1⟩;go_wp2
    go_roundw
    case measure=>simp [intOf];omega
    case rel=>exact ⟨k+1,by first|rfl|go_num,by omega,fun j z h hz=>by
     by_cases hjk:j=k
     ·subst hjk;rw [Hy.out] at hz;injection hz with hz;subst hz;exact Hxy.out
     ·exact hj.out j z (by omega) hz,hp.same hk1⟩
  ·obtain rfl:k=n:=by omega
   have hr:=idx_none (p:=fun a=>decide (a.1=x)) (l:=l) (fun j y hy=>hj.out j y (by have:=(List.getElem?_eq_some_iff.1 hy).1;have:=Hl.out;omega) hy)
   have Hr:=hI hr;clear hr;go_wp2;go_ret;exact ⟨by rw [Hr.out];rfl,hp⟩
theorem li_index (l:List Int) (x:Int) (A:Option Addr) (n c:Nat) (bx:Nat) (w:World) (F:Nat→Prop) (hs:Sl w F 1 A n (ics l)) (hn:n≤1000000) (hb:w.cell? ⟨bx,0,none⟩=some (.int .i64 x)) (hbl:bx<w.heap.size) :
  Calls Tryz.prog 193 #[.slice A n c,.func (.func 149) #[] #[.pointer (some ⟨bx,0,none⟩)]] w fun e w'=>e = .returned (.int .i64 (idx (fun a=>decide (a=x)) l))∧Pure w w':=by
 have hl:=sli_len hs;have Hl:=hI hl;have Hs:=hI hs;have Hb:=hI hb;clear hl hs hb;go_enter Tryz.func193,Tryz.ntmps193;go_wp2
 go_loopw [8] (fun i wr=>∃ k:Nat,i = .int .i64 k∧k≤n∧Hid (∀ (j:Nat) (y:Int),j<k→l[j]? = some y→(fun a=>decide (a=x)) y=false)∧Pure w wr) (fun i _=>n-(intOf i).toNat)
 case atStart=>exact ⟨0,rfl,Nat.zero_le _,fun j y h=>by omega,Kept.refl _ _⟩
 case round =>
  obtain ⟨k,rfl,hk,hj,hp⟩:=hrel
  by_cases hkn:k<n
  ·obtain ⟨y,hy⟩:∃ y,l[k]? = some y:=⟨_,List.getElem?_eq_getElem (by have:=Hl.out;omega)⟩
   have hsw:=Hs.out.kept hp (fun _ _ _ h=>h);obtain ⟨b,o,rfl,_,_,_⟩:=hsw.2 (by omega)
   have hc1:=sli_at hsw hy;have hki:(k:Int)<(n:Int):=by omega
   have C:=hI (li_key x y bx wr ((World.cell?_of_block (a:=⟨bx,0,none⟩) (hp.block bx hbl (fun h=>h))).trans Hb.out) (Nat.lt_of_lt_of_le hbl hp.size));have Hy:=hI hy;clear hy hsw;cases hxy:(fun a=>decide (a=x)) y with
   | true =>
    have hr:=idx_some Hy.out hxy hj.out;have Hr:=hI hr;simp only at hxy;rw [hxy] at C;clear hr hxy;go_wp2_with fail;refine (C.out).mono ?_;rintro e w1 ⟨rfl,hk1⟩;go_wp2;go_ret;exact ⟨by rw [Hr.out];rfl,hp.same hk1⟩
   | false =>
    have Hxy:=hI hxy;simp only at hxy;rw [hxy] at C;clear hxy;go_wp2_with fail;refine (C.out).mono ?_;rintro e w1 ⟨rfl,hk1⟩;go_wp2
    go_roundw
    case measure=>simp [intOf];omega
    case rel=>exact ⟨k+1,by first|rfl|go_num,by omega,fun j z h hz=>by
     by_cases hjk:j=k
     ·subst hjk;rw [Hy.out] at hz;injection hz with hz;subst hz;exact Hxy.out
     ·exact hj.out j z (by omega) hz,hp.same hk1⟩
  ·obtain rfl:k=n:=by omega
   have hr:=idx_none (p:=fun a=>decide (a=x)) (l:=l) (fun j y hy=>hj.out j y (by have:=(List.getElem?_eq_some_iff.1 hy).1;have:=Hl.out;omega) hy)
   have Hr:=hI hr;clear hr;go_wp2;go_ret;exact ⟨by rw [Hr.out];rfl,hp⟩
theorem containsf_q (l:List (Int×Bool)) (x:Int) (A:Option Addr) (n c:Nat) (bx:Nat) (w:World) (F:Nat→Prop) (hs:Sl w F 2 A n (qcs l)) (hn:n≤1000000) (hb:w.cell? ⟨bx,0,none⟩=some (.int .i64 x)) (hbl:bx<w.heap.size) :
  Calls Tryz.prog 139 #[.slice A n c,.func (.func 140) #[] #[.pointer (some ⟨bx,0,none⟩)]] w fun e w'=>e = .returned (.bool (hasQ l x))∧Pure w w':=by
 have C:=hI (st_index l x A n c bx w F hs hn hb hbl);have hr:=idx_any (fun a=>decide (a.1=x)) l;have Hr:=hI hr;clear hs hr;go_enter Tryz.func139,Tryz.ntmps139;go_wp2_with fail;refine (C.out).mono ?_;rintro e w1 ⟨rfl,hk1⟩;go_wp2;go_ret;exact ⟨by unfold hasQ;rw [←Hr.out];rfl,hk1⟩
end
end Go.Proofs.YtjfpfeapbcjioaaGreat
