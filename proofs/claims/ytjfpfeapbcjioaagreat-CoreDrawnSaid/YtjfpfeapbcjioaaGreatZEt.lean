/-
  The texts of this claim, put together: Et, Qu.
-/
import Derived.Test.YtjfpfeapbcjioaaGreatRows
import Derived.LoopTactic
import Derived.Deep.QuietTactic
import Derived.BigQuiet
import Derived.Test.YtjfpfeapbcjioaaGreatZCoP
import Derived.Test.YtjfpfeapbcjioaaGreatZTn
import Derived.Test.YtjfpfeapbcjioaaGreatZLib
set_option linter.unusedSimpArgs false
set_option linter.unusedVariables false
set_option maxHeartbeats 12800000
set_option maxRecDepth 100000
namespace Go.Proofs.YtjfpfeapbcjioaaGreat
section
open Go.RowKit
theorem et_may (c:Cn) (w:World):Calls Tryz.prog 206 #[c.val] w fun e w'=>e = .returned (.bool c.may)∧Pure w w':=by
 obtain ⟨kd,v⟩:=c;have hB:=Blk.new w 30 #[.int .i64 kd,.int .i64 v];have hp:Pure w (w.alloc (.cells #[.int .i64 kd,.int .i64 v] 30)):=(Kept.refl _ _).alloc _;have hc:=hB.cell;unfold Cn.val;simp only;clear hB
 by_cases h0:kd=0
 ·subst h0
  have he:Cn.may ⟨0,v⟩=(v == 0):=by unfold Cn.may;simp;rw [Bool.eq_iff_iff];simp
  rw [he];clear he;go_enter Tryz.func206,Tryz.ntmps206;go_wp2;go_ret;exact ⟨rfl,hp⟩
 ·have h0':(kd == 0)=false:=by simpa using h0
  by_cases h1:kd=1
  ·subst h1
   have he:Cn.may ⟨1,v⟩=(v == 0):=by unfold Cn.may;simp;rw [Bool.eq_iff_iff];simp
   rw [he];clear he;go_enter Tryz.func206,Tryz.ntmps206;go_wp2;go_ret;exact ⟨rfl,hp⟩
  ·have h1':(kd == 1)=false:=by simpa using h1
   by_cases h2:kd=2
   ·subst h2
    have he:Cn.may ⟨2,v⟩=(v == 0):=by unfold Cn.may;simp;rw [Bool.eq_iff_iff];simp
    rw [he];clear he;go_enter Tryz.func206,Tryz.ntmps206;go_wp2;go_ret;exact ⟨rfl,hp⟩
   ·have h2':(kd == 2)=false:=by simpa using h2
    by_cases h3:kd=3
    ·subst h3
     have he:Cn.may ⟨3,v⟩=decide (1≤v):=by unfold Cn.may;simp
     rw [he];clear he;go_enter Tryz.func206,Tryz.ntmps206;go_wp2;go_ret;exact ⟨rfl,hp⟩
    ·have h3':(kd == 3)=false:=by simpa using h3
     have he:Cn.may ⟨kd,v⟩=false:=by unfold Cn.may;rw [if_neg (by simp;omega),if_neg h3]
     rw [he];clear he;go_enter Tryz.func206,Tryz.ntmps206;go_wp2;go_ret;exact ⟨rfl,hp⟩
theorem et_holds (c:Cn) (there:Bool) (version:Int) (w:World):Calls Tryz.prog 170 #[c.val,.bool there,.int .i64 version] w fun e w'=>e = .returned (.bool (c.holds there version))∧Pure w w':=by
 have C:=fun w=>et_may c w;obtain ⟨m,hm⟩:∃ m,c.may=m:=⟨_,rfl⟩;rw [hm] at C;obtain ⟨kd,v⟩:=c;have hB:=Blk.new w 30 #[.int .i64 kd,.int .i64 v];have hp:Pure w (w.alloc (.cells #[.int .i64 kd,.int .i64 v] 30)):=(Kept.refl _ _).alloc _;unfold Cn.val at C ⊢;simp only at C ⊢;have C:=hI C;have HB:=hI hB;have hc0:=hB.cell;cases m with
 | false =>
  have he:Cn.holds ⟨kd,v⟩ there version=false:=by unfold Cn.holds;rw [hm];simp
  rw [he];clear he hm hB;go_enter Tryz.func170,Tryz.ntmps170;go_wp2_with fail;refine (C.out _).mono ?_;rintro e w1 ⟨rfl,hk1⟩;go_wp2;go_ret;exact ⟨rfl,hp.same hk1⟩
 | true =>
  by_cases h1:kd=1
  ·subst h1
   have he:Cn.holds ⟨1,v⟩ there version = !there:=by unfold Cn.holds;rw [hm];simp
   rw [he];clear he hm hB;go_enter Tryz.func170,Tryz.ntmps170;go_wp2_with fail;refine (C.out _).mono ?_;rintro e w1 ⟨rfl,hk1⟩;have hc:=(HB.out.kept hk1 (fun h=>h)).cell;go_wp2;go_ret;exact ⟨rfl,hp.same hk1⟩
  ·have h1':(kd == 1)=false:=by simpa using h1
   by_cases h2:kd=2
   ·subst h2
    have he:Cn.holds ⟨2,v⟩ there version=there:=by unfold Cn.holds;rw [hm];simp
    rw [he];clear he hm hB;go_enter Tryz.func170,Tryz.ntmps170;go_wp2_with fail;refine (C.out _).mono ?_;rintro e w1 ⟨rfl,hk1⟩;have hc:=(HB.out.kept hk1 (fun h=>h)).cell;go_wp2;go_ret;exact ⟨rfl,hp.same hk1⟩
   ·have h2':(kd == 2)=false:=by simpa using h2
    by_cases h3:kd=3
    ·subst h3
     have he:Cn.holds ⟨3,v⟩ there version=(there&&(version == v)):=by unfold Cn.holds;rw [hm];simp;rw [Bool.eq_iff_iff];simp
     rw [he];clear he hm hB;go_enter Tryz.func170,Tryz.ntmps170;go_wp2_with fail;refine (C.out _).mono ?_;rintro e w1 ⟨rfl,hk1⟩;have hc:=(HB.out.kept hk1 (fun h=>h)).cell;cases there with
     | true =>
      go_wp2;go_ret;exact ⟨by simp,hp.same hk1⟩
     | false =>
      go_wp2;go_ret;exact ⟨by simp,hp.same hk1⟩
    ·have h3':(kd == 3)=false:=by simpa using h3
     have he:Cn.holds ⟨kd,v⟩ there version=true:=by unfold Cn.holds;rw [hm,if_pos rfl,if_neg h1,if_neg h2,if_neg h3]
     rw [he];clear he hm hB;go_enter Tryz.func170,Tryz.ntmps170;go_wp2_with fail;refine (C.out _).mono ?_;rintro e w1 ⟨rfl,hk1⟩;have hc:=(HB.out.kept hk1 (fun h=>h)).cell;go_wp2;go_ret;exact ⟨rfl,hp.same hk1⟩
end
section
open Go.RowKit
def Bg.cells (b:Bg):Array Value:=#[.int .i64 b.q.cols,.int .i64 b.q.cards,.int .i64 b.q.bytes,.int .i64 b.q.log,.int .i64 b.cols,.int .i64 b.bytes]
def bgC (g:Nat) (b:Bg):Ch:=blkC g 210 b.cells
theorem qu_in (n m:Int) (w:World):Calls Tryz.prog 164 #[.int .i64 n,.int .i64 m] w fun e w'=>e = .returned (.bool (decide (1≤n)&&decide (n≤m)))∧w'=w:=by
 by_cases h:1≤n
 ·have h':(1≤n)=True:=by simp [h]
  go_enter Tryz.func164,Tryz.ntmps164
  go_wp2;go_ret;exact ⟨by simp [h],rfl⟩
 ·have h':(1≤n)=False:=by simp [h]
  go_enter Tryz.func164,Tryz.ntmps164
  go_wp2;go_ret;exact ⟨by simp [h],rfl⟩
theorem qu_check (q:Qt) (w:World):Calls Tryz.prog 115 #[q.val] w fun e w'=>e = .returned (.int .i64 (if q.okB=true then 0 else 12))∧Pure w w':=by
 have C1:=hI (fun w=>qu_in q.cols 8 w);have C2:=hI (fun w=>qu_in q.cards 16 w);have C3:=hI (fun w=>qu_in q.bytes 1048576 w);have C4:=hI (fun w=>qu_in q.log 64 w);unfold Qt.okB;obtain ⟨v1,h1⟩:∃ v,(decide (1≤q.cols)&&decide (q.cols≤8))=v:=⟨_,rfl⟩;obtain ⟨v2,h2⟩:∃ v,(decide (1≤q.cards)&&decide (q.cards≤16))=v:=⟨_,rfl⟩;obtain ⟨v3,h3⟩:∃ v,(decide (1≤q.bytes)&&decide (q.bytes≤1048576))=v:=⟨_,rfl⟩
 obtain ⟨v4,h4⟩:∃ v,(decide (1≤q.log)&&decide (q.log≤64))=v:=⟨_,rfl⟩;rw [h1] at C1;rw [h2] at C2;rw [h3] at C3;rw [h4] at C4;rw [h1,h2,h3,h4];have hB:=Blk.new w 23 #[.int .i64 q.cols,.int .i64 q.cards,.int .i64 q.bytes,.int .i64 q.log];have hp:Pure w (w.alloc (.cells #[.int .i64 q.cols,.int .i64 q.cards,.int .i64 q.bytes,.int .i64 q.log] 23)):=(Kept.refl _ _).alloc _;have hc:=hB.cell;unfold Qt.val
 clear h1 h2 h3 h4 hB;go_enter Tryz.func115,Tryz.ntmps115;go_wp2_with fail;refine (C1.out _).mono ?_;rintro e w1 ⟨rfl,e1⟩;obtain rfl:=e1.symm;cases v1 with
 | false =>
  go_wp2;go_ret;exact ⟨rfl,hp⟩
 | true =>
  go_wp2_with fail
  refine (C2.out _).mono ?_;rintro e w2 ⟨rfl,e2⟩;obtain rfl:=e2.symm;cases v2 with
  | false =>
   go_wp2;go_ret;exact ⟨rfl,hp⟩
  | true =>
   go_wp2_with fail
   refine (C3.out _).mono ?_;rintro e w3 ⟨rfl,e3⟩;obtain rfl:=e3.symm;cases v3 with
   | false =>
    go_wp2;go_ret;exact ⟨rfl,hp⟩
   | true =>
    go_wp2_with fail
    refine (C4.out _).mono ?_;rintro e w4 ⟨rfl,e4⟩;obtain rfl:=e4.symm;cases v4 with
    | false =>
     go_wp2;go_ret;exact ⟨rfl,hp⟩
    | true =>
     go_wp2;go_ret;exact ⟨rfl,hp⟩
theorem qu_new (q:Qt) (hq:q.Ok) (w:World):Calls Tryz.prog 142 #[q.val] w fun e w'=>∃ g,e = .returned (.tuple #[.pointer (some ⟨g,0,none⟩),.int .i64 0])∧w.heap.size≤g∧Blk w' g 210 (Bg.mk q 0 0).cells∧Pure w w':=by
 have C:=fun w=>qu_check q w;have hok:=(Qt.okB_iff q).2 hq;rw [hok] at C;have C:=hI C;clear hok hq;unfold Qt.val at C ⊢;have hB0:=Blk.new w 23 #[.int .i64 q.cols,.int .i64 q.cards,.int .i64 q.bytes,.int .i64 q.log];have hp0:Pure w (w.alloc (.cells #[.int .i64 q.cols,.int .i64 q.cards,.int .i64 q.bytes,.int .i64 q.log] 23)):=(Kept.refl _ _).alloc _;have HB0:=hI hB0;have hc0:=hB0.cell;clear hB0
 go_enter Tryz.func142,Tryz.ntmps142
 go_wp2_with fail
 refine (C.out _).mono ?_;rintro e w1 ⟨rfl,hk1⟩;have hc1:=(HB0.out.kept hk1 (fun h=>h)).cell;have hB:=hI (Blk.new w1 210 (Bg.mk q 0 0).cells);have hz:=hk1.size;have hk01:=hp0.same hk1;have hz0:=hk01.size;clear hk1 hz;go_wp2
 go_ret2
 exact ⟨_,rfl,hz0,hB.out,hk01.alloc _⟩
theorem qu_cols (w:World) (F:Nat→Prop) (g:Nat) (b:Bg) (h:(bgC g b).p w F):Calls Tryz.prog 73 #[.pointer (some ⟨g,0,none⟩)] w fun e w'=>e = .returned (.int .i64 b.cols)∧w'=w:=by
 have hc:=h.2.cell;unfold Bg.cells at hc;clear h;go_enter Tryz.func73,Tryz.ntmps73;go_wp2;go_ret;exact ⟨rfl,rfl⟩
theorem qu_room (w:World) (F:Nat→Prop) (g:Nat) (b:Bg) (h:(bgC g b).p w F) (hf:b.Fits):Reads 123 #[.pointer (some ⟨g,0,none⟩)] w (.int .i64 b.room):=by
 have hc:=h.2.cell;obtain ⟨h1,h2,h3⟩:=hf;unfold Qt.Ok at h1;obtain ⟨⟨q1,q2,q3,q4⟩,cols,bytes⟩:=b;unfold Bg.cells at hc;unfold Reads;simp only [Bg.room] at *;have hwr:IntKind.i64.wrap (q3-bytes)=q3-bytes:=by rw [IntKind.wrap_i64];omega
 have hp:∀ n,Pure w (w.drewN n):=fun n=>(Kept.refl _ _).drewN n;clear h h1 h2 h3;go_enter Tryz.func123,Tryz.ntmps123;go_wp2
 go_quiet (fail)
 go_wp2;go_ret;exact ⟨by first|rfl|rw [hwr],hp _⟩
theorem qu_open (w:World) (F:Nat→Prop) (g:Nat) (b:Bg) (h:(bgC g b).p w F) (hf:b.Fits):Turn 75 #[.pointer (some ⟨g,0,none⟩)] w F (.bool b.open.1) (bgC g b.open.2):=by
 have hr:=Run.of (P:=bgC g b) h;have hc:=h.2.cell;have hf1:=h.2.frozen;obtain ⟨h1,h2,h3⟩:=hf;unfold Qt.Ok at h1;obtain ⟨⟨q1,q2,q3,q4⟩,cols,bytes⟩:=b;unfold Bg.cells at hc;unfold Turn Bg.open;simp only at *
 by_cases hd:q1≤cols
 ·rw [if_pos hd]
  have hd':(q1≤cols)=True:=by simpa using hd
  have Hr:=hI hr;clear h hr hd;go_enter Tryz.func75,Tryz.ntmps75;go_wp2
  go_quiet (fail)
  go_wp2;go_ret;exact ⟨rfl,(Hr.out.pure ((Kept.refl _ _).drewN _)).fin1⟩
 ·rw [if_neg hd]
  have hd':(q1≤cols)=False:=by simpa using hd
  have hwr:IntKind.i64.wrap (cols+1)=cols+1:=by rw [IntKind.wrap_i64];omega
  have Hr:Hid (∀ m,Run w F ((w.drewN m).setCell ⟨g,4,none⟩ (.int .i64 (cols+1))) [bgC g ⟨⟨q1,q2,q3,q4⟩,cols+1,bytes⟩]):=hI (fun m=>(hr.drewN m).set 0 rfl 4 (.int .i64 (cols+1)));clear h hr hd;go_enter Tryz.func75,Tryz.ntmps75;go_wp2
  go_quiet (fail)
  go_wp2;go_ret;exact ⟨rfl,(Hr.out _).fin1⟩
theorem qu_move (w:World) (F:Nat→Prop) (g:Nat) (b:Bg) (n:Int) (h:(bgC g b).p w F) (hf:b.Fits) (hn : -1000000000000≤n∧n≤1000000000000):Turn 124 #[.pointer (some ⟨g,0,none⟩),.int .i64 n] w F (.bool (b.move n).1) (bgC g (b.move n).2):=by
 have hr:=Run.of (P:=bgC g b) h;have hc:=h.2.cell;have hf1:=h.2.frozen;obtain ⟨h1,h2,h3⟩:=hf;unfold Qt.Ok at h1;obtain ⟨⟨q1,q2,q3,q4⟩,cols,bytes⟩:=b;unfold Bg.cells at hc;unfold Turn Bg.move;simp only at *;have hwr:IntKind.i64.wrap (q3-bytes)=q3-bytes:=by rw [IntKind.wrap_i64];omega
 by_cases hd:q3-bytes<n
 ·rw [if_pos hd]
  have hd':(q3-bytes<n)=True:=by simpa using hd
  have Hr:=hI hr;clear h hr hd;go_enter Tryz.func124,Tryz.ntmps124;go_wp2
  go_quiet (fail)
  go_wp2;go_ret;exact ⟨rfl,(Hr.out.pure ((Kept.refl _ _).drewN _)).fin1⟩
 ·rw [if_neg hd]
  have hd':(q3-bytes<n)=False:=by simpa using hd
  have hwn:IntKind.i64.wrap (bytes+n)=bytes+n:=by rw [IntKind.wrap_i64];omega
  have Hr:Hid (∀ m,Run w F ((w.drewN m).setCell ⟨g,5,none⟩ (.int .i64 (max (bytes+n) 0))) [bgC g ⟨⟨q1,q2,q3,q4⟩,cols,max (bytes+n) 0⟩]):=hI (fun m=>(hr.drewN m).set 0 rfl 5 (.int .i64 (max (bytes+n) 0)));clear h hr hd;go_enter Tryz.func124,Tryz.ntmps124;go_wp2
  go_quiet (fail)
  go_wp2;go_ret;exact ⟨rfl,(Hr.out _).fin1⟩
theorem qu_close (w:World) (F:Nat→Prop) (g:Nat) (b:Bg) (n:Int) (h:(bgC g b).p w F) (hf:b.Fits) (hn : -1000000000000≤n∧n≤1000000000000):Turn 120 #[.pointer (some ⟨g,0,none⟩),.int .i64 n] w F (.tuple #[]) (bgC g (b.close n)):=by
 have hr:=Run.of (P:=bgC g b) h;have hc:=h.2.cell;have hf1:=h.2.frozen;obtain ⟨h1,h2,h3⟩:=hf;unfold Qt.Ok at h1;obtain ⟨⟨q1,q2,q3,q4⟩,cols,bytes⟩:=b;unfold Bg.cells at hc;unfold Turn Bg.close;simp only at *;have hwc:IntKind.i64.wrap (cols-1)=cols-1:=by rw [IntKind.wrap_i64];omega
 have hwb:IntKind.i64.wrap (bytes-min (max n 0) bytes)=bytes-min (max n 0) bytes:=by rw [IntKind.wrap_i64];omega
 have Hr:Hid (Run w F (w.setCell ⟨g,4,none⟩ (.int .i64 (max (cols-1) 0))) [bgC g ⟨⟨q1,q2,q3,q4⟩,max (cols-1) 0,bytes⟩]):=hI (hr.set 0 rfl 4 (.int .i64 (max (cols-1) 0)));clear h hr;go_enter Tryz.func120,Tryz.ntmps120;go_wp2;obtain ⟨W,hW⟩:∃ W,w.setCell ⟨g,4,none⟩ (.int .i64 (max (cols-1) 0))=W:=⟨_,rfl⟩;rw [hW] at Hr ⊢;have hb:=Hr.out.blk 0 rfl;have hc2:=hb.cell 5;have hf2:=hb.frozen 5;unfold Bg.cells at hc2
 simp only at hc2;replace hc2:W.cell? ⟨g,5,none⟩=some (.int .i64 bytes):=hc2;clear hc hf1 hW hb
 go_region
 have hr5:Run w F (W.setCell ⟨g,5,none⟩ (.int .i64 (bytes-min (max n 0) bytes))).drew [bgC g ⟨⟨q1,q2,q3,q4⟩,max (cols-1) 0,bytes-min (max n 0) bytes⟩]:=(Hr.out.set 0 rfl 5 (.int .i64 (bytes-min (max n 0) bytes))).drew;have Hr5:=hI hr5;clear hr5 hc2 hf2
 go_end0
 exact ⟨rfl,Hr5.out.fin1⟩
end
end Go.Proofs.YtjfpfeapbcjioaaGreat
