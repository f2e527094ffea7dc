/-
  The texts of this claim, put together: CaA.
-/
import Derived.Test.YtjfpfeapbcjioaaGreatProg
import Derived.Lib.ConvBytes
import Derived.BigQuiet
import Derived.Test.YtjfpfeapbcjioaaGreatZCaP
import Derived.Test.YtjfpfeapbcjioaaGreatZBlk
set_option linter.unusedSimpArgs false
set_option linter.unusedVariables false
set_option maxHeartbeats 12800000
set_option maxRecDepth 100000
namespace Go.Proofs.YtjfpfeapbcjioaaGreat
section
open Go.RowKit
structure Bs (w:World) (g:Nat) (l:List UInt8):Prop where
 lt:g<w.heap.size
 cell:∀ j b,l[j]? = some b→w.cell? ⟨g,j,none⟩=some (.int .u8 (b.toNat:Int))
 frz:∀ j,j<l.length→w.frozen? ⟨g,j,none⟩=false
theorem Bs.set {w:World} {g:Nat} {l:List UInt8} (h:Bs w g l) (k:Nat) (b:UInt8):Bs (w.setCell ⟨g,k,none⟩ (.int .u8 (b.toNat:Int))) g (l.set k b):=by
 refine ⟨by simpa using h.lt,fun j c hj=>?_,fun j hj=>by simpa using h.frz j (by simpa using hj)⟩
 rw [List.getElem?_set] at hj
 by_cases hk:k=j
 ·subst hk
  rw [if_pos rfl] at hj
  by_cases hl:k<l.length
  ·rw [if_pos hl] at hj
   injection hj with hj
   subst hj;exact World.cell?_setCell_same _ _ _ (h.cell k _ (List.getElem?_eq_getElem hl))
  ·rw [if_neg hl] at hj;cases hj
 ·rw [if_neg hk] at hj
  rw [World.cell?_setCell_other _ _ _ _ (by intro e;injection e with e1 e2 e3;exact hk e2)]
  exact h.cell j c hj
theorem Bs.sl {w:World} {g:Nat} {l:List UInt8} (h:Bs w g l):Sl w (fun b=>b=g) 1 (some ⟨g,0,none⟩) l.length (bvs l) :=
 ⟨by simp,fun _=>⟨g,0,rfl,rfl,h.lt,fun j hj=>by
  rw [bvs_length] at hj;rw [Nat.zero_add,h.cell j _ (List.getElem?_eq_getElem hj),bvs_at _ _ hj]⟩⟩
theorem Bs.new (w:World) (e:TypeId) (s:ByteArray):Bs (Lib.bytesWorld w e s) w.heap.size s.data.toList:=by
 refine ⟨by rw [Lib.bytesWorld_size];omega,fun j b hj=>?_,fun j hj=>?_⟩
 ·have hl:=(List.getElem?_eq_some_iff.1 hj).1
  rw [Lib.bytesWorld_cell w e s j (by simpa using hl),List.getD,hj]
  rfl
 ·have hsz:s.size≤(Lib.bytesCells w e s).size:=by simp [Lib.bytesCells]
  have hj':j<s.size:=by simpa using hj
  simp [World.frozen?,Lib.bytesWorld_at_new];omega
theorem pure_bytes (w:World) (e:TypeId) (s:ByteArray):Pure w (Lib.bytesWorld w e s) :=
 ⟨rfl,rfl,rfl,by rw [Lib.bytesWorld_size];omega,fun k hk _=>Lib.bytesWorld_at_old w e s k hk⟩
theorem up_any (b:UInt8) (w:World):Calls Tryz.prog 135 #[.int .u8 (b.toNat:Int)] w fun e w'=>e = .returned (.bool (decide (65≤b.toNat∧b.toNat≤90)))∧w=w':=by
 have hb256:b.toNat<256:=b.toNat_lt
 by_cases h1:65≤b.toNat
 ·by_cases h2:b.toNat≤90
  ·go_enter Tryz.func135,Tryz.ntmps135
   go_wp2;go_ret;exact cz71
  ·go_enter Tryz.func135,Tryz.ntmps135
   go_wp2;go_ret;exact cz71
 ·go_enter Tryz.func135,Tryz.ntmps135
  go_wp2;go_ret;exact ⟨by simp [h1],rfl⟩
theorem ref_fold (s:ByteArray) (w:World) (hs:s.size≤1000) :
  Calls Tryz.prog 277 #[.string s] w fun e w'=>e = .returned (.string ⟨(foldL s.data.toList).toArray⟩)∧Pure w w':=by
 have hcv:=Lib.run_convert_string_bytes (P:=Tryz.prog) w 9 352 5 s (u:=.string) Tryz.underlying9 Tryz.underlying352 Tryz.underlying5;have hB:=Bs.new w 5 s;have hp:=pure_bytes w 5 s;generalize Lib.bytesWorld w 5 s=W at hcv hB hp;generalize grownCap w s.size 0 5=c at hcv;have hn:s.data.toList.length=s.size:=by simp
 generalize hl:s.data.toList=l at hB hn ⊢;clear hl;go_enter Tryz.func277,Tryz.ntmps277;go_wp2_with (simp only [hcv]);clear hcv
 go_loopw [4] (fun i wr=>∃ k:Nat,i = .int .i64 k∧k≤s.size∧Bs wr w.heap.size (foldTo k l)∧Pure w wr) (fun i _=>s.size-(intOf i).toNat)
 case atStart=>exact ⟨0,rfl,Nat.zero_le _,by rw [foldTo_zero];exact hB,hp⟩
 case round =>
  have hu:=fun b w=>up_any b w;obtain ⟨k,rfl,hk,hb,hkp⟩:=hrel
  by_cases hlt:k<s.size
  ·obtain ⟨b,hg⟩:∃ b,l[k]? = some b:=⟨_,List.getElem?_eq_getElem (by omega)⟩
   have hc:=hb.cell k b ((foldTo_at l k).trans hg);have hf:=hb.frz k (by rw [foldTo_length];omega)
   have hn1:=foldTo_succ l k b hg;have hst:=fun c=>hb.set k c;have hks:=fun v=>hkp.setCell (p:=⟨w.heap.size,k,none⟩) (.inr (Nat.le_refl _)) v;have hb256:b.toNat<256:=b.toNat_lt
   by_cases hup:65≤b.toNat∧b.toNat≤90
   ·obtain ⟨h1,h2⟩:=hup
    have he:=(foldB_up b h1 h2).2;have hst:=hst (foldB b);rw [he,←hn1] at hst;have Hst:=hI hst;have Hks:=hI hks;have He:=hI hn1;clear hst hks hn1 he hb hkp hg;go_wp2_with (go_at_call 135;refine (hu b wr).mono ?_;rintro e w' ⟨rfl,rfl⟩);refine ⟨⟨k+1,by first|rfl|go_num,hlt,?_,?_⟩,by first|omega|(simp [intOf];omega)|(simp only [intOf];omega)⟩
    ·simpa using Hst.out
    ·simpa using Hks.out _
   ·have he:=foldB_no b hup
    have h3:foldTo (k+1) l=foldTo k l:=by rw [hn1,he];exact set_same _ _ _ ((foldTo_at l k).trans hg)
    rw [←h3] at hb;have Hb:=hI hb;have Hk:=hI hkp;have He:=hI hn1;have He2:=hI he;have He3:=hI h3;clear hn1 he h3 hb hkp hg hst hks
    by_cases h1:65≤b.toNat
    ·have h2:¬b.toNat≤90:=fun h=>hup ⟨h1,h⟩
     clear hup;go_wp2_with (go_at_call 135;refine (hu b wr).mono ?_;rintro e w' ⟨rfl,rfl⟩);exact ⟨⟨k+1,by first|rfl|go_num,hlt,Hb.out,Hk.out⟩,by first|omega|(simp [intOf];omega)|(simp only [intOf];omega)⟩
    ·clear hup
     go_wp2_with (go_at_call 135;refine (hu b wr).mono ?_;rintro e w' ⟨rfl,rfl⟩)
     exact ⟨⟨k+1,by first|rfl|go_num,hlt,Hb.out,Hk.out⟩,by first|omega|(simp [intOf];omega)|(simp only [intOf];omega)⟩
  ·have hke:k=s.size:=by omega
   subst hke;have hfa:foldTo s.size l=foldL l:=by rw [←hn];exact foldTo_all l
   rw [hfa] at hb;have hsl:=hb.sl;rw [foldL_length,hn] at hsl;have hcs:=run_str (P:=Tryz.prog) hsl 352 9 5 c Tryz.underlying352 Tryz.underlying5 Tryz.underlying9;have Hk:=hI hkp;clear hb hkp hsl hfa;go_wp2_with (simp only [hcs]);go_ret;exact ⟨rfl,Hk.out⟩
theorem info_u8:(Tryz.prog.info? 5).map (fun i=>(i.zero,i.size,i.bytes))=some (some (.int .u8 0),1,1):=by kernel_rfl
def CleanPost (w:World) (r:List UInt8×Int) (e:Ending) (w':World):Prop:=e = .returned (.tuple #[.string ⟨r.1.toArray⟩,.int .i64 r.2])∧Pure w w'
def accN (v0:Nat) (l:List UInt8):Nat→Nat
 | 0=>v0
 | j+1=>accN v0 l j*64+(l.getD (j+1) 0).toNat % 64
def contN (l:List UInt8) (n:Nat):Prop:=∀ i,1≤i→i<n→(l.getD i 0).toNat / 64=2
instance (l:List UInt8) (n:Nat):Decidable (contN l n):=decidable_of_iff (∀ i,i<n→1≤i→(l.getD i 0).toNat / 64=2) ⟨fun h i a b=>h i b a,fun h i a b=>h i b a⟩
def leadN (l:List UInt8) (n least v0:Nat):Nat :=
 if l.length<n then 0 else if ¬contN l n then 0 else if accN v0 l (n-1)<least∨1114111<accN v0 l (n-1)∨(55296≤accN v0 l (n-1)∧accN v0 l (n-1)≤57343) then 0 else n
def signL (l:List UInt8):Nat :=
 if (l.getD 0 0).toNat<128 then 1
 else if 194≤(l.getD 0 0).toNat∧(l.getD 0 0).toNat≤223 then leadN l 2 128 ((l.getD 0 0).toNat % 32)
 else if 224≤(l.getD 0 0).toNat∧(l.getD 0 0).toNat≤239 then leadN l 3 2048 ((l.getD 0 0).toNat % 16)
 else if 240≤(l.getD 0 0).toNat∧(l.getD 0 0).toNat≤244 then leadN l 4 65536 ((l.getD 0 0).toNat % 8)
 else 0
theorem accN_lt (v0:Nat) (l:List UInt8):∀ j,accN v0 l j<(v0+1)*64 ^ j
 | 0=>by simp [accN]
 | j+1=>by
  have h:=accN_lt v0 l j;rw [accN,Nat.pow_succ,←Nat.mul_assoc];generalize (v0+1)*64 ^ j=X at *;omega
theorem and192 (d:Nat) (h:d<256):(bits .and .u8 (d:Int) 192 != 128) = !decide (d / 64=2):=by
 have:∀ d:Fin 256,(bits .and .u8 ((d:Nat):Int) 192 != 128) = !decide ((d:Nat) / 64=2):=by decide +kernel
 exact this ⟨d,h⟩
theorem contN_succ {l:List UInt8} {j:Nat} {d:UInt8} (h:contN l j) (hd:l.getD j 0=d) (hc:d.toNat / 64=2):contN l (j+1):=fun i h1 h2=>by
 by_cases hi:i=j
 ·rw [hi,hd];exact hc
 ·exact h i h1 (by omega)
theorem contN_not {l:List UInt8} {j n:Nat} {d:UInt8} (h1:1≤j) (hj:j<n) (hd:l.getD j 0=d) (hc:¬d.toNat / 64=2):¬contN l n:=fun h=>hc (by have:=h j h1 hj;rwa [hd] at this)
theorem or_low (V:Int) (d:Nat) (h0:0≤V) (h1:V<9223372036854775807 / 64):bits .or .i64 (V*64) ((d:Int) % 64)=V*64+(d:Int) % 64:=by
 obtain ⟨N,rfl⟩:=Int.eq_ofNat_of_zero_le h0;have key:∀ a b:Nat,a<18446744073709551616→b<18446744073709551616→bits .or .i64 (a:Int) (b:Int)=IntKind.i64.wrap ((a ||| b:Nat):Int):=fun a b ha hb=>by
  show IntKind.i64.wrap ((BitVec.ofInt 64 (a:Int) ||| BitVec.ofInt 64 (b:Int)).toNat:Int)=_
  rw [BitVec.toNat_or,ofInt_u64 a ha,ofInt_u64 b hb]
 have h2:=key (N*64) (d % 64) (by omega) (by omega)
 have h3:N*64 ||| d % 64=N*64+d % 64:=by
  have:=Nat.shiftLeft_add_eq_or_of_lt (show d % 64<2 ^ 6 by omega) N
  rw [Nat.shiftLeft_eq] at this;exact this.symm
 rw [h3] at h2;have h4:IntKind.i64.wrap ((N*64+d % 64:Nat):Int)=((N*64+d % 64:Nat):Int):=by
  rw [IntKind.wrap_i64];omega
 rw [h4] at h2;simpa using h2
theorem sign_any (s:ByteArray) (k:Nat) (w:World) (hs:s.size≤1000) (hk:k<s.size) :
  Calls Tryz.prog 279 #[.string s,.int .i64 k] w fun e w'=>e = .returned (.int .i64 (signL (s.data.toList.drop k)))∧w=w':=by
 have hget:=str_at s;have hn:s.data.toList.length=s.size:=by simp
 generalize hl:s.data.toList=l at *;clear hl;obtain ⟨b,hg⟩:∃ b,l[k]? = some b:=⟨_,List.getElem?_eq_getElem (by omega)⟩
 have hgb:=hget k b hk hg;have Hget:=hI hget;have h0:(l.drop k).getD 0 0=b:=by simp [List.getD,hg]
 have H0:=hI h0;have hb256:b.toNat<256:=b.toNat_lt;clear hget h0
 by_cases c1:b.toNat<128
 ·have e:signL (l.drop k)=1:=by rw [signL,H0.out,if_pos c1]
  rw [e];go_enter Tryz.func279,Tryz.ntmps279;go_wp2;go_ret;exact ⟨rfl,rfl⟩
 ·by_cases c2:194≤b.toNat∧b.toNat≤223
  ·obtain ⟨c3,c4⟩:=c2
   have E:Hid (signL (l.drop k)=leadN (l.drop k) 2 128 (b.toNat % 32)):=by rw [Hid,signL,H0.out];rw [if_neg c1,if_pos ⟨c3,c4⟩]
   by_cases hlen:s.size-k<2
   ·have e:signL (l.drop k)=0:=by rw [E.out,leadN,if_pos (by rw [List.length_drop,hn];exact hlen)]
    rw [e];clear e;have hlen':(s.size:Int)-(k:Int)<2:=by omega
    go_enter Tryz.func279,Tryz.ntmps279
    go_wp2;go_ret;exact ⟨rfl,rfl⟩
   ·have hlen':¬((s.size:Int)-(k:Int)<2):=by omega
    replace E:Hid (signL (l.drop k)=if ¬contN (l.drop k) 2 then 0 else if accN (b.toNat % 32) (l.drop k) (2-1)<128∨1114111<accN (b.toNat % 32) (l.drop k) (2-1)∨(55296≤accN (b.toNat % 32) (l.drop k) (2-1)∧accN (b.toNat % 32) (l.drop k) (2-1)≤57343) then 0 else 2):=by
     rw [Hid,E.out,leadN,if_neg (by rw [List.length_drop,hn];exact hlen)]
    go_enter Tryz.func279,Tryz.ntmps279
    go_wp2
    go_loop [8,9] (fun v i=>∃ (j:Nat) (V:Int),1≤j∧j≤2∧i = .int .i64 j∧v = .int .i64 V∧0≤V∧Hid (V=(accN (b.toNat % 32) (l.drop k) (j-1):Nat)∧contN (l.drop k) j)) (fun _ i=>2-(intOf i).toNat)
    case atStart=>exact ⟨1,_,by omega,by omega,rfl,rfl,by omega,⟨by simp [accN],fun i h1 h2=>absurd h1 (by omega)⟩⟩
    case round =>
     obtain ⟨j,V,hj1,hj2,rfl,rfl,hV0,hh⟩:=hrel;have hlt:=accN_lt (b.toNat % 32) (l.drop k) (j-1);rw [←Int.ofNat_lt,←hh.out.1] at hlt
     by_cases hj:j<2
     ·obtain ⟨d,hd⟩:∃ d,l[k+j]? = some d:=⟨_,List.getElem?_eq_getElem (by omega)⟩
      have hgd:=Hget.out (k+j) d (by omega) hd
      have hd256:d.toNat<256:=d.toNat_lt;have hD:Hid ((l.drop k).getD j 0=d):=by simp [Hid,List.getD,hd]
      have h192:=and192 d.toNat hd256;have hVb:V<32768:=by
       rcases (show j=1∨j=2∨j=3 by omega) with rfl|rfl|rfl <;> simp at hlt <;> omega
      clear hlt
      by_cases hc:d.toNat / 64=2
      ·rw [decide_eq_true hc] at h192
       have h192':(bits .and .u8 (d.toNat:Int) 192 != 128)=false:=h192;have hor:=or_low V d.toNat hV0 (by omega)
       have hor2:bits .or .i64 (V*64) ((d.toNat:Int) % 64)=V*64+(d.toNat:Int) % 64:=hor;have Hc:=hI hc;clear h192 hc hor;go_wp2
       go_round
       case measure=>first|omega|(simp [intOf];omega)
       case rel =>
        refine ⟨j+1,_,by omega,hj,by first|rfl|go_num,rfl,?_,?_,contN_succ hh.out.2 hD.out Hc.out⟩
        ·omega
        ·have h1:=hh.out.1
         rw [show j+1-1=(j-1)+1 from by omega,accN,show j-1+1=j from by omega,hD.out,h1]
         simp
      ·rw [decide_eq_false hc] at h192
       have h192':(bits .and .u8 (d.toNat:Int) 192 != 128)=true:=h192;have e:signL (l.drop k)=0:=by rw [E.out,if_pos (contN_not hj1 hj hD.out hc)]
       have He:=hI e;clear h192 e hc;go_wp2;go_ret;exact ⟨by rw [He.out];rfl,rfl⟩
     ·have hje:j=2:=by omega
      subst hje;rw [if_neg (fun h=>h hh.out.2)] at E;have hV:=hh.out.1;generalize accN (b.toNat % 32) (l.drop k) (2-1)=X at *;have hX:V=(X:Int):=hV;clear hV hh hlt;subst hX
      by_cases x1:X<128
      ·have e:signL (l.drop k)=0:=by rw [E.out,if_pos (.inl x1)]
       have He:=hI e;clear e E;go_wp2
       all_goals (go_ret;exact ⟨by rw [He.out];rfl,rfl⟩)
      ·by_cases x2:1114111<X
       ·have e:signL (l.drop k)=0:=by rw [E.out,if_pos (.inr (.inl x2))]
        have He:=hI e;clear e E;go_wp2
        all_goals (go_ret;exact ⟨by rw [He.out];rfl,rfl⟩)
       ·by_cases x3:55296≤X
        ·by_cases x4:X≤57343
         ·have e:signL (l.drop k)=0:=by rw [E.out,if_pos (.inr (.inr ⟨x3,x4⟩))]
          have He:=hI e;clear e E;go_wp2
          all_goals (go_ret;exact ⟨by rw [He.out];rfl,rfl⟩)
         ·have e:signL (l.drop k)=2:=by rw [E.out,if_neg (by omega)]
          have He:=hI e;clear e E;go_wp2
          all_goals (go_ret;exact ⟨by rw [He.out];rfl,rfl⟩)
        ·have e:signL (l.drop k)=2:=by rw [E.out,if_neg (by omega)]
         have He:=hI e;clear e E;go_wp2
         all_goals (go_ret;exact ⟨by rw [He.out];rfl,rfl⟩)
  ·by_cases d2:224≤b.toNat∧b.toNat≤239
   ·have n1:¬b.toNat≤223:=by omega
    obtain ⟨c3,c4⟩:=d2;have E:Hid (signL (l.drop k)=leadN (l.drop k) 3 2048 (b.toNat % 16)):=by rw [Hid,signL,H0.out];rw [if_neg c1,if_neg c2,if_pos ⟨c3,c4⟩]
    by_cases hlen:s.size-k<3
    ·have e:signL (l.drop k)=0:=by rw [E.out,leadN,if_pos (by rw [List.length_drop,hn];exact hlen)]
     rw [e];clear e;have hlen':(s.size:Int)-(k:Int)<3:=by omega
     go_enter Tryz.func279,Tryz.ntmps279
     go_wp2;go_ret;exact ⟨rfl,rfl⟩
    ·have hlen':¬((s.size:Int)-(k:Int)<3):=by omega
     replace E:Hid (signL (l.drop k)=if ¬contN (l.drop k) 3 then 0 else if accN (b.toNat % 16) (l.drop k) (3-1)<2048∨1114111<accN (b.toNat % 16) (l.drop k) (3-1)∨(55296≤accN (b.toNat % 16) (l.drop k) (3-1)∧accN (b.toNat % 16) (l.drop k) (3-1)≤57343) then 0 else 3):=by
      rw [Hid,E.out,leadN,if_neg (by rw [List.length_drop,hn];exact hlen)]
     go_enter Tryz.func279,Tryz.ntmps279
     go_wp2
     go_loop [8,9] (fun v i=>∃ (j:Nat) (V:Int),1≤j∧j≤3∧i = .int .i64 j∧v = .int .i64 V∧0≤V∧Hid (V=(accN (b.toNat % 16) (l.drop k) (j-1):Nat)∧contN (l.drop k) j)) (fun _ i=>3-(intOf i).toNat)
     case atStart=>exact ⟨1,_,by omega,by omega,rfl,rfl,by omega,⟨by simp [accN],fun i h1 h2=>absurd h1 (by omega)⟩⟩
     case round =>
      obtain ⟨j,V,hj1,hj2,rfl,rfl,hV0,hh⟩:=hrel;have hlt:=accN_lt (b.toNat % 16) (l.drop k) (j-1);rw [←Int.ofNat_lt,←hh.out.1] at hlt
      by_cases hj:j<3
      ·obtain ⟨d,hd⟩:∃ d,l[k+j]? = some d:=⟨_,List.getElem?_eq_getElem (by omega)⟩
       have hgd:=Hget.out (k+j) d (by omega) hd
       have hd256:d.toNat<256:=d.toNat_lt;have hD:Hid ((l.drop k).getD j 0=d):=by simp [Hid,List.getD,hd]
       have h192:=and192 d.toNat hd256;have hVb:V<32768:=by
        rcases (show j=1∨j=2∨j=3 by omega) with rfl|rfl|rfl <;> simp at hlt <;> omega
       clear hlt
       by_cases hc:d.toNat / 64=2
       ·rw [decide_eq_true hc] at h192
        have h192':(bits .and .u8 (d.toNat:Int) 192 != 128)=false:=h192;have hor:=or_low V d.toNat hV0 (by omega)
        have hor2:bits .or .i64 (V*64) ((d.toNat:Int) % 64)=V*64+(d.toNat:Int) % 64:=hor;have Hc:=hI hc;clear h192 hc hor;go_wp2
        go_round
        case measure=>first|omega|(simp [intOf];omega)
        case rel =>
         refine ⟨j+1,_,by omega,hj,by first|rfl|go_num,rfl,?_,?_,contN_succ hh.out.2 hD.out Hc.out⟩
         ·omega
         ·have h1:=hh.out.1
          rw [show j+1-1=(j-1)+1 from by omega,accN,show j-1+1=j from by omega,hD.out,h1]
          simp
       ·rw [decide_eq_false hc] at h192
        have h192':(bits .and .u8 (d.toNat:Int) 192 != 128)=true:=h192;have e:signL (l.drop k)=0:=by rw [E.out,if_pos (contN_not hj1 hj hD.out hc)]
        have He:=hI e;clear h192 e hc;go_wp2;go_ret;exact ⟨by rw [He.out];rfl,rfl⟩
      ·have hje:j=3:=by omega
       subst hje;rw [if_neg (fun h=>h hh.out.2)] at E;have hV:=hh.out.1;generalize accN (b.toNat % 16) (l.drop k) (3-1)=X at *;have hX:V=(X:Int):=hV;clear hV hh hlt;subst hX
       by_cases x1:X<2048
       ·have e:signL (l.drop k)=0:=by rw [E.out,if_pos (.inl x1)]
        have He:=hI e;clear e E;go_wp2
        all_goals (go_ret;exact ⟨by rw [He.out];rfl,rfl⟩)
       ·by_cases x2:1114111<X
        ·have e:signL (l.drop k)=0:=by rw [E.out,if_pos (.inr (.inl x2))]
         have He:=hI e;clear e E;go_wp2
         all_goals (go_ret;exact ⟨by rw [He.out];rfl,rfl⟩)
        ·by_cases x3:55296≤X
         ·by_cases x4:X≤57343
          ·have e:signL (l.drop k)=0:=by rw [E.out,if_pos (.inr (.inr ⟨x3,x4⟩))]
           have He:=hI e;clear e E;go_wp2
           all_goals (go_ret;exact ⟨by rw [He.out];rfl,rfl⟩)
          ·have e:signL (l.drop k)=3:=by rw [E.out,if_neg (by omega)]
           have He:=hI e;clear e E;go_wp2
           all_goals (go_ret;exact ⟨by rw [He.out];rfl,rfl⟩)
         ·have e:signL (l.drop k)=3:=by rw [E.out,if_neg (by omega)]
          have He:=hI e;clear e E;go_wp2
          all_goals (go_ret;exact ⟨by rw [He.out];rfl,rfl⟩)
   ·by_cases e2:240≤b.toNat∧b.toNat≤244
    ·have n1:¬b.toNat≤223:=by omega
     have n2:¬b.toNat≤239:=by omega
     obtain ⟨c3,c4⟩:=e2;have E:Hid (signL (l.drop k)=leadN (l.drop k) 4 65536 (b.toNat % 8)):=by rw [Hid,signL,H0.out];rw [if_neg c1,if_neg c2,if_neg d2,if_pos ⟨c3,c4⟩]
     by_cases hlen:s.size-k<4
     ·have e:signL (l.drop k)=0:=by rw [E.out,leadN,if_pos (by rw [List.length_drop,hn];exact hlen)]
      rw [e];clear e;have hlen':(s.size:Int)-(k:Int)<4:=by omega
      go_enter Tryz.func279,Tryz.ntmps279
      go_wp2;go_ret;exact ⟨rfl,rfl⟩
     ·have hlen':¬((s.size:Int)-(k:Int)<4):=by omega
      replace E:Hid (signL (l.drop k)=if ¬contN (l.drop k) 4 then 0 else if accN (b.toNat % 8) (l.drop k) (4-1)<65536∨1114111<accN (b.toNat % 8) (l.drop k) (4-1)∨(55296≤accN (b.toNat % 8) (l.drop k) (4-1)∧accN (b.toNat % 8) (l.drop k) (4-1)≤57343) then 0 else 4):=by
       rw [Hid,E.out,leadN,if_neg (by rw [List.length_drop,hn];exact hlen)]
      go_enter Tryz.func279,Tryz.ntmps279
      go_wp2
      go_loop [8,9] (fun v i=>∃ (j:Nat) (V:Int),1≤j∧j≤4∧i = .int .i64 j∧v = .int .i64 V∧0≤V∧Hid (V=(accN (b.toNat % 8) (l.drop k) (j-1):Nat)∧contN (l.drop k) j)) (fun _ i=>4-(intOf i).toNat)
      case atStart=>exact ⟨1,_,by omega,by omega,rfl,rfl,by omega,⟨by simp [accN],fun i h1 h2=>absurd h1 (by omega)⟩⟩
      case round =>
       obtain ⟨j,V,hj1,hj2,rfl,rfl,hV0,hh⟩:=hrel;have hlt:=accN_lt (b.toNat % 8) (l.drop k) (j-1);rw [←Int.ofNat_lt,←hh.out.1] at hlt
       by_cases hj:j<4
       ·obtain ⟨d,hd⟩:∃ d,l[k+j]? = some d:=⟨_,List.getElem?_eq_getElem (by omega)⟩
        have hgd:=Hget.out (k+j) d (by omega) hd
        have hd256:d.toNat<256:=d.toNat_lt;have hD:Hid ((l.drop k).getD j 0=d):=by simp [Hid,List.getD,hd]
        have h192:=and192 d.toNat hd256;have hVb:V<32768:=by
         rcases (show j=1∨j=2∨j=3 by omega) with rfl|rfl|rfl <;> simp at hlt <;> omega
        clear hlt
        by_cases hc:d.toNat / 64=2
        ·rw [decide_eq_true hc] at h192
         have h192':(bits .and .u8 (d.toNat:Int) 192 != 128)=false:=h192;have hor:=or_low V d.toNat hV0 (by omega)
         have hor2:bits .or .i64 (V*64) ((d.toNat:Int) % 64)=V*64+(d.toNat:Int) % 64:=hor;have Hc:=hI hc;clear h192 hc hor;go_wp2
         go_round
         case measure=>first|omega|(simp [intOf];omega)
         case rel =>
          refine ⟨j+1,_,by omega,hj,by first|rfl|go_num,rfl,?_,?_,contN_succ hh.out.2 hD.out Hc.out⟩
          ·omega
          ·have h1:=hh.out.1
           rw [show j+1-1=(j-1)+1 from by omega,accN,show j-1+1=j from by omega,hD.out,h1]
           simp
        ·rw [decide_eq_false hc] at h192
         have h192':(bits .and .u8 (d.toNat:Int) 192 != 128)=true:=h192;have e:signL (l.drop k)=0:=by rw [E.out,if_pos (contN_not hj1 hj hD.out hc)]
         have He:=hI e;clear h192 e hc;go_wp2;go_ret;exact ⟨by rw [He.out];rfl,rfl⟩
       ·have hje:j=4:=by omega
        subst hje;rw [if_neg (fun h=>h hh.out.2)] at E;have hV:=hh.out.1;generalize accN (b.toNat % 8) (l.drop k) (4-1)=X at *;have hX:V=(X:Int):=hV;clear hV hh hlt;subst hX
        by_cases x1:X<65536
        ·have e:signL (l.drop k)=0:=by rw [E.out,if_pos (.inl x1)]
         have He:=hI e;clear e E;go_wp2
         all_goals (go_ret;exact ⟨by rw [He.out];rfl,rfl⟩)
        ·by_cases x2:1114111<X
         ·have e:signL (l.drop k)=0:=by rw [E.out,if_pos (.inr (.inl x2))]
          have He:=hI e;clear e E;go_wp2
          all_goals (go_ret;exact ⟨by rw [He.out];rfl,rfl⟩)
         ·by_cases x3:55296≤X
          ·by_cases x4:X≤57343
           ·have e:signL (l.drop k)=0:=by rw [E.out,if_pos (.inr (.inr ⟨x3,x4⟩))]
            have He:=hI e;clear e E;go_wp2
            all_goals (go_ret;exact ⟨by rw [He.out];rfl,rfl⟩)
           ·have e:signL (l.drop k)=4:=by rw [E.out,if_neg (by omega)]
            have He:=hI e;clear e E;go_wp2
            all_goals (go_ret;exact ⟨by rw [He.out];rfl,rfl⟩)
          ·have e:signL (l.drop k)=4:=by rw [E.out,if_neg (by omega)]
           have He:=hI e;clear e E;go_wp2
           all_goals (go_ret;exact ⟨by rw [He.out];rfl,rfl⟩)
    ·have e:signL (l.drop k)=0:=by rw [signL,H0.out,if_neg c1,if_neg c2,if_neg d2,if_neg e2]
     rw [e];clear e
     by_cases f1:b.toNat<194
     ·clear c2 d2 e2
      go_enter Tryz.func279,Tryz.ntmps279
      go_wp2;go_ret;exact ⟨rfl,rfl⟩
     ·have f2:244<b.toNat:=by omega
      clear c2 d2 e2;go_enter Tryz.func279,Tryz.ntmps279;go_wp2;go_ret;exact ⟨rfl,rfl⟩
end
end Go.Proofs.YtjfpfeapbcjioaaGreat
