/-
  The texts of this claim, put together: CaB, CaT.
-/
import Derived.Lib.TrimUEq
import Derived.Lib.MapLaws
import Derived.Test.YtjfpfeapbcjioaaGreatZCaA
set_option linter.unusedSimpArgs false
set_option linter.unusedVariables false
set_option maxHeartbeats 12800000
set_option maxRecDepth 100000
namespace Go.Proofs.YtjfpfeapbcjioaaGreat
section
open Go.RowKit
theorem contN_2 (l:List UInt8):contN l 2↔(l.getD 1 0).toNat / 64=2 :=
 ⟨fun h=>h 1 (by omega) (by omega),fun h i h1 h2=>by rw [show i=1 by omega];exact h⟩
theorem contN_3 (l:List UInt8):contN l 3↔(l.getD 1 0).toNat / 64=2∧(l.getD 2 0).toNat / 64=2 :=
 ⟨fun h=>⟨h 1 (by omega) (by omega),h 2 (by omega) (by omega)⟩,fun h i h1 h2=>by
  rcases (show i=1∨i=2 by omega) with rfl|rfl
  ·exact h.1
  ·exact h.2⟩
theorem contN_4 (l:List UInt8):contN l 4↔(l.getD 1 0).toNat / 64=2∧(l.getD 2 0).toNat / 64=2∧(l.getD 3 0).toNat / 64=2 :=
 ⟨fun h=>⟨h 1 (by omega) (by omega),h 2 (by omega) (by omega),h 3 (by omega) (by omega)⟩,fun h i h1 h2=>by
  rcases (show i=1∨i=2∨i=3 by omega) with rfl|rfl|rfl
  ·exact h.1
  ·exact h.2.1
  ·exact h.2.2⟩
theorem getD_cont (l:List UInt8) (i:Nat) (h:(l.getD i 0).toNat / 64=2):i<l.length:=by
 by_cases hi:i<l.length
 ·exact hi
 ·rw [List.getD,List.getElem?_eq_none (by omega)] at h
  simp at h
section
variable {n x0 x1 x2 x3:Nat}
theorem dec2 (h:194≤x0∧x0≤223) (g1:x1 / 64=2→1<n):Lib.decodeN n x0 x1 x2 x3=if x1 / 64=2 then (x0 % 32*64+x1 % 64,2) else (65533,1):=by
 unfold Lib.decodeN;rw [if_neg (by omega)]
 by_cases c:x1 / 64=2
 ·rw [if_pos ⟨by omega,g1 c,c⟩,if_pos (by omega),if_pos c]
 ·rw [if_neg (by omega),if_neg (by omega),if_neg (by omega),if_neg c]
theorem dec3 (h:224≤x0∧x0≤239) (g1:x1 / 64=2→1<n) (g2:x2 / 64=2→2<n):Lib.decodeN n x0 x1 x2 x3 =
  if (x1 / 64=2∧x2 / 64=2)∧2048≤x0 % 16*4096+x1 % 64*64+x2 % 64∧¬(55296≤x0 % 16*4096+x1 % 64*64+x2 % 64∧x0 % 16*4096+x1 % 64*64+x2 % 64≤57343) then (x0 % 16*4096+x1 % 64*64+x2 % 64,3) else (65533,1):=by
 unfold Lib.decodeN;rw [if_neg (by omega),if_neg (by omega)]
 by_cases c:x1 / 64=2∧x2 / 64=2
 ·rw [if_pos ⟨by omega,⟨g1 c.1,c.1⟩,g2 c.2,c.2⟩]
  by_cases d:2048≤x0 % 16*4096+x1 % 64*64+x2 % 64∧¬(55296≤x0 % 16*4096+x1 % 64*64+x2 % 64∧x0 % 16*4096+x1 % 64*64+x2 % 64≤57343)
  ·rw [if_pos (by omega),if_pos ⟨c,d⟩]
  ·rw [if_neg (by omega),if_neg (fun h=>d h.2)]
 ·rw [if_neg (by omega),if_neg (by omega),if_neg (fun h=>c h.1)]
theorem dec4 (h:240≤x0∧x0≤244) (g1:x1 / 64=2→1<n) (g2:x2 / 64=2→2<n) (g3:x3 / 64=2→3<n):Lib.decodeN n x0 x1 x2 x3 =
  if (x1 / 64=2∧x2 / 64=2∧x3 / 64=2)∧65536≤x0 % 8*262144+x1 % 64*4096+x2 % 64*64+x3 % 64∧¬1114111<x0 % 8*262144+x1 % 64*4096+x2 % 64*64+x3 % 64 then (x0 % 8*262144+x1 % 64*4096+x2 % 64*64+x3 % 64,4) else (65533,1):=by
 unfold Lib.decodeN;rw [if_neg (by omega),if_neg (by omega),if_neg (by omega)]
 by_cases c:x1 / 64=2∧x2 / 64=2∧x3 / 64=2
 ·rw [if_pos ⟨by omega,⟨g1 c.1,c.1⟩,⟨g2 c.2.1,c.2.1⟩,g3 c.2.2,c.2.2⟩]
  by_cases d:65536≤x0 % 8*262144+x1 % 64*4096+x2 % 64*64+x3 % 64∧¬1114111<x0 % 8*262144+x1 % 64*4096+x2 % 64*64+x3 % 64
  ·rw [if_pos (by omega),if_pos ⟨c,d⟩]
  ·rw [if_neg (by omega),if_neg (fun h=>d h.2)]
 ·rw [if_neg (by omega),if_neg (fun h=>c h.1)]
theorem dec0 (h0:¬x0<128) (h2:¬(194≤x0∧x0≤223)) (h3:¬(224≤x0∧x0≤239)) (h4:¬(240≤x0∧x0≤244)) (hb:x0<256):Lib.decodeN n x0 x1 x2 x3=(65533,1):=by
 unfold Lib.decodeN;rw [if_neg h0]
 by_cases f1:x0 / 32=6∧(1<n∧x1 / 64=2)
 ·rw [if_pos f1,if_neg (by omega)]
 ·rw [if_neg f1,if_neg (by omega)]
  by_cases f2:x0 / 8=30∧(1<n∧x1 / 64=2)∧(2<n∧x2 / 64=2)∧(3<n∧x3 / 64=2)
  ·have:=f2.1
   rw [if_pos f2,if_neg (by omega)]
  ·rw [if_neg f2]
end
theorem bad_iff (a b:Nat) (c:Nat) (hc:c≠1) (p:Prop) [Decidable p]:(if ((if p then (a,c) else (65533,1)):Nat×Nat).1=65533∧((if p then (a,c) else (65533,1)):Nat×Nat).2=1 then 0 else ((if p then (a,c) else (65533,1)):Nat×Nat).2)=if p then c else 0:=by
 by_cases h:p <;> simp [h,hc]
theorem sign_decode (l:List UInt8):signL l=if (Lib.decodeL l).1=65533∧(Lib.decodeL l).2=1 then 0 else (Lib.decodeL l).2:=by
 rw [Lib.decodeL_N];have g1:=getD_cont l 1;have g2:=getD_cont l 2;have g3:=getD_cont l 3;have b0:(l.getD 0 0).toNat<256:=UInt8.toNat_lt _;unfold signL leadN;simp only [contN_2,contN_3,contN_4,accN,Nat.add_one_sub_one,Nat.reduceAdd];generalize (l.getD 0 0).toNat=x0 at *;generalize (l.getD 1 0).toNat=x1 at *;generalize (l.getD 2 0).toNat=x2 at *;generalize (l.getD 3 0).toNat=x3 at *;generalize l.length=n at *
 by_cases a1:x0<128
 ·rw [if_pos a1,Lib.decodeN,if_pos a1,if_neg (by omega)]
 ·rw [if_neg a1]
  by_cases a2:194≤x0∧x0≤223
  ·rw [if_pos a2,dec2 a2 g1,bad_iff _ 0 _ (by omega)]
   by_cases c:x1 / 64=2
   ·rw [if_neg (by have:=g1 c;omega),if_neg (fun h=>h c),if_neg (by omega),if_pos c]
   ·rw [if_neg c]
    by_cases m:n<2
    ·rw [if_pos m]
    ·rw [if_neg m,if_pos c]
  ·rw [if_neg a2]
   by_cases a3:224≤x0∧x0≤239
   ·rw [if_pos a3,dec3 a3 g1 g2,bad_iff _ 0 _ (by omega)]
    by_cases c:x1 / 64=2∧x2 / 64=2
    ·have e3:(x0 % 16*64+x1 % 64)*64+x2 % 64=x0 % 16*4096+x1 % 64*64+x2 % 64:=by omega
     rw [if_neg (by have:=g2 c.2;omega),if_neg (fun h=>h c),e3]
     by_cases d:2048≤x0 % 16*4096+x1 % 64*64+x2 % 64∧¬(55296≤x0 % 16*4096+x1 % 64*64+x2 % 64∧x0 % 16*4096+x1 % 64*64+x2 % 64≤57343)
     ·rw [if_neg (by omega),if_pos ⟨c,d⟩]
     ·rw [if_pos (by omega),if_neg (fun h=>d h.2)]
    ·have e:∀ p:Prop,¬((x1 / 64=2∧x2 / 64=2)∧p):=fun p h=>c h.1
     rw [if_neg (e _)]
     by_cases m:n<3
     ·rw [if_pos m]
     ·rw [if_neg m,if_pos c]
   ·rw [if_neg a3]
    by_cases a4:240≤x0∧x0≤244
    ·rw [if_pos a4,dec4 a4 g1 g2 g3,bad_iff _ 0 _ (by omega)]
     by_cases c:x1 / 64=2∧x2 / 64=2∧x3 / 64=2
     ·have e3:((x0 % 8*64+x1 % 64)*64+x2 % 64)*64+x3 % 64=x0 % 8*262144+x1 % 64*4096+x2 % 64*64+x3 % 64:=by omega
      rw [if_neg (by have:=g3 c.2.2;omega),if_neg (fun h=>h c),e3]
      by_cases d:65536≤x0 % 8*262144+x1 % 64*4096+x2 % 64*64+x3 % 64∧¬1114111<x0 % 8*262144+x1 % 64*4096+x2 % 64*64+x3 % 64
      ·rw [if_neg (by omega),if_pos ⟨c,d⟩]
      ·rw [if_pos (by omega),if_neg (fun h=>d h.2)]
     ·have e:∀ p:Prop,¬((x1 / 64=2∧x2 / 64=2∧x3 / 64=2)∧p):=fun p h=>c h.1
      rw [if_neg (e _)]
      by_cases m:n<4
      ·rw [if_pos m]
      ·rw [if_neg m,if_pos c]
    ·rw [if_neg a4,dec0 a1 a2 a3 a4 b0,if_pos ⟨rfl,rfl⟩]
theorem sign_step (l:List UInt8) (k:Nat) (hk:k<l.length) :
  (signL (l.drop k)=0→Lib.validD (l.drop k)=false)∧(signL (l.drop k)≠0→Lib.validD (l.drop k)=Lib.validD (l.drop (k+signL (l.drop k)))∧k+signL (l.drop k)≤l.length∧signL (l.drop k)=(Lib.decodeL (l.drop k)).2):=by
 have hne:l.drop k≠[]:=fun h=>by have:=congrArg List.length h;simp at this;omega
 rw [sign_decode,Lib.validD_step _ hne]
 by_cases h:(Lib.decodeL (l.drop k)).1=65533∧(Lib.decodeL (l.drop k)).2=1
 ·rw [if_pos h,if_pos h];exact ⟨fun _=>rfl,fun h=>absurd rfl h⟩
 ·rw [if_neg h,if_neg h]
  refine ⟨fun h0=>?_,fun _=>?_⟩
  ·have:=Lib.decodeL_width (l.drop k);omega
  ·have h2:=Lib.decodeL_le (l.drop k) hne
   rw [List.length_drop] at h2;rw [List.drop_drop];exact ⟨rfl,by omega,rfl⟩
theorem sign_cont (l:List UInt8) (h:signL l≠0):contN l (signL l):=by
 have hl:∀ n least v0,leadN l n least v0≠0→contN l (leadN l n least v0):=fun n least v0 h=>by
  unfold leadN at h ⊢
  split at h
  ·exact absurd rfl h
  ·split at h
   ·exact absurd rfl h
   ·rename_i h1 h2
    split at h
    ·exact absurd rfl h
    ·rename_i h3
     rw [if_neg h1,if_neg h2,if_neg h3];exact Decidable.not_not.1 h2
 revert h
 unfold signL
 split
 ·intro _ i h1 h2;omega
 ·split
  ·exact hl _ _ _
  ·split
   ·exact hl _ _ _
   ·split
    ·exact hl _ _ _
    ·intro h;exact absurd rfl h
theorem ctl_cont {l:List UInt8} {k d:Nat} {b:UInt8} (hno:(l.take k).any ctl=false) (hb:l[k]? = some b) (h1:¬b.toNat<32) (h2:¬b.toNat=127) (hc:contN (l.drop k) d) (hd:1≤d):(l.take (k+d)).any ctl=false:=by
 induction d with
 | zero=>omega
 | succ d ih =>
  rcases Nat.eq_zero_or_pos d with h0|h0
  ·subst h0
   exact ctl_next hno hb h1 h2
  ·have ih:=ih (fun i a b=>hc i a (by omega)) h0
   have h3:=hc d h0 (by omega)
   have hl:=getD_cont _ _ h3;rw [List.length_drop] at hl;have hg:l[k+d]? = some (l[k+d]'(by omega)):=List.getElem?_eq_getElem (by omega)
   have h4:(l.drop k).getD d 0=l[k+d]'(by omega):=by simp [List.getD,hg]
   rw [h4] at h3;exact ctl_next ih hg (by omega) (by omega)
theorem ref_clean (s:ByteArray) (w:World) (hs:s.size≤1000) :
  Calls Tryz.prog 269 #[.string s] w (CleanPost w (cleanL (Lib.validD s.data.toList) s.data.toList)):=by
 have hsg:=hI (fun k hk=>sign_any s k w hs hk);have hn:s.data.toList.length=s.size:=by simp
 have Hget:=hI (str_at s);generalize hl:s.data.toList=l at *;clear hl;have Hst:=hI (sign_step l);have HR:∃ R,cleanL (Lib.validD l) l=R:=⟨_,rfl⟩;obtain ⟨R,hR⟩:=HR;rw [hR];have ER:=hI hR;clear hR;have hk1:Pure w w:=Kept.refl _ _;go_enter Tryz.func269,Tryz.ntmps269;go_wp2
 go_loop [4] (fun i=>∃ k:Nat,i = .int .i64 k∧k≤s.size∧Hid ((l.take k).any ctl=false∧Lib.validD l=Lib.validD (l.drop k))) (fun i=>s.size-(intOf i).toNat)
 case atStart=>exact ⟨0,rfl,Nat.zero_le _,⟨by simp,rfl⟩⟩
 case round =>
  obtain ⟨k,rfl,hk,hno⟩:=hrel
  by_cases hlt:k<s.size
  ·obtain ⟨b,hg⟩:∃ b,l[k]? = some b:=⟨_,List.getElem?_eq_getElem (by omega)⟩
   have hgb:=Hget.out k b hlt hg;have hb256:b.toNat<256:=b.toNat_lt;have Hs:=hI (hsg.out k hlt);have Hs2:=hI (Hst.out k (by omega))
   have hsc:=sign_cont (l.drop k);have HL:Hid (l.length=s.size):=hn;generalize hd:signL (l.drop k)=d at *;have Hsc:=hI hsc;clear hd hn hsc
   by_cases h0:d=0
   ·subst h0
    have e:R=([],1):=by rw [←ER.out,hno.out.2,Hs2.out.1 rfl];simp [cleanL]
    have He:=hI e;clear e;go_wp2_with fail;refine (Hs.out).mono ?_;rintro e w' ⟨rfl,rfl⟩;go_wp2
    go_ret2
    exact ⟨by rw [He.out];rfl,hk1⟩
   ·have h0':((d:Int) == 0)=false:=by simpa using h0
    by_cases c1:b.toNat<32
    ·have e:R=([],1):=by rw [←ER.out];simp [cleanL,ctl_any hg (.inl c1)]
     have He:=hI e;clear e;go_wp2_with fail;refine (Hs.out).mono ?_;rintro e w' ⟨rfl,rfl⟩;go_wp2
     go_ret2
     exact ⟨by rw [He.out];rfl,hk1⟩
    ·by_cases c2:b.toNat=127
     ·have e:R=([],1):=by rw [←ER.out];simp [cleanL,ctl_any hg (.inr c2)]
      have He:=hI e;clear e;go_wp2_with fail;refine (Hs.out).mono ?_;rintro e w' ⟨rfl,rfl⟩;go_wp2
      go_ret2
      exact ⟨by rw [He.out];rfl,hk1⟩
     ·obtain ⟨v1,v2,v3⟩:=Hs2.out.2 h0
      rw [HL.out] at v2;have hpos:0<d:=by omega
      have H1:Hid ((l.take (k+d)).any ctl=false∧Lib.validD l=Lib.validD (l.drop (k+d))):=⟨ctl_cont hno.out.1 hg c1 c2 (Hsc.out h0) hpos,hno.out.2.trans v1⟩;have c2':((b.toNat:Int) == 127)=false:=by simpa using (by omega:¬(b.toNat:Int)=127)
      clear v1 v3 h0 c2;go_wp2_with fail;refine (Hs.out).mono ?_;rintro e w' ⟨rfl,rfl⟩;go_wp2
      go_round
      case measure=>first|omega|(simp [intOf];omega)
      case rel=>exact ⟨k+d,by first|rfl|go_num,v2,H1⟩
  ·have hke:k=s.size:=by omega
   subst hke;have hno1:=hno.out.1;have hno2:=hno.out.2;rw [List.take_of_length_le (by omega)] at hno1
   rw [List.drop_eq_nil_of_le (by omega),Lib.validD_nil] at hno2
   have E:Hid (R=outL (endL (sq l))):=by rw [Hid,←ER.out];simp [cleanL,hno1,hno2]
   clear hno1 hno2;go_wp2
   go_loopw [6,7] (fun v i wr=>∃ k:Nat,i = .int .i64 k∧k≤s.size∧Own wr (fun g=>w.heap.size≤g) 5 1 v (sq (l.take k)).length (bvs (sq (l.take k)))∧Pure w wr) (fun _ i _=>s.size-(intOf i).toNat)
   case atStart=>exact ⟨0,rfl,Nat.zero_le _,Own.nil _ _ _ _,Kept.refl _ _⟩
   case round =>
    obtain ⟨k,rfl,hk,ho,hk2⟩:=hrel;have hol:=sq_length (l.take k);rw [List.length_take] at hol
    by_cases hlt:k<s.size
    ·obtain ⟨b,hg⟩:∃ b,l[k]? = some b:=⟨_,List.getElem?_eq_getElem (by omega)⟩
     have hgb:=Hget.out k b hlt hg;have hb256:b.toNat<256:=b.toNat_lt;have Hg:=hI (sq_take l k b hg);generalize ho0:sq (l.take k)=o at *;clear ho0;obtain ⟨n,hn0⟩:∃ n,o.length=n:=⟨_,rfl⟩;obtain ⟨A,c,rfl,_,_,_,hsl⟩:=ho.form;rw [hn0] at ho hol hsl ⊢;have Hn:=hI hn0;have Ho:=hI ho;have Hk2:=hI hk2;have hcut:((n:Int)-1).toNat=n-1:=by omega
     clear hn0 ho hk2
     by_cases c1:b.toNat=32
     ·have c1':((b.toNat:Int) == 32)=true:=by simp [c1]
      by_cases hz:n=0
      ·subst hz
       have hnx:Hid (sq (l.take (k+1))=o):=Hg.out.trans (sqStep_skip (u8_eq.2 c1) (.inl (List.eq_nil_of_length_eq_zero Hn.out)));clear hsl;go_wp2
       go_roundw
       case measure=>first|omega|(simp [intOf];omega)
       case rel=>exact ⟨k+1,by first|rfl|go_num,hlt,by rw [hnx.out,Hn.out];exact Ho.out,Hk2.out⟩
      ·have hz':((n:Int) == 0)=false:=by simpa using hz
       obtain ⟨B,f,rfl,_,hBl,hcs⟩:=hsl.2 (by omega)
       obtain ⟨d,hd⟩:∃ d,o[n-1]? = some d:=⟨_,List.getElem?_eq_getElem (by rw [Hn.out];omega)⟩
       have hcd:=hcs (n-1) (by rw [bvs_length,Hn.out];omega)
       rw [show (bvs o)[n-1]? = some (.int .u8 (d.toNat:Int)) from by simp [bvs,hd,bv]] at hcd
       have hlast:o.getLast? = some d:=by rw [List.getLast?_eq_getElem?,Hn.out];exact hd
       have Hlast:=hI hlast;have hd256:d.toNat<256:=d.toNat_lt;clear hsl hcs hlast hd
       by_cases c2:d.toNat=32
       ·have c2':((d.toNat:Int) == 32)=true:=by simp [c2]
        have hnx:Hid (sq (l.take (k+1))=o):=Hg.out.trans (sqStep_skip (u8_eq.2 c1) (.inr (by rw [Hlast.out,u8_eq.2 c2])))
        clear c1 c2;go_wp2
        go_roundw
        case measure=>first|omega|(simp [intOf];omega)
        case rel=>exact ⟨k+1,by first|rfl|go_num,hlt,by rw [hnx.out,Hn.out];exact Ho.out,Hk2.out⟩
       ·have c2':((d.toNat:Int) == 32)=false:=by simpa using (by omega:¬(d.toNat:Int)=32)
        have hnx:Hid (sq (l.take (k+1))=o++[b]):=Hg.out.trans (sqStep_add (by
         rintro ⟨_,h|h⟩
         ·rw [h] at Hlast;cases Hlast.out
         ·rw [Hlast.out] at h;injection h with h;exact c2 (by rw [h];rfl)))
        clear c1 c2;go_wp2_with (first|(at_builtin;refine held ?_)|(at_make;refine held ?_));refine unheld ?_;refine gz44 ?_;intro v4 w4 ho4 hk4;have hk5:=(Hk2.out.alloc (.cells #[.int .u8 (b.toNat:Int)] 5)).trans hk4 (fun i hi h=>absurd h (by omega))
        have Ho4:=hI ho4;have Hk5:=hI hk5;clear ho4 hk4 hk5;go_wp2
        go_roundw
        case measure=>first|omega|(simp [intOf];omega)
        case rel =>
         have h6:=Ho4.out;rw [show bvs o++[Value.int .u8 (b.toNat:Int)]=bvs (o++[b]) from by rw [bvs_append];rfl,show n+1=(o++[b]).length from by rw [List.length_append,Hn.out];rfl] at h6
         exact ⟨k+1,by first|rfl|go_num,hlt,by rw [hnx.out];exact h6,Hk5.out⟩
     ·have c1':((b.toNat:Int) == 32)=false:=by simpa using (by omega:¬(b.toNat:Int)=32)
      have hnx:Hid (sq (l.take (k+1))=o++[b]):=Hg.out.trans (sqStep_add (by rintro ⟨h,_⟩;exact c1 (by rw [h];rfl)))
      clear c1 hsl;go_wp2_with (first|(at_builtin;refine held ?_)|(at_make;refine held ?_));refine unheld ?_;refine gz44 ?_;intro v4 w4 ho4 hk4;have hk5:=(Hk2.out.alloc (.cells #[.int .u8 (b.toNat:Int)] 5)).trans hk4 (fun i hi h=>absurd h (by omega))
      have Ho4:=hI ho4;have Hk5:=hI hk5;clear ho4 hk4 hk5;go_wp2
      go_roundw
      case measure=>first|omega|(simp [intOf];omega)
      case rel =>
       have h6:=Ho4.out;rw [show bvs o++[Value.int .u8 (b.toNat:Int)]=bvs (o++[b]) from by rw [bvs_append];rfl,show n+1=(o++[b]).length from by rw [List.length_append,Hn.out];rfl] at h6
       exact ⟨k+1,by first|rfl|go_num,hlt,by rw [hnx.out];exact h6,Hk5.out⟩
    ·have hke:k=s.size:=by omega
     subst hke;rw [List.take_of_length_le (by omega)] at ho
     replace hol:=sq_length l;generalize ho0:sq l=o at *;clear ho0;obtain ⟨n,hn0⟩:∃ n,o.length=n:=⟨_,rfl⟩;obtain ⟨A,c,rfl,hnc,hcm,_,hsl⟩:=ho.form;rw [hn0] at ho hol hsl hnc ⊢;have Hn:=hI hn0;have Hk:=hI (hk1.same hk2);have hcut:((n:Int)-1).toNat=n-1:=by omega
     clear hn0 ho hk2
     by_cases hz:n=0
     ·subst hz
      have e:R=([],14):=by rw [E.out,List.eq_nil_of_length_eq_zero Hn.out];rfl
      have He:=hI e;clear hsl e;go_wp2
      go_ret2
      exact ⟨by rw [He.out];rfl,Hk.out⟩
     ·obtain ⟨B,f,rfl,_,hBl,hcs⟩:=hsl.2 (by omega)
      obtain ⟨d,hd⟩:∃ d,o[n-1]? = some d:=⟨_,List.getElem?_eq_getElem (by rw [Hn.out];omega)⟩
      have hcd:=hcs (n-1) (by rw [bvs_length,Hn.out];omega)
      rw [show (bvs o)[n-1]? = some (.int .u8 (d.toNat:Int)) from by simp [bvs,hd,bv]] at hcd
      have hlast:o.getLast? = some d:=by rw [List.getLast?_eq_getElem?,Hn.out];exact hd
      have hd256:d.toNat<256:=d.toNat_lt;have hz':0<n:=by omega
      clear hcs hd hz
      by_cases c2:d.toNat=32
      ·have c2':((d.toNat:Int) == 32)=true:=by simp [c2]
       have e1:endL o=o.take (n-1):=by rw [endL,if_pos (by rw [hlast,u8_eq.2 c2]),List.dropLast_eq_take,Hn.out]
       have hl1:(o.take (n-1)).length=n-1:=by rw [List.length_take,Hn.out];omega
       rw [Hid,e1] at E;replace E:=hI E;have hs1:=hsl.pre (n-1) (by omega)
       rw [Nat.mul_one,←bvs_take] at hs1;have hcv:=run_str (P:=Tryz.prog) hs1 352 9 5 c Tryz.underlying352 Tryz.underlying5 Tryz.underlying9;clear hsl hs1 c2 e1 hlast
       by_cases z1:n=1
       ·subst z1
        have e:R=([],14):=by rw [E.out];rfl
        have He:=hI e;replace hcd:wr.cell? ⟨B,f,none⟩=some (.int .u8 (d.toNat:Int)):=hcd;clear e hcv hcut hl1;go_wp2
        go_ret2
        exact ⟨by rw [He.out];rfl,Hk.out⟩
       ·by_cases z2:65<n
        ·have e:R=([],2):=by rw [E.out,outL,hl1,if_neg (by omega),if_pos (by omega)]
         have z3:(((n-1:Nat):Int) == 0)=false:=by simp;omega
         have z4:64<n-1:=by omega
         have z5:n-1≤c:=by omega
         have He:=hI e;clear e hcv hl1;go_wp2
         go_ret2
         exact ⟨by rw [He.out];rfl,Hk.out⟩
        ·have e:R=(o.take (n-1),0):=by rw [E.out,outL,hl1,if_neg (by omega),if_neg (by omega)]
         have z3:(((n-1:Nat):Int) == 0)=false:=by simp;omega
         have z4:¬64<n-1:=by omega
         have z5:n-1≤c:=by omega
         have He:=hI e;clear e hl1;go_wp2_with (simp only [hcv])
         go_ret2
         exact ⟨by rw [He.out];rfl,Hk.out⟩
      ·have c2':((d.toNat:Int) == 32)=false:=by simpa using (by omega:¬(d.toNat:Int)=32)
       have e1:endL o=o:=by rw [endL,if_neg (by rw [hlast];intro h;injection h with h;exact c2 (by rw [h];rfl))]
       rw [Hid,e1] at E;replace E:=hI E;have hcv:=run_str (P:=Tryz.prog) hsl 352 9 5 c Tryz.underlying352 Tryz.underlying5 Tryz.underlying9;have z3:((n:Int) == 0)=false:=by simp;omega
       clear hsl c2 e1 hlast
       by_cases z2:64<n
       ·have e:R=([],2):=by rw [E.out,outL,Hn.out,if_neg (by omega),if_pos (by omega)]
        have He:=hI e;clear e hcv;go_wp2
        go_ret2
        exact ⟨by rw [He.out];rfl,Hk.out⟩
       ·have e:R=(o,0):=by rw [E.out,outL,Hn.out,if_neg (by omega),if_neg (by omega)]
        have He:=hI e;clear e;go_wp2_with (simp only [hcv])
        go_ret2
        exact ⟨by rw [He.out];rfl,Hk.out⟩
end
section
open Go.RowKit
theorem isL_def (l:List UInt8):isL l=decide (3≤(bareL l).length∧(bareL l).length≤15∧(bareL l).all digL=true):=by
 unfold isL rowL
 split <;> rename_i c
 ·exact (decide_eq_true c).symm
 ·exact (decide_eq_false c).symm
theorem bareL_plus (l:List UInt8) (h:l[0]? = some 43):bareL l=l.drop 1:=by
 cases l with
 | nil=>simp at h
 | cons x r=>simp at h;subst h;simp [bareL,Lib.trimPrefix,Lib.hasPrefix]
theorem bareL_no (l:List UInt8) (h:l[0]? ≠ some 43):bareL l=l:=by
 cases l with
 | nil=>simp [bareL,Lib.trimPrefix,Lib.hasPrefix]
 | cons x r =>
  have:¬x=43:=fun e=>h (by simp [e])
  simp [bareL,Lib.trimPrefix,Lib.hasPrefix,Ne.symm this]
theorem digit_any (b:UInt8) (w:World):Calls Tryz.prog 114 #[.int .u8 (b.toNat:Int)] w fun e w'=>e = .returned (.bool (digL b))∧w=w':=by
 have hb256:b.toNat<256:=b.toNat_lt;unfold digL
 by_cases h1:48≤b.toNat
 ·rw [show decide (48≤b.toNat∧b.toNat≤57)=decide ((b.toNat:Int)≤57) from decide_eq_decide.2 (by omega)]
  go_enter Tryz.func114,Tryz.ntmps114
  go_wp2;go_ret;exact ⟨rfl,rfl⟩
 ·rw [decide_eq_false (fun h=>h1 h.1)]
  go_enter Tryz.func114,Tryz.ntmps114
  go_wp2;go_ret;exact ⟨rfl,rfl⟩
theorem ref_is (s:ByteArray) (w:World) (hs:s.size≤1000):Calls Tryz.prog 276 #[.string s] w fun e w'=>e = .returned (.bool (isL s.data.toList))∧w=w':=by
 obtain ⟨R,hR⟩:∃ R,isL s.data.toList=R:=⟨_,rfl⟩;rw [hR];rw [isL_def] at hR;have hn:s.data.toList.length=s.size:=by simp
 have Hget:=hI (str_at s)
 by_cases n0:s.size=0
 ·have e:R=false:=by
   rw [←hR,bareL_no _ (by rw [List.getElem?_eq_none (by omega)];simp)]
   exact decide_eq_false (fun h=>by omega)
  have He:=hI e;clear hR hn e;go_enter Tryz.func276,Tryz.ntmps276;go_wp2
  go_loop [3] (fun i=>i = .int .i64 0) (fun _=>0)
  case atStart=>rfl
  case round =>
   subst hrel;go_wp2;go_ret;exact ⟨by rw [He.out];rfl,rfl⟩
 ·obtain ⟨c,hc⟩:∃ c,s.data.toList[0]? = some c:=⟨_,List.getElem?_eq_getElem (by omega)⟩
  have q0:0<s.size:=by omega
  have i0:=Hget.out 0 c q0 hc
  by_cases hp:c.toNat=43
  ·have hp':((c.toNat:Int) == 43)=true:=by simp [hp]
   have hb0:=bareL_plus _ (by rw [hc,show c=43 from UInt8.toNat_inj.1 hp])
   rw [hb0] at hR;have hDl:(s.extract 1 s.size).data.toList=s.data.toList.drop 1:=by rw [ext_data,List.take_of_length_le (by omega)]
   have Hget:=hI (str_at (s.extract 1 s.size));rw [hDl] at Hget;have hDs:(s.extract 1 s.size).size=s.size-1:=by rw [ByteArray.size_extract];omega
   have HL:Hid ((s.data.toList.drop 1).length=(s.extract 1 s.size).size):=by rw [Hid,List.length_drop,hDs];omega
   have ER:=hI hR;generalize hD:s.extract 1 s.size=D at *;have q1:D.size≤1000:=by omega
   have q2:1≤s.size:=q0;clear hR hb0 hDl hc hp hDs;generalize s.data.toList.drop 1=l at *;go_enter Tryz.func276,Tryz.ntmps276;go_wp2
   go_loop [3] (fun i=>∃ k:Nat,i = .int .i64 k∧k≤D.size∧Hid ((l.take k).all digL=true)) (fun i=>D.size-(intOf i).toNat)
   case atStart=>exact ⟨0,rfl,Nat.zero_le _,by simp [Hid]⟩
   case round =>
    obtain ⟨k,rfl,hk,hh⟩:=hrel
    by_cases hlt:k<D.size
    ·obtain ⟨b,hb⟩:∃ b,l[k]? = some b:=⟨_,List.getElem?_eq_getElem (by have:=HL.out;omega)⟩
     have ib:=Hget.out k b hlt hb;have Hd:=hI (digit_any b w);rcases f1:digL b with _|_
     ·have e:R=false:=by
       rw [←ER.out];refine decide_eq_false (fun h=>?_);have:=List.all_eq_true.1 h.2.2 b (List.mem_of_getElem? hb);rw [f1] at this;cases this
      have He:=hI e;rw [f1] at Hd;clear e hb f1;go_wp2_with fail;refine (Hd.out).mono ?_;rintro e w' ⟨rfl,rfl⟩;go_wp2;go_ret;exact ⟨by rw [He.out];rfl,rfl⟩
     ·have Hn:Hid ((l.take (k+1)).all digL=true):=by
       rw [Hid,List.take_add_one,hb,Option.toList_some,List.all_append,hh.out];simp [f1]
      rw [f1] at Hd;clear hb f1;go_wp2_with fail;refine (Hd.out).mono ?_;rintro e w' ⟨rfl,rfl⟩;go_wp2
      go_round
      case measure=>first|omega|(simp [intOf];omega)
      case rel=>exact ⟨k+1,by first|rfl|go_num,hlt,Hn⟩
    ·have hke:k=D.size:=by omega
     subst hke;have hall:l.all digL=true:=by
      have h1:=hh.out
      rwa [List.take_of_length_le (by have:=HL.out;omega)] at h1
     by_cases m1:3≤D.size
     ·have e:R=decide ((D.size:Int)≤15):=by
       rw [←ER.out,HL.out];exact decide_eq_decide.2 ⟨fun h=>by omega,fun h=>⟨m1,by omega,hall⟩⟩
      have He:=hI e;clear e hall;go_wp2;go_ret;exact ⟨by rw [He.out];rfl,rfl⟩
     ·have e:R=false:=by
       rw [←ER.out,HL.out];exact decide_eq_false (fun h=>m1 h.1)
      have He:=hI e;clear e hall;go_wp2;go_ret;exact ⟨by rw [He.out];rfl,rfl⟩
  ·have hp':((c.toNat:Int) == 43)=false:=by simpa using (by omega:¬(c.toNat:Int)=43)
   have hb0:=bareL_no s.data.toList (by rw [hc];intro h;injection h with h;exact hp (by rw [h];rfl))
   rw [hb0] at hR;have ER:=hI hR;have HL:=hI hn;clear hR hb0 hn hc hp;generalize s.data.toList=l at *;go_enter Tryz.func276,Tryz.ntmps276;go_wp2
   go_loop [3] (fun i=>∃ k:Nat,i = .int .i64 k∧k≤s.size∧Hid ((l.take k).all digL=true)) (fun i=>s.size-(intOf i).toNat)
   case atStart=>exact ⟨0,rfl,Nat.zero_le _,by simp [Hid]⟩
   case round =>
    obtain ⟨k,rfl,hk,hh⟩:=hrel
    by_cases hlt:k<s.size
    ·obtain ⟨b,hb⟩:∃ b,l[k]? = some b:=⟨_,List.getElem?_eq_getElem (by have:=HL.out;omega)⟩
     have ib:=Hget.out k b hlt hb;have Hd:=hI (digit_any b w);rcases f1:digL b with _|_
     ·have e:R=false:=by
       rw [←ER.out];refine decide_eq_false (fun h=>?_);have:=List.all_eq_true.1 h.2.2 b (List.mem_of_getElem? hb);rw [f1] at this;cases this
      have He:=hI e;rw [f1] at Hd;clear e hb f1;go_wp2_with fail;refine (Hd.out).mono ?_;rintro e w' ⟨rfl,rfl⟩;go_wp2;go_ret;exact ⟨by rw [He.out];rfl,rfl⟩
     ·have Hn:Hid ((l.take (k+1)).all digL=true):=by
       rw [Hid,List.take_add_one,hb,Option.toList_some,List.all_append,hh.out];simp [f1]
      rw [f1] at Hd;clear hb f1;go_wp2_with fail;refine (Hd.out).mono ?_;rintro e w' ⟨rfl,rfl⟩;go_wp2
      go_round
      case measure=>first|omega|(simp [intOf];omega)
      case rel=>exact ⟨k+1,by first|rfl|go_num,hlt,Hn⟩
    ·have hke:k=s.size:=by omega
     subst hke;have hall:l.all digL=true:=by
      have h1:=hh.out
      rwa [List.take_of_length_le (by have:=HL.out;omega)] at h1
     by_cases m1:3≤s.size
     ·have e:R=decide ((s.size:Int)≤15):=by
       rw [←ER.out,HL.out];exact decide_eq_decide.2 ⟨fun h=>by omega,fun h=>⟨m1,by omega,hall⟩⟩
      have He:=hI e;clear e hall;go_wp2;go_ret;exact ⟨by rw [He.out];rfl,rfl⟩
     ·have e:R=false:=by
       rw [←ER.out,HL.out];exact decide_eq_false (fun h=>m1 h.1)
      have He:=hI e;clear e hall;go_wp2;go_ret;exact ⟨by rw [He.out];rfl,rfl⟩
theorem ref_tel (s:ByteArray) (w:World) (hs:s.size≤1000):Calls Tryz.prog 267 #[.string s] w (CleanPost w (telL s.data.toList)):=by
 have c1:=ref_clean s w hs;rw [show cleanL (Lib.validD s.data.toList) s.data.toList=clnL s.data.toList from rfl] at c1;obtain ⟨R,hR⟩:∃ R,telL s.data.toList=R:=⟨_,rfl⟩;rw [hR];unfold telL at hR;have hok:=fun o (h:clnL s.data.toList=(o,0))=>(clnL_ok h).2.2.2.2;generalize clnL s.data.toList=ce at *;obtain ⟨c,e⟩:=ce;simp only at hR;have C1:=hI c1;have ER:=hI hR;clear c1 hR
 by_cases he:e=0
 ·subst he
  have hcl:c.length≤64:=hok c rfl;have hds:(ByteArray.mk c.toArray).size=c.length:=by show c.toArray.size=_;simp
  have hdd:(ByteArray.mk c.toArray).data.toList=c:=by simp
  have Hget:=hI (str_at ⟨c.toArray⟩);have hext:=fun i=>ext_data (ByteArray.mk c.toArray) i (i+1);rw [hdd] at Hget;rw [hdd] at hext;have Hext:=hI hext;replace ER:Hid ((if isL (keepL c)=true then (keepL c,(0:Int)) else ([],1))=R):=by
   have:=ER.out
   rwa [if_neg (fun h=>h rfl)] at this
  unfold CleanPost at C1;simp only at C1;generalize ByteArray.mk c.toArray=D at *;have HD:=hI hds;rw [←hds] at hcl;clear hdd hds hok hext;go_enter Tryz.func267,Tryz.ntmps267;go_wp2_with fail;refine (C1.out).mono ?_;rintro e w1 ⟨rfl,hk1⟩;go_wp2
  go_loop [6,7] (fun v i=>∃ (k:Nat) (O:ByteArray),v = .string O∧i = .int .i64 k∧k≤D.size∧O.size≤k∧Hid (O.data.toList=keepL (c.take k))) (fun _ i=>D.size-(intOf i).toNat)
  case atStart=>exact ⟨0,_,rfl,rfl,Nat.zero_le _,by decide,rfl⟩
  case round =>
   obtain ⟨k,O,rfl,rfl,hk,ho,hh⟩:=hrel
   by_cases hlt:k<D.size
   ·have hdl:=HD.out
    obtain ⟨b,hb⟩:∃ b,c[k]? = some b:=⟨_,List.getElem?_eq_getElem (by omega)⟩
    have ib:=Hget.out k b hlt hb;have hb256:b.toNat<256:=b.toNat_lt;have hxs:(D.extract k (k+1)).size=1:=by rw [ByteArray.size_extract];omega
    have hxd:(D.extract k (k+1)).data.toList=[b]:=by
     rw [Hext.out k,List.take_add_one,hb,List.drop_append_of_le_length (by rw [List.length_take];omega),List.drop_of_length_le (by rw [List.length_take];omega)];rfl
    have n5:0≤(k:Int)∧(k:Int)≤(k:Int)+1∧(k:Int)+1≤(D.size:Int):=by omega
    have hk1':((k:Int)+1).toNat=k+1:=by omega
    have Hxd:=hI hxd;clear hdl hxd
    by_cases f1:b.toNat=32
    ·have e1:((b.toNat:Int) == 32)=true:=by simp [f1]
     have hnx:Hid (keepL (c.take (k+1))=keepL (c.take k)):=keep_skip hb (by simp [gap,f1])
     clear hb;go_wp2
     go_round
     case measure=>first|omega|(simp [intOf];omega)
     case rel=>exact ⟨k+1,_,rfl,by first|rfl|go_num,hlt,by omega,by rw [Hid,hnx.out];exact hh.out⟩
    ·have e1:((b.toNat:Int) == 32)=false:=by simpa using (by omega:¬(b.toNat:Int)=32)
     by_cases f2:b.toNat=45
     ·have e2:((b.toNat:Int) == 45)=true:=by simp [f2]
      have hnx:Hid (keepL (c.take (k+1))=keepL (c.take k)):=keep_skip hb (by simp [gap,f2])
      clear hb;go_wp2
      go_round
      case measure=>first|omega|(simp [intOf];omega)
      case rel=>exact ⟨k+1,_,rfl,by first|rfl|go_num,hlt,by omega,by rw [Hid,hnx.out];exact hh.out⟩
     ·have e2:((b.toNat:Int) == 45)=false:=by simpa using (by omega:¬(b.toNat:Int)=45)
      by_cases f3:b.toNat=46
      ·have e3:((b.toNat:Int) == 46)=true:=by simp [f3]
       have hnx:Hid (keepL (c.take (k+1))=keepL (c.take k)):=keep_skip hb (by simp [gap,f3])
       clear hb;go_wp2
       go_round
       case measure=>first|omega|(simp [intOf];omega)
       case rel=>exact ⟨k+1,_,rfl,by first|rfl|go_num,hlt,by omega,by rw [Hid,hnx.out];exact hh.out⟩
      ·have e3:((b.toNat:Int) == 46)=false:=by simpa using (by omega:¬(b.toNat:Int)=46)
       by_cases f4:b.toNat=47
       ·have e4:((b.toNat:Int) == 47)=true:=by simp [f4]
        have hnx:Hid (keepL (c.take (k+1))=keepL (c.take k)):=keep_skip hb (by simp [gap,f4])
        clear hb;go_wp2
        go_round
        case measure=>first|omega|(simp [intOf];omega)
        case rel=>exact ⟨k+1,_,rfl,by first|rfl|go_num,hlt,by omega,by rw [Hid,hnx.out];exact hh.out⟩
       ·have e4:((b.toNat:Int) == 47)=false:=by simpa using (by omega:¬(b.toNat:Int)=47)
        by_cases f5:b.toNat=40
        ·have e5:((b.toNat:Int) == 40)=true:=by simp [f5]
         have hnx:Hid (keepL (c.take (k+1))=keepL (c.take k)):=keep_skip hb (by simp [gap,f5])
         clear hb;go_wp2
         go_round
         case measure=>first|omega|(simp [intOf];omega)
         case rel=>exact ⟨k+1,_,rfl,by first|rfl|go_num,hlt,by omega,by rw [Hid,hnx.out];exact hh.out⟩
        ·have e5:((b.toNat:Int) == 40)=false:=by simpa using (by omega:¬(b.toNat:Int)=40)
         by_cases f6:b.toNat=41
         ·have e6:((b.toNat:Int) == 41)=true:=by simp [f6]
          have hnx:Hid (keepL (c.take (k+1))=keepL (c.take k)):=keep_skip hb (by simp [gap,f6])
          clear hb;go_wp2
          go_round
          case measure=>first|omega|(simp [intOf];omega)
          case rel=>exact ⟨k+1,_,rfl,by first|rfl|go_num,hlt,by omega,by rw [Hid,hnx.out];exact hh.out⟩
         ·have e6:((b.toNat:Int) == 41)=false:=by simpa using (by omega:¬(b.toNat:Int)=41)
          have hnx:keepL (c.take (k+1))=keepL (c.take k)++[b]:=keep_add hb (by simp [gap,f1,f2,f3,f4,f5,f6])
          have Hn:Hid ((O++D.extract k (k+1)).data.toList=keepL (c.take (k+1))):=by rw [Hid,app_data,hh.out,Hxd.out,hnx]
          have hsz:(O++D.extract k (k+1)).size≤k+1:=by rw [ByteArray.size_append];omega
          have g1:((9223372036854775807:Int)<((O++D.extract k (k+1)).size:Int))=False:=eq_false (by omega)
          have Hsz:=hI hsz;clear f1 f2 f3 f4 f5 f6 hb hnx hxs hsz;go_wp2
          go_round
          case measure=>first|omega|(simp [intOf];omega)
          case rel=>exact ⟨k+1,_,rfl,by first|rfl|go_num,hlt,Hsz.out,Hn⟩
   ·have hke:k=D.size:=by omega
    subst hke;have hO:O.data.toList=keepL c:=by rw [hh.out,List.take_of_length_le (by have:=HD.out;omega)]
    have Hi:=hI (fun w=>ref_is O w (by omega))
    rw [hO] at Hi;have HO:=hI hO;clear hO;rcases hi:isL (keepL c) with _|_
    ·have e:R=([],1):=by rw [←ER.out,hi];rfl
     have He:=hI e;rw [hi] at Hi;clear e hi;go_wp2_with fail;refine ((Hi.out _)).mono ?_;rintro e w' ⟨rfl,rfl⟩;go_wp2
     go_ret2
     exact ⟨by rw [He.out];rfl,hk1⟩
    ·have e:R=(keepL c,0):=by rw [←ER.out,hi];rfl
     have He:=hI e;rw [hi] at Hi;clear e hi;go_wp2_with fail;refine ((Hi.out _)).mono ?_;rintro e w' ⟨rfl,rfl⟩;go_wp2
     go_ret2
     refine ⟨?_,hk1⟩;rw [He.out];show _=Ending.returned (.tuple #[.string ⟨(keepL c).toArray⟩,.int .i64 0]);rw [show O=⟨(keepL c).toArray⟩ from Go.WideShapes.bytes_inj (by rw [HO.out])]
     rfl
 ·have e1:R=([],e):=by rw [←ER.out,if_pos he]
  have He:=hI e1;have he':(e == 0)=false:=by simpa using he
  clear e1 he hok;go_enter Tryz.func267,Tryz.ntmps267;go_wp2_with fail;refine (C1.out).mono ?_;rintro e w1 ⟨rfl,hk1⟩;go_wp2
  go_ret2
  exact ⟨by rw [He.out];rfl,hk1⟩
end
end Go.Proofs.YtjfpfeapbcjioaaGreat
