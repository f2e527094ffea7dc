/-
  The texts of this claim, put together: CaN.
-/
import Derived.Test.YtjfpfeapbcjioaaGreatZCaM
import Derived.Test.YtjfpfeapbcjioaaGreatZCaB
import Derived.Test.YtjfpfeapbcjioaaGreatZFree
set_option linter.unusedSimpArgs false
set_option linter.unusedVariables false
set_option maxHeartbeats 12800000
set_option maxRecDepth 100000
namespace Go.Proofs.YtjfpfeapbcjioaaGreat
section
open Go.RowKit Go.PlainAid
theorem ext_size (s:ByteArray) (i j:Nat) (h:j≤s.size):(s.extract i j).size=j-i:=by rw [ByteArray.size_extract];omega
def PartsP (w:World) (r:ByteArray×ByteArray×Bool) (e:Ending) (w':World):Prop:=e = .returned (.tuple #[.string r.1,.string r.2.1,.bool r.2.2])∧Pure w w'
theorem ref_parts (s:ByteArray) (w:World) (hs:s.size≤1000):Calls Tryz.prog 281 #[.string s] w (PartsP w (partsB s)):=by
 have hb:=get_bt s;obtain ⟨R,hR⟩:∃ R,partsB s=R:=⟨_,rfl⟩;rw [hR];have HR:=hI hR;clear hR;go_enter Tryz.func281,Tryz.ntmps281;go_wp2
 go_loop [5,6] (fun va vi=>∃ (i:Nat),va = .int .i64 (atTo s i)∧vi = .int .i64 i∧i≤s.size) (fun _ vi=>s.size-(intOf vi).toNat)
 case atStart=>exact ⟨0,rfl,rfl,Nat.zero_le _⟩
 case round =>
  obtain ⟨i,rfl,rfl,hi⟩:=hrel
  by_cases hlt:i<s.size
  ·by_cases h64:bt s i=64
   ·have h64':(bt s i == 64)=true:=by simpa using h64
    have Hn:Hid (atTo s (i+1)=(i:Int)):=by rw [Hid,atTo,if_pos h64]
    clear h64;go_wp2
    go_round
    case measure=>first|omega|(simp [intOf];omega)
    case rel=>exact ⟨i+1,by rw [Hn.out],by first|rfl|go_num,by omega⟩
   ·have h64':(bt s i == 64)=false:=by simpa using h64
    have Hn:Hid (atTo s (i+1)=atTo s i):=by rw [Hid,atTo,if_neg h64]
    clear h64;go_wp2
    go_round
    case measure=>first|omega|(simp [intOf];omega)
    case rel=>exact ⟨i+1,by rw [Hn.out],by first|rfl|go_num,by omega⟩
  ·obtain rfl:i=s.size:=by omega
   have hlt2:=atTo_lt s s.size;obtain ⟨a,ha⟩:∃ a,atTo s s.size=a:=⟨_,rfl⟩;have Ha:=hI ha;rw [ha] at hlt2 ⊢;clear ha
   by_cases h0:a<0
   ·have e1:partsB s=(⟨#[]⟩,⟨#[]⟩,false):=by unfold partsB mailB;rw [if_neg (by rw [decide_eq_true_eq];intro h;exact (by have:=Ha.out;omega))]
    have E1:=hI e1;have h0':(a<0)=True:=by simpa using h0
    clear hlt2 h0 e1;go_wp2
    go_ret3
    exact cz73
   ·obtain ⟨k,rfl⟩:=Int.eq_ofNat_of_zero_le (show 0≤a by omega)
    have hk:k<s.size:=by omega
    clear hlt2 h0
    by_cases h64:64<s.size
    ·have e1:partsB s=(⟨#[]⟩,⟨#[]⟩,false):=by unfold partsB mailB;rw [if_neg (by rw [decide_eq_true_eq];intro h;exact (by omega))]
     have E1:=hI e1;have h64':(64:Int)<s.size:=by omega
     clear h64 e1;go_wp2
     go_ret3
     exact cz73
    ·have h64':¬(64:Int)<s.size:=by omega
     have hx1:(s.extract 0 k).size≤1000:=by rw [ext_size _ _ _ (by omega)];omega
     have hx2:(s.extract (k+1) s.size).size≤1000:=by rw [ext_size _ _ _ (by omega)];omega
     have CL:=ref_local (s.extract 0 k) w hx1;have CD:=ref_domain (s.extract (k+1) s.size) w hx2;have hkc:((k:Int)+1).toNat=k+1:=by omega
     cases hl:locB (s.extract 0 k) with
     | false =>
      rw [hl] at CL;have e1:partsB s=(⟨#[]⟩,⟨#[]⟩,false):=by unfold partsB mailB;rw [if_neg (by rw [decide_eq_true_eq];intro h;exact (by have h2:=h.2.2.1;rw [Ha.out] at h2;rw [show ((k:Nat):Int).toNat=k from rfl,hl] at h2;cases h2))]
      have E1:=hI e1;have CL:=hI CL;clear e1 hl CD;go_wp2_with fail;refine (CL.out).mono ?_;rintro e w1 ⟨rfl,rfl⟩;go_wp2
      go_ret3
      exact cz73
     | true =>
      rw [hl] at CL;cases hd:domB (s.extract (k+1) s.size) with
      | false =>
       rw [hd] at CD;have e1:partsB s=(⟨#[]⟩,⟨#[]⟩,false):=by unfold partsB mailB;rw [if_neg (by rw [decide_eq_true_eq];intro h;exact (by have h2:=h.2.2.2;rw [Ha.out] at h2;rw [show ((k:Nat):Int).toNat=k from rfl,hd] at h2;cases h2))]
       have E1:=hI e1;have CL:=hI CL;have CD:=hI CD;clear e1 hl hd;go_wp2_with fail;refine (CL.out).mono ?_;rintro e w1 ⟨rfl,rfl⟩;go_wp2_with fail;refine (CD.out).mono ?_;rintro e w1 ⟨rfl,rfl⟩;go_wp2
       go_ret3
       exact cz73
      | true =>
       rw [hd] at CD;have e1:partsB s=(s.extract 0 k,s.extract (k+1) s.size,true):=by
        unfold partsB mailB;rw [Ha.out,if_pos (by rw [decide_eq_true_eq];exact ⟨by omega,by omega,hl,hd⟩)]
        rfl
       have E1:=hI e1;have CL:=hI CL;have CD:=hI CD;clear e1 hl hd;go_wp2_with fail;refine (CL.out).mono ?_;rintro e w1 ⟨rfl,rfl⟩;go_wp2_with fail;refine (CD.out).mono ?_;rintro e w1 ⟨rfl,rfl⟩;go_wp2;have hsl:(0:Int)≤(k:Int)+1∧(k:Int)+1≤(s.size:Int):=by omega
       have hkw:IntKind.i64.wrap ((k:Int)+1)=(k:Int)+1:=by rw [IntKind.wrap_i64];omega
       have hkl:k≤s.size:=by omega
       refine gz42 ?_;refine gz2 ?_;refine gz13 ?_;go_wp2
       go_ret3
       exact ⟨by rw [←HR.out,E1.out];first|done|rfl,(Kept.refl _ _).drew⟩
theorem ref_isMail (s:ByteArray) (w:World) (hs:s.size≤1000):Calls Tryz.prog 278 #[.string s] w fun e w'=>e = .returned (.bool (mailB s))∧Pure w w':=by
 have C:=ref_parts s w hs;have hp:(partsB s).2.2=mailB s:=by unfold partsB;split <;> simp_all
 unfold PartsP at C;obtain ⟨P,hP⟩:∃ P,partsB s=P:=⟨_,rfl⟩;rw [hP] at C hp;obtain ⟨P1,P2,P3⟩:=P;simp only at hp;subst hp;have C:=hI C;clear hP;go_enter Tryz.func278,Tryz.ntmps278;go_wp2_with fail;refine (C.out).mono ?_;rintro e w1 ⟨rfl,hk1⟩;go_wp2;go_ret;exact ⟨rfl,hk1⟩
def clnS (s:ByteArray):ByteArray×Int:=(⟨(clnL s.data.toList).1.toArray⟩,(clnL s.data.toList).2)
def fldS (s:ByteArray):ByteArray:=⟨(foldL s.data.toList).toArray⟩
def telS (s:ByteArray):ByteArray×Int:=(⟨(telL s.data.toList).1.toArray⟩,(telL s.data.toList).2)
def atOr (c:ByteArray):Nat:=if atTo c c.size<0 then c.size else (atTo c c.size).toNat
def mailC (c:ByteArray):ByteArray:=c.extract 0 (atOr c)++fldS (c.extract (atOr c) c.size)
def mailS (s:ByteArray):ByteArray×Int:=if (clnS s).2≠0 then (⟨#[]⟩,(clnS s).2) else if mailB (mailC (clnS s).1)=true then (mailC (clnS s).1,0) else (⟨#[]⟩,1)
def SP (w:World) (r:ByteArray×Int) (e:Ending) (w':World):Prop:=e = .returned (.tuple #[.string r.1,.int .i64 r.2])∧Pure w w'
theorem cln_any (s:ByteArray) (w:World) (hs:s.size≤1000):Calls Tryz.prog 269 #[.string s] w (SP w (clnS s)):=ref_clean s w hs
theorem tel_any (s:ByteArray) (w:World) (hs:s.size≤1000):Calls Tryz.prog 267 #[.string s] w (SP w (telS s)):=ref_tel s w hs
theorem clnS_len {s:ByteArray}:(clnS s).1.size≤64:=by
 have h1:(clnS s).1.size=(clnL s.data.toList).1.length:=by show ((clnL s.data.toList).1.toArray).size=_;simp
 rw [h1]
 by_cases h0:(clnL s.data.toList).2=0
 ·exact (clnL_ok (l:=s.data.toList) (o:=(clnL s.data.toList).1) (by rw [←h0])).2.2.2.2
 ·have:(clnL s.data.toList).1=[]:=by
   revert h0
   unfold clnL cleanL outL
   repeat' split
   all_goals simp
  rw [this];simp
theorem fldS_size (s:ByteArray):(fldS s).size=s.size:=by show ((foldL s.data.toList).toArray).size=_;simp [foldL_length]
theorem ref_mail (s:ByteArray) (w:World) (hs:s.size≤1000):Calls Tryz.prog 268 #[.string s] w (SP w (mailS s)):=by
 have C:=cln_any s w hs;have hcl:=clnS_len (s:=s);unfold mailS;unfold SP at C;obtain ⟨r,hr⟩:∃ r,clnS s=r:=⟨_,rfl⟩;rw [hr] at C hcl ⊢;obtain ⟨c,e⟩:=r;simp only at C hcl ⊢;have C:=hI C;clear hr
 by_cases he:e≠0
 ·rw [if_pos he]
  have he':(e != 0)=true:=by simpa using he
  clear he;go_enter Tryz.func268,Tryz.ntmps268;go_wp2_with fail;refine (C.out).mono ?_;rintro e w1 ⟨rfl,hk1⟩;go_wp2
  go_ret2
  exact ⟨rfl,hk1⟩
 ·obtain rfl:e=0:=Decidable.not_not.1 he
  rw [if_neg he];have hb:=get_bt c;obtain ⟨R,hR⟩:∃ R,(if mailB (mailC c)=true then (mailC c,(0:Int)) else (⟨#[]⟩,1))=R:=⟨_,rfl⟩;rw [hR];have HR:=hI hR;clear hR he;go_enter Tryz.func268,Tryz.ntmps268;go_wp2_with fail;refine (C.out).mono ?_;rintro e w1 ⟨rfl,hk1⟩;have Hk1:=hI hk1;clear hk1;go_wp2
  go_loop [6,7] (fun va vi=>∃ (i:Nat),va = .int .i64 (if atTo c i<0 then (c.size:Int) else atTo c i)∧vi = .int .i64 i∧i≤c.size) (fun _ vi=>c.size-(intOf vi).toNat)
  case atStart=>exact ⟨0,rfl,rfl,Nat.zero_le _⟩
  case round =>
   obtain ⟨i,rfl,rfl,hi⟩:=hrel
   by_cases hlt:i<c.size
   ·by_cases h64:bt c i=64
    ·have h64':(bt c i == 64)=true:=by simpa using h64
     have Hn:Hid ((if atTo c (i+1)<0 then (c.size:Int) else atTo c (i+1))=(i:Int)):=by rw [Hid,atTo,if_pos h64,if_neg (by omega)]
     clear h64;obtain ⟨A,hA⟩:∃ A,(if atTo c i<0 then (c.size:Int) else atTo c i)=A:=⟨_,rfl⟩;rw [hA];clear hA;go_wp2
     go_round
     case measure=>first|omega|(simp [intOf];omega)
     case rel=>exact ⟨i+1,by rw [Hn.out],by first|rfl|go_num,by omega⟩
    ·have h64':(bt c i == 64)=false:=by simpa using h64
     have Hn:Hid (atTo c (i+1)=atTo c i):=by rw [Hid,atTo,if_neg h64]
     clear h64;obtain ⟨A,hA⟩:∃ A,(if atTo c i<0 then (c.size:Int) else atTo c i)=A:=⟨_,rfl⟩;rw [hA];have HA:=hI hA;clear hA;go_wp2
     go_round
     case measure=>first|omega|(simp [intOf];omega)
     case rel=>exact ⟨i+1,by rw [Hn.out,HA.out],by first|rfl|go_num,by omega⟩
   ·obtain rfl:i=c.size:=by omega
    have hal:(if atTo c c.size<0 then (c.size:Int) else atTo c c.size)=(atOr c:Nat):=by
     unfold atOr
     split
     ·rfl
     ·omega
    rw [hal];have hle:atOr c≤c.size:=by
     have:=atTo_lt c c.size;unfold atOr
     split <;> omega
    have hm:mailC c=c.extract 0 (atOr c)++fldS (c.extract (atOr c) c.size):=rfl;obtain ⟨a,ha⟩:∃ a,atOr c=a:=⟨_,rfl⟩;rw [ha] at hm hle ⊢;have hx2:(c.extract a c.size).size≤1000:=by rw [ext_size _ _ _ (by omega)];omega
    have CF:=fun w=>ref_fold (c.extract a c.size) w hx2;have hms:(mailC c).size≤1000:=by rw [hm,ByteArray.size_append,fldS_size,ext_size _ _ _ hle,ext_size _ _ _ (by omega)];omega
    have CI:=fun w=>ref_isMail (mailC c) w hms;have g1:((9223372036854775807:Int)<((c.extract 0 a++fldS (c.extract a c.size)).size:Int))=False:=by rw [←hm];exact eq_false (by omega)
    change ∀ w,Calls Tryz.prog 277 #[.string (c.extract a c.size)] w fun e w'=>e = .returned (.string (fldS (c.extract a c.size)))∧Pure w w' at CF
    rw [hm] at CI;have hDs:(fldS (c.extract a c.size)).size≤1000:=by rw [fldS_size];exact hx2
    generalize fldS (c.extract a c.size)=D at *;obtain ⟨L,hL⟩:∃ L,c.extract 0 a=L:=⟨_,rfl⟩;have hLs:L.size≤1000:=by rw [←hL,ext_size _ _ _ hle];omega
    rw [hL] at hm g1 CI;have k1:(9223372036854775807<L.size+D.size)=False:=eq_false (by omega)
    have Hm:=hI hm;have CF:=hI CF;have CI:=hI CI;clear hm hms hal ha hx2;cases hb:mailB (mailC c) with
    | true =>
     have Hb:=hI hb;have e1:R=(mailC c,0):=by rw [←HR.out,if_pos hb]
     have E1:=hI e1;rw [Hm.out] at hb;rw [hb] at CI;clear hb e1;go_wp2;have hal:(a:Int)≤(c.size:Int):=by omega
     refine wp_region_seq [6] [0,1,2] (by kernel_rfl) (by kernel_rfl) (by kernel_rfl) ?_
     refine gz4 ?_;refine gz2 ?_
     with_reducible refine seq_move (by decide) (fun K hK=>?_)
     go_simp;refine up_enter ((CF.out _).mono ?_);rintro e w2 ⟨rfl,hk2⟩;have Hk2:=hI (Kept.trans (Kept.refl _ _).drew hk2 (fun _ _ h=>h));refine ⟨_,rfl,hK _ _ ?_⟩;clear hK K hk2;refine gz2 ?_;refine gz13 ?_;go_wp2_with fail;refine (CI.out _).mono ?_;rintro e w3 ⟨rfl,hk3⟩;go_wp2
     go_ret2
     exact ⟨by rw [E1.out,Hm.out];first|done|rfl,(Hk1.out.same Hk2.out).same hk3⟩
    | false =>
     have e1:R=(⟨#[]⟩,1):=by rw [←HR.out,if_neg (by rw [hb];simp)]
     have E1:=hI e1;rw [Hm.out] at hb;rw [hb] at CI;clear hb e1;go_wp2;have hal:(a:Int)≤(c.size:Int):=by omega
     refine wp_region_seq [6] [0,1,2] (by kernel_rfl) (by kernel_rfl) (by kernel_rfl) ?_
     refine gz4 ?_;refine gz2 ?_
     with_reducible refine seq_move (by decide) (fun K hK=>?_)
     go_simp;refine up_enter ((CF.out _).mono ?_);rintro e w2 ⟨rfl,hk2⟩;have Hk2:=hI (Kept.trans (Kept.refl _ _).drew hk2 (fun _ _ h=>h));refine ⟨_,rfl,hK _ _ ?_⟩;clear hK K hk2;refine gz2 ?_;refine gz13 ?_;go_wp2_with fail;refine (CI.out _).mono ?_;rintro e w3 ⟨rfl,hk3⟩;go_wp2
     go_ret2
     exact ⟨by rw [E1.out];first|done|rfl,(Hk1.out.same Hk2.out).same hk3⟩
end
end Go.Proofs.YtjfpfeapbcjioaaGreat
