/-
  The texts of this claim, put together: Id, IdU, IdR, IdV, IdK.
-/
import Derived.Test.YtjfpfeapbcjioaaGreatRows
import Derived.PlainAid
import Derived.BigQuiet
import Derived.Test.YtjfpfeapbcjioaaGreatZLib
set_option linter.unusedSimpArgs false
set_option linter.unusedVariables false
set_option maxHeartbeats 12800000
set_option maxRecDepth 100000
namespace Go.Proofs.YtjfpfeapbcjioaaGreat
section
open Go.RowKit
def smB (c:Int):Bool:=(decide (97≤c)&&decide (c≤122))||(decide (48≤c)&&decide (c≤57))
theorem small_any (c:Int) (w:World) (h0:0≤c) (h1:c≤255) :
  Calls Tryz.prog 128 #[.int .u8 c] w fun e w'=>e = .returned (.bool (smB c))∧w=w':=by
 by_cases a1:97≤c
 ·by_cases a2:c≤122
  ·have e:smB c=true:=by simp [smB];omega
   rw [e];clear e;go_enter Tryz.func128,Tryz.ntmps128;go_wp2;go_ret;exact ⟨rfl,rfl⟩
  ·have e:smB c=false:=by simp [smB];omega
   rw [e];have a3:¬c≤57:=by omega
   have a4:48≤c:=by omega
   clear e;go_enter Tryz.func128,Tryz.ntmps128;go_wp2;go_ret;exact ⟨rfl,rfl⟩
 ·by_cases a3:48≤c
  ·by_cases a4:c≤57
   ·have e:smB c=true:=by simp [smB];omega
    rw [e];clear e;go_enter Tryz.func128,Tryz.ntmps128;go_wp2;go_ret;exact ⟨rfl,rfl⟩
   ·have e:smB c=false:=by simp [smB];omega
    rw [e];clear e;go_enter Tryz.func128,Tryz.ntmps128;go_wp2;go_ret;exact ⟨rfl,rfl⟩
  ·have e:smB c=false:=by simp [smB];omega
   rw [e];clear e;go_enter Tryz.func128,Tryz.ntmps128;go_wp2;go_ret;exact ⟨rfl,rfl⟩
open Go.PlainAid
def nameB (s:ByteArray):Bool :=
 decide (1≤s.size∧s.size≤16∧97≤bt s 0∧bt s 0≤122∧bt s (s.size-1)≠45∧∀ k,k<s.size→smB (bt s k)=true∨bt s k=45)
theorem nameB_no {s:ByteArray} (h:¬(1≤s.size∧s.size≤16∧97≤bt s 0∧bt s 0≤122∧bt s (s.size-1)≠45∧∀ k,k<s.size→smB (bt s k)=true∨bt s k=45)):nameB s=false:=decide_eq_false h
theorem nameB_yes {s:ByteArray} (h:1≤s.size∧s.size≤16∧97≤bt s 0∧bt s 0≤122∧bt s (s.size-1)≠45∧∀ k,k<s.size→smB (bt s k)=true∨bt s k=45):nameB s=true:=decide_eq_true h
theorem name_any (s:ByteArray) (w:World) (hs:s.size≤maxLen) :
  Calls Tryz.prog 64 #[.string s] w fun e w'=>e = .returned (.bool (nameB s))∧w=w':=by
 unfold maxLen at hs
 by_cases h1:s.size<1
 ·have e:=nameB_no (s:=s) (by omega)
  rw [e];clear e;have h1':(s.size:Int)<1:=by omega
  go_enter Tryz.func64,Tryz.ntmps64
  go_wp2;go_ret;exact ⟨rfl,rfl⟩
 ·by_cases h2:16<s.size
  ·have e:=nameB_no (s:=s) (by omega)
   rw [e];clear e;have h1':¬(s.size:Int)<1:=by omega
   have h2':(16:Int)<s.size:=by omega
   go_enter Tryz.func64,Tryz.ntmps64
   go_wp2;go_ret;exact ⟨rfl,rfl⟩
  ·have h1':0<s.size:=by omega
   have h2':s.size≤16:=by omega
   have hb:=get_bt s;have hn0:=bt_nonneg s 0;have hn1:=bt_le s 0;have hcut:((s.size:Int)-1).toNat=s.size-1:=by omega
   clear h1 h2
   by_cases h3:bt s 0<97
   ·rw [nameB_no (s:=s) (by omega)]
    go_enter Tryz.func64,Tryz.ntmps64
    go_wp2;go_ret;exact ⟨rfl,rfl⟩
   ·by_cases h4:122<bt s 0
    ·rw [nameB_no (s:=s) (by omega)]
     go_enter Tryz.func64,Tryz.ntmps64
     go_wp2;go_ret;exact ⟨rfl,rfl⟩
    ·by_cases h5:bt s (s.size-1)=45
     ·rw [nameB_no (s:=s) (by rintro ⟨_,_,_,_,a5,_⟩;exact a5 h5)]
      have h5':(bt s (s.size-1) == 45)=true:=by simpa using h5
      clear h5;go_enter Tryz.func64,Tryz.ntmps64;go_wp2;go_ret;exact ⟨rfl,rfl⟩
     ·have h5':(bt s (s.size-1) == 45)=false:=by simpa using h5
      have H5:=hI h5;clear h5;go_enter Tryz.func64,Tryz.ntmps64;go_wp2_with fail
      go_loop [32] (fun i=>∃ j:Nat,j≤s.size∧i = .int .i64 j∧Hid (∀ k,k<j→smB (bt s k)=true∨bt s k=45)) (fun i=>s.size-(intOf i).toNat)
      case atStart=>exact ⟨0,Nat.zero_le _,rfl,fun k hk=>absurd hk (by omega)⟩
      case round =>
       obtain ⟨j,hj,rfl,hall⟩:=hrel
       by_cases hjn:j<s.size
       ·have b0:=bt_nonneg s j
        have b1:=bt_le s j;obtain ⟨B,hB⟩:∃ B,B=smB (bt s j):=⟨_,rfl⟩;have hc:=small_any (bt s j);rw [←hB] at hc;have HB:=hI hB;have Hc:=hI hc;clear hc hB;cases B with
        | true =>
         go_wp2_with (go_at_call 128;refine (Hc.out _ b0 b1).mono ?_;rintro e w' ⟨rfl,rfl⟩)
         go_round
         case rel =>
          refine ⟨j+1,by omega,by go_num,fun k hk=>?_⟩
          by_cases hkj:k<j
          ·exact hall.out k hkj
          ·obtain rfl:k=j:=by omega
           exact .inl HB.out.symm
         case measure=>simp [intOf];omega
        | false =>
         by_cases h45:bt s j=45
         ·have h45':(bt s j != 45)=false:=by simp [h45]
          have H45:=hI h45;clear h45;go_wp2_with (go_at_call 128;refine (Hc.out _ b0 b1).mono ?_;rintro e w' ⟨rfl,rfl⟩)
          go_round
          case rel =>
           refine ⟨j+1,by omega,by go_num,fun k hk=>?_⟩
           by_cases hkj:k<j
           ·exact hall.out k hkj
           ·obtain rfl:k=j:=by omega
            exact .inr H45.out
          case measure=>simp [intOf];omega
         ·have h45':(bt s j != 45)=true:=by simp [h45]
          have Hno:=hI (nameB_no (s:=s) (by
           rintro ⟨_,_,_,_,_,a6⟩;rcases a6 j hjn with h|h
           ·rw [←HB.out] at h;cases h
           ·exact h45 h))
          clear h45;go_wp2_with (go_at_call 128;refine (Hc.out _ b0 b1).mono ?_;rintro e w' ⟨rfl,rfl⟩);go_ret;rw [Hno.out];exact ⟨rfl,rfl⟩
       ·obtain rfl:j=s.size:=by omega
        have hyes:=nameB_yes (s:=s) ⟨by omega,by omega,by omega,by omega,H5.out,hall.out⟩
        have Hyes:=hI hyes;clear hyes;go_wp2;go_ret;rw [Hyes.out];exact ⟨rfl,rfl⟩
end
section
open Go.RowKit Go.PlainAid
def okU (c:Int):Bool:=smB c||(decide (65≤c)&&decide (c≤90))||c == 45||c == 46||c == 95||c == 64
def uidB (s:ByteArray):Bool:=decide (1≤s.size∧s.size≤24∧∀ k,k<s.size→okU (bt s k)=true)
theorem uidB_no {s:ByteArray} (h:¬(1≤s.size∧s.size≤24∧∀ k,k<s.size→okU (bt s k)=true)):uidB s=false:=decide_eq_false h
theorem uidB_yes {s:ByteArray} (h:1≤s.size∧s.size≤24∧∀ k,k<s.size→okU (bt s k)=true):uidB s=true:=decide_eq_true h
end
section
open Go.RowKit Go.PlainAid
def inB (a b c:Int):Bool:=decide (a≤c)&&decide (c≤b)
theorem inB_yes {a b c:Int} (h:a≤c∧c≤b):inB a b c=true:=by simp [inB,h]
theorem inB_no {a b c:Int} (h:¬(a≤c∧c≤b)):inB a b c=false:=by simp [inB];omega
theorem ref_low (c:Int) (w:World) (h0:0≤c) (h1:c≤255) :
  Calls Tryz.prog 113 #[.int .u8 c] w fun e w'=>e = .returned (.bool (inB 97 122 c))∧w=w':=by
 by_cases a1:97≤c
 ·by_cases a2:c≤122
  ·rw [inB_yes ⟨a1,a2⟩]
   go_enter Tryz.func113,Tryz.ntmps113
   go_wp2;go_ret;exact ⟨rfl,rfl⟩
  ·rw [inB_no (by omega)]
   go_enter Tryz.func113,Tryz.ntmps113
   go_wp2;go_ret;exact ⟨rfl,rfl⟩
 ·rw [inB_no (by omega)]
  go_enter Tryz.func113,Tryz.ntmps113
  go_wp2;go_ret;exact ⟨rfl,rfl⟩
theorem ref_up (c:Int) (w:World) (h0:0≤c) (h1:c≤255) :
  Calls Tryz.prog 135 #[.int .u8 c] w fun e w'=>e = .returned (.bool (inB 65 90 c))∧w=w':=by
 by_cases a1:65≤c
 ·by_cases a2:c≤90
  ·rw [inB_yes ⟨a1,a2⟩]
   go_enter Tryz.func135,Tryz.ntmps135
   go_wp2;go_ret;exact ⟨rfl,rfl⟩
  ·rw [inB_no (by omega)]
   go_enter Tryz.func135,Tryz.ntmps135
   go_wp2;go_ret;exact ⟨rfl,rfl⟩
 ·rw [inB_no (by omega)]
  go_enter Tryz.func135,Tryz.ntmps135
  go_wp2;go_ret;exact ⟨rfl,rfl⟩
theorem ref_digit (c:Int) (w:World) (h0:0≤c) (h1:c≤255) :
  Calls Tryz.prog 114 #[.int .u8 c] w fun e w'=>e = .returned (.bool (inB 48 57 c))∧w=w':=by
 by_cases a1:48≤c
 ·by_cases a2:c≤57
  ·rw [inB_yes ⟨a1,a2⟩]
   go_enter Tryz.func114,Tryz.ntmps114
   go_wp2;go_ret;exact ⟨rfl,rfl⟩
  ·rw [inB_no (by omega)]
   go_enter Tryz.func114,Tryz.ntmps114
   go_wp2;go_ret;exact ⟨rfl,rfl⟩
 ·rw [inB_no (by omega)]
  go_enter Tryz.func114,Tryz.ntmps114
  go_wp2;go_ret;exact ⟨rfl,rfl⟩
theorem smB_in (c:Int):smB c=(inB 97 122 c||inB 48 57 c):=rfl
theorem ref_name (s:ByteArray) (w:World) (hs:s.size≤maxLen) :
    Calls Tryz.prog 49 #[.string s] w fun e w'=>e = .returned (.bool (nameB s))∧w=w':=by
  unfold maxLen at hs
  by_cases h1:s.size<1
  · rw [nameB_no (s:=s) (by omega)]
    have h1':(s.size:Int)<1:=by omega
    go_enter Tryz.func49,Tryz.ntmps49
    go_wp2
    go_ret
    exact ⟨rfl,rfl⟩
  · by_cases h2:16<s.size
    · rw [nameB_no (s:=s) (by omega)]
      have h1':¬(s.size:Int)<1:=by omega
      have h2':(16:Int)<s.size:=by omega
      go_enter Tryz.func49,Tryz.ntmps49
      go_wp2
      go_ret
      exact ⟨rfl,rfl⟩
    · have h1':0<s.size:=by omega
      have h2':s.size≤16:=by omega
      have hb:=get_bt s
      have hn0:=bt_nonneg s 0
      have hn1:=bt_le s 0
      have hcut:((s.size:Int)-1).toNat=s.size-1:=by omega
      clear h1 h2
      by_cases h3:97≤bt s 0∧bt s 0≤122
      · have c0:=ref_low (bt s 0)
        rw [inB_yes h3] at c0
        have C0:=hI c0
        have H3:=hI h3
        clear c0 h3
        by_cases h5:bt s (s.size-1)=45
        · rw [nameB_no (s:=s) (by rintro ⟨_,_,_,_,a5,_⟩;exact a5 h5)]
          have h5':(bt s (s.size-1) == 45)=true:=by simpa using h5
          clear h5
          go_enter Tryz.func49,Tryz.ntmps49
          go_wp2_with (go_at_call 113;refine (C0.out _ hn0 hn1).mono ?_;rintro e w' ⟨rfl,rfl⟩)
          go_ret
          exact ⟨rfl,rfl⟩
        · have h5':(bt s (s.size-1) == 45)=false:=by simpa using h5
          have H5:=hI h5
          clear h5
          go_enter Tryz.func49,Tryz.ntmps49
          go_wp2_with (go_at_call 113;refine (C0.out _ hn0 hn1).mono ?_;rintro e w' ⟨rfl,rfl⟩)
          go_loop [3] (fun i=>∃ j:Nat,j≤s.size∧i = .int .i64 j∧Hid (∀ k,k<j→smB (bt s k)=true∨bt s k=45)) (fun i=>s.size-(intOf i).toNat)
          case atStart=>exact ⟨0,Nat.zero_le _,rfl,fun k hk=>absurd hk (by omega)⟩
          case round =>
            obtain ⟨j,hj,rfl,hall⟩:=hrel
            by_cases hjn:j<s.size
            · have b0:=bt_nonneg s j
              have b1:=bt_le s j
              have Hc:=hI (ref_low (bt s j))
              have Hd:=hI (ref_digit (bt s j))
              go_wp2_with (first|(go_at_call 113;refine (Hc.out _ b0 b1).mono ?_;rintro e w' ⟨rfl,rfl⟩)|(go_at_call 114;refine (Hd.out _ b0 b1).mono ?_;rintro e w' ⟨rfl,rfl⟩))
              all_goals first
                | (go_ret
                   have hno:smB (bt s j)=false∧bt s j≠45:=by first|(simp [smB_in, *];done)|(simp_all [smB_in];done)|(simp_all [smB_in];omega)
                   rw [nameB_no (s:=s) (by rintro ⟨_,_,_,_,_,a⟩;rcases a j hjn with h|h;rw [hno.1] at h;cases h;exact hno.2 h)]
                   exact ⟨rfl,rfl⟩)
                | (go_round
                   case measure=>simp [intOf];omega
                   case rel =>
                     have hyes:smB (bt s j)=true∨bt s j=45:=by first|(simp [smB_in, *];done)|(simp_all [smB_in];done)|(simp_all [smB_in];omega)
                     refine ⟨j+1,by omega,by go_num,fun k hk=>?_⟩
                     by_cases hkj:k<j
                     · exact hall.out k hkj
                     · obtain rfl:k=j:=by omega
                       exact hyes)
            · obtain rfl:j=s.size:=by omega
              have Hyes:=hI (nameB_yes (s:=s) ⟨by omega,by omega,H3.out.1,H3.out.2,H5.out,hall.out⟩)
              go_wp2
              go_ret
              rw [Hyes.out]
              exact ⟨rfl,rfl⟩
      · have c0:=ref_low (bt s 0)
        rw [inB_no h3] at c0
        have C0:=hI c0
        rw [nameB_no (s:=s) (by omega)]
        clear c0 h3
        go_enter Tryz.func49,Tryz.ntmps49
        go_wp2_with (go_at_call 113;refine (C0.out _ hn0 hn1).mono ?_;rintro e w' ⟨rfl,rfl⟩)
        go_ret
        exact ⟨rfl,rfl⟩
end
section
open Go.RowKit Go.PlainAid
theorem okU_in (c:Int):okU c=(inB 97 122 c||inB 48 57 c||inB 65 90 c||c == 45||c == 46||c == 95||c == 64):=rfl
theorem ref_uid (s:ByteArray) (w:World) (hs:s.size≤maxLen) :
    Calls Tryz.prog 67 #[.string s] w fun e w'=>e = .returned (.bool (uidB s))∧w=w':=by
  unfold maxLen at hs
  by_cases h1:s.size<1
  · rw [uidB_no (s:=s) (by omega)]
    have h1':(s.size:Int)<1:=by omega
    go_enter Tryz.func67,Tryz.ntmps67
    go_wp2
    go_ret
    exact ⟨rfl,rfl⟩
  · by_cases h2:24<s.size
    · rw [uidB_no (s:=s) (by omega)]
      have h1':¬(s.size:Int)<1:=by omega
      have h2':(24:Int)<s.size:=by omega
      go_enter Tryz.func67,Tryz.ntmps67
      go_wp2
      go_ret
      exact ⟨rfl,rfl⟩
    · have h1':0<s.size:=by omega
      have h2':s.size≤24:=by omega
      have hb:=get_bt s
      clear h1 h2
      go_enter Tryz.func67,Tryz.ntmps67
      go_wp2_with fail
      go_loop [3] (fun i=>∃ j:Nat,j≤s.size∧i = .int .i64 j∧Hid (∀ k,k<j→okU (bt s k)=true)) (fun i=>s.size-(intOf i).toNat)
      case atStart=>exact ⟨0,Nat.zero_le _,rfl,fun k hk=>absurd hk (by omega)⟩
      case round =>
        obtain ⟨j,hj,rfl,hall⟩:=hrel
        by_cases hjn:j<s.size
        · have b0:=bt_nonneg s j
          have b1:=bt_le s j
          have Hl:=hI (ref_low (bt s j))
          have Hu:=hI (ref_up (bt s j))
          have Hd:=hI (ref_digit (bt s j))
          go_wp2_with (first|(go_at_call 113;refine (Hl.out _ b0 b1).mono ?_;rintro e w' ⟨rfl,rfl⟩)|(go_at_call 135;refine (Hu.out _ b0 b1).mono ?_;rintro e w' ⟨rfl,rfl⟩)|(go_at_call 114;refine (Hd.out _ b0 b1).mono ?_;rintro e w' ⟨rfl,rfl⟩))
          all_goals first
            | (go_ret
               have hno:okU (bt s j)=false:=by first|(simp [okU_in, *];done)|(simp_all [okU_in];done)|(simp_all [okU_in];omega)
               rw [uidB_no (s:=s) (by rintro ⟨_,_,a⟩;have:=a j hjn;rw [hno] at this;cases this)]
               exact ⟨rfl,rfl⟩)
            | (go_round
               case measure=>simp [intOf];omega
               case rel =>
                 have hyes:okU (bt s j)=true:=by first|(simp [okU_in, *];done)|(simp_all [okU_in];done)|(simp_all [okU_in];omega)
                 refine ⟨j+1,by omega,by go_num,fun k hk=>?_⟩
                 by_cases hkj:k<j
                 · exact hall.out k hkj
                 · obtain rfl:k=j:=by omega
                   exact hyes)
        · obtain rfl:j=s.size:=by omega
          have Hyes:=hI (uidB_yes (s:=s) ⟨by omega,by omega,hall.out⟩)
          go_wp2
          go_ret
          rw [Hyes.out]
          exact ⟨rfl,rfl⟩
end
section
open Go.RowKit Go.PlainAid
def keyB (a b : ByteArray) : ByteArray := if nameB a && nameB b then a ++ (⟨#[47]⟩ : ByteArray) ++ b else "".toUTF8
theorem nameB_size {s:ByteArray} (h:nameB s=true):s.size≤16:=by
 unfold nameB at h;exact (of_decide_eq_true h).2.1
theorem key_any (a b : ByteArray) (w : World) (ha : a.size ≤ maxLen) (hb : b.size ≤ maxLen) :
    Calls Tryz.prog 56 #[.string a, .string b] w fun e w' => e = .returned (.string (keyB a b)) ∧ w = w' := by
  have Ha := hI (name_any a w ha)
  have Hb := hI (name_any b w hb)
  by_cases h1 : nameB a = true
  · rw [h1] at Ha
    by_cases h2 : nameB b = true
    · have er : keyB a b = a ++ (⟨#[47]⟩ : ByteArray) ++ b := by simp [keyB, h1, h2]
      rw [er]
      rw [h2] at Hb
      have z1 := nameB_size h1
      have z2 := nameB_size h2
      have g1 : ¬ ((9223372036854775807 : Int) < ((a ++ (⟨#[47]⟩ : ByteArray)).size : Int)) := by
        have : (⟨#[47]⟩ : ByteArray).size = 1 := rfl
        rw [ByteArray.size_append]; omega
      have g2 : ¬ ((9223372036854775807 : Int) < ((a ++ (⟨#[47]⟩ : ByteArray) ++ b).size : Int)) := by
        have : (⟨#[47]⟩ : ByteArray).size = 1 := rfl
        rw [ByteArray.size_append, ByteArray.size_append]; omega
      clear h1 h2 er
      go_enter Tryz.func56, Tryz.ntmps56
      go_wp2_with fail
      refine Ha.out.mono ?_; rintro e w' ⟨rfl, rfl⟩
      go_wp2_with fail
      refine Hb.out.mono ?_; rintro e w' ⟨rfl, rfl⟩
      go_wp2
      go_ret
      exact ⟨rfl, rfl⟩
    · have e : nameB b = false := by simpa using h2
      have er : keyB a b = "".toUTF8 := by simp [keyB, e]
      rw [er]
      rw [e] at Hb
      clear h1 h2 e er
      go_enter Tryz.func56, Tryz.ntmps56
      go_wp2_with fail
      refine Ha.out.mono ?_; rintro e w' ⟨rfl, rfl⟩
      go_wp2_with fail
      refine Hb.out.mono ?_; rintro e w' ⟨rfl, rfl⟩
      go_wp2
      go_ret
      exact ⟨rfl, rfl⟩
  · have e : nameB a = false := by simpa using h1
    have er : keyB a b = "".toUTF8 := by simp [keyB, e]
    rw [er]
    rw [e] at Ha
    clear h1 e er
    go_enter Tryz.func56, Tryz.ntmps56
    go_wp2_with (go_at_call 64; refine Ha.out.mono ?_; rintro e w' ⟨rfl, rfl⟩)
    go_ret
    exact ⟨rfl, rfl⟩
end
end Go.Proofs.YtjfpfeapbcjioaaGreat
