/-
  The texts of this claim, put together: CaM.
-/
import Derived.Test.YtjfpfeapbcjioaaGreatZCaB
import Derived.Test.YtjfpfeapbcjioaaGreatZId
set_option linter.unusedSimpArgs false
set_option linter.unusedVariables false
set_option maxHeartbeats 12800000
set_option maxRecDepth 100000
namespace Go.Proofs.YtjfpfeapbcjioaaGreat
section
open Go.RowKit Go.PlainAid
def locC (c:Int):Bool:=inB 97 122 c||inB 65 90 c||inB 48 57 c||c == 46||c == 95||c == 43||c == 45
def locB (s:ByteArray):Bool:=decide (1≤s.size∧s.size≤32∧bt s 0≠46∧bt s (s.size-1)≠46∧∀ k,k<s.size→locC (bt s k)=true∧¬(bt s k=46∧bt s (k-1)=46))
theorem locB_no {s:ByteArray} (h:¬(1≤s.size∧s.size≤32∧bt s 0≠46∧bt s (s.size-1)≠46∧∀ k,k<s.size→locC (bt s k)=true∧¬(bt s k=46∧bt s (k-1)=46))):locB s=false:=decide_eq_false h
theorem locB_yes {s:ByteArray} (h:1≤s.size∧s.size≤32∧bt s 0≠46∧bt s (s.size-1)≠46∧∀ k,k<s.size→locC (bt s k)=true∧¬(bt s k=46∧bt s (k-1)=46)):locB s=true:=decide_eq_true h
theorem ref_local (s:ByteArray) (w:World) (hs:s.size≤1000) :
    Calls Tryz.prog 284 #[.string s] w fun e w'=>e = .returned (.bool (locB s))∧w=w':=by
  by_cases h1:s.size<1
  · rw [locB_no (s:=s) (by omega)]
    have h1':(s.size:Int)<1:=by omega
    go_enter Tryz.func284,Tryz.ntmps284
    go_wp2
    go_ret
    exact ⟨rfl,rfl⟩
  · by_cases h2:32<s.size
    · rw [locB_no (s:=s) (by omega)]
      have h1':¬(s.size:Int)<1:=by omega
      have h2':(32:Int)<s.size:=by omega
      go_enter Tryz.func284,Tryz.ntmps284
      go_wp2
      go_ret
      exact ⟨rfl,rfl⟩
    · have h1':0<s.size:=by omega
      have h2':s.size≤32:=by omega
      have hb:=get_bt s
      have hcz:((s.size:Int)-1).toNat=s.size-1:=by omega
      clear h1 h2
      by_cases h3:bt s 0=46
      · rw [locB_no (s:=s) (fun h=>h.2.2.1 h3)]
        have h3':(bt s 0 == 46)=true:=by simpa using h3
        clear h3
        go_enter Tryz.func284,Tryz.ntmps284
        go_wp2
        go_ret
        exact ⟨rfl,rfl⟩
      · have h3':(bt s 0 == 46)=false:=by simpa using h3
        by_cases h4:bt s (s.size-1)=46
        · rw [locB_no (s:=s) (fun h=>h.2.2.2.1 h4)]
          have h4':(bt s (s.size-1) == 46)=true:=by simpa using h4
          clear h3 h4
          go_enter Tryz.func284,Tryz.ntmps284
          go_wp2
          go_ret
          exact ⟨rfl,rfl⟩
        · have h4':(bt s (s.size-1) == 46)=false:=by simpa using h4
          have H3:=hI h3
          have H4:=hI h4
          clear h3 h4
          go_enter Tryz.func284,Tryz.ntmps284
          go_wp2_with fail
          go_loop [3] (fun i=>∃ j:Nat,j≤s.size∧i = .int .i64 j∧Hid (∀ k,k<j→locC (bt s k)=true∧¬(bt s k=46∧bt s (k-1)=46))) (fun i=>s.size-(intOf i).toNat)
          case atStart=>exact ⟨0,Nat.zero_le _,rfl,fun k hk=>absurd hk (by omega)⟩
          case round =>
            obtain ⟨j,hj,rfl,hall⟩:=hrel
            by_cases hjn:j<s.size
            · have b0:=bt_nonneg s j
              have b1:=bt_le s j
              have Hl:=hI (ref_low (bt s j))
              have Hu:=hI (ref_up (bt s j))
              have Hd:=hI (ref_digit (bt s j))
              by_cases hd:bt s j=46
              · have hj0:¬j=0:=fun h=>H3.out (by rw [←h];exact hd)
                have hc1:((j:Int)-1).toNat=j-1:=by omega
                have hjp:(0:Int)≤(j:Int)-1∧j-1<s.size:=by omega
                have e46:inB 97 122 46=false∧inB 65 90 46=false∧inB 48 57 46=false:=by decide
                have l46:locC 46=true:=by decide
                obtain ⟨x1,x2,x3⟩:=e46
                by_cases hp:bt s (j-1)=46
                · have hp':(bt s (j-1) == 46)=true:=by simpa using hp
                  have Hno:=hI (locB_no (s:=s) (fun h=>(h.2.2.2.2 j hjn).2 ⟨hd,hp⟩))
                  rw [hd] at Hl Hu Hd
                  rw [x1] at Hl
                  rw [x2] at Hu
                  rw [x3] at Hd
                  have hd':=hd
                  clear hp b0 b1 l46
                  go_wp2_with (first|(go_at_call 113;refine (Hl.out _ (by omega) (by omega)).mono ?_;rintro e w' ⟨rfl,rfl⟩)|(go_at_call 135;refine (Hu.out _ (by omega) (by omega)).mono ?_;rintro e w' ⟨rfl,rfl⟩)|(go_at_call 114;refine (Hd.out _ (by omega) (by omega)).mono ?_;rintro e w' ⟨rfl,rfl⟩))
                  go_ret
                  rw [Hno.out]
                  exact ⟨rfl,rfl⟩
                · have hp':(bt s (j-1) == 46)=false:=by simpa using hp
                  have Hn:Hid (locC (bt s j)=true∧¬(bt s j=46∧bt s (j-1)=46)):=⟨by rw [hd];exact l46,fun h=>hp h.2⟩
                  rw [hd] at Hl Hu Hd
                  rw [x1] at Hl
                  rw [x2] at Hu
                  rw [x3] at Hd
                  have hd':=hd
                  clear hp b0 b1 l46
                  go_wp2_with (first|(go_at_call 113;refine (Hl.out _ (by omega) (by omega)).mono ?_;rintro e w' ⟨rfl,rfl⟩)|(go_at_call 135;refine (Hu.out _ (by omega) (by omega)).mono ?_;rintro e w' ⟨rfl,rfl⟩)|(go_at_call 114;refine (Hd.out _ (by omega) (by omega)).mono ?_;rintro e w' ⟨rfl,rfl⟩))
                  go_round
                  case measure=>simp [intOf];omega
                  case rel =>
                    refine ⟨j+1,by omega,by go_num,fun k hk=>?_⟩
                    by_cases hkj:k<j
                    · exact hall.out k hkj
                    · obtain rfl:k=j:=by omega
                      exact Hn.out
              · have hd':(bt s j == 46)=false:=by simpa using hd
                have Hd9:=hI hd
                clear hd
                go_wp2_with (first|(go_at_call 113;refine (Hl.out _ b0 b1).mono ?_;rintro e w' ⟨rfl,rfl⟩)|(go_at_call 135;refine (Hu.out _ b0 b1).mono ?_;rintro e w' ⟨rfl,rfl⟩)|(go_at_call 114;refine (Hd.out _ b0 b1).mono ?_;rintro e w' ⟨rfl,rfl⟩))
                all_goals first
                  | (go_ret
                     have hno:locC (bt s j)=false:=by first|(simp [locC, *];done)|(simp_all [locC];done)|(simp_all [locC];omega)
                     rw [locB_no (s:=s) (by rintro ⟨_,_,_,_,a⟩;have:=(a j hjn).1;rw [hno] at this;cases this)]
                     exact ⟨rfl,rfl⟩)
                  | (go_round
                     case measure=>simp [intOf];omega
                     case rel =>
                       have hyes:locC (bt s j)=true:=by first|(simp [locC, *];done)|(simp_all [locC];done)|(simp_all [locC];omega)
                       refine ⟨j+1,by omega,by go_num,fun k hk=>?_⟩
                       by_cases hkj:k<j
                       · exact hall.out k hkj
                       · obtain rfl:k=j:=by omega
                         exact ⟨hyes,fun h=>Hd9.out h.1⟩)
            · obtain rfl:j=s.size:=by omega
              have Hyes:=hI (locB_yes (s:=s) ⟨by omega,by omega,H3.out,H4.out,hall.out⟩)
              go_wp2
              go_ret
              rw [Hyes.out]
              exact ⟨rfl,rfl⟩
def domC (c:Int):Bool:=inB 97 122 c||inB 48 57 c||c == 45
def labB (l:ByteArray):Bool:=decide (1≤l.size∧l.size≤20∧bt l 0≠45∧bt l (l.size-1)≠45)
def domGo (s:ByteArray):Nat→Nat→Nat→Nat→Bool
 | 0,_,_,n=>decide (2≤n)
 | m+1,i,f,n=>if i<s.size∧bt s i≠46 then (if domC (bt s i)=true then domGo s m (i+1) f n else false) else if labB (s.extract f i)=true then domGo s m (i+1) (i+1) (n+1) else false
def domB (s:ByteArray):Bool:=domGo s (s.size+1) 0 0 0
theorem ref_domain (s:ByteArray) (w:World) (hs:s.size≤1000) :
    Calls Tryz.prog 285 #[.string s] w fun e w'=>e = .returned (.bool (domB s))∧w=w':=by
  obtain ⟨R,hR0⟩:∃ R,domB s=R:=⟨_,rfl⟩
  rw [hR0]
  have HR0:=hI hR0
  have hb:=get_bt s
  clear hR0
  go_enter Tryz.func285,Tryz.ntmps285
  go_wp2
  go_loop [3,4,5] (fun vn vf vi=>∃ (i f n:Nat),vn = .int .i64 n∧vf = .int .i64 f∧vi = .int .i64 i∧f≤i∧i≤s.size+1∧n≤i∧Hid (domGo s (s.size+1-i) i f n=R)) (fun _ _ vi=>s.size+1-(intOf vi).toNat)
  case atStart=>exact ⟨0,0,0,rfl,rfl,rfl,Nat.le_refl _,by omega,Nat.le_refl _,HR0⟩
  case round =>
    obtain ⟨i,f,n,rfl,rfl,rfl,hfi0,hi0,hni,hR⟩:=hrel
    by_cases hi1:i≤s.size
    · rw [show s.size+1-i=(s.size-i)+1 by omega] at hR
      by_cases hlt:i<s.size
      · by_cases hdot:bt s i=46
        · have hdot':(bt s i != 46)=false:=by simpa using hdot
          have Hdot:=hI hdot
          clear hdot
          have hfi:(0:Int)≤(f:Int)∧(f:Int)≤(i:Nat)∧((i:Nat):Int)≤(s.size:Int):=by omega
          have hLs:(s.extract f i).size=i-f:=by rw [ByteArray.size_extract];omega
          obtain ⟨L,hL⟩:∃ L,s.extract f i=L:=⟨_,rfl⟩
          have hLe:=hI hL
          rw [hL] at hLs
          have hbl:=get_bt L
          have hcz:((L.size:Int)-1).toNat=L.size-1:=by omega
          have hLL:L.size≤1000:=by omega
          clear hLs
          by_cases l1:L.size<1
          · have l1':(L.size:Int)<1:=by omega
            have e1:labB L=false:=decide_eq_false (fun h=>by omega)
            have e:R=false:=by rw [←hR.out,domGo,if_neg (fun h=>h.2 Hdot.out),hLe.out,e1];rfl
            have He:=hI e
            clear e e1
            go_wp2
            go_ret
            exact ⟨by rw [He.out];rfl,rfl⟩
          · have l1':0<L.size:=by omega
            by_cases l2:20<L.size
            · have l2':(20:Int)<L.size:=by omega
              have e1:labB L=false:=decide_eq_false (fun h=>by omega)
              have e:R=false:=by rw [←hR.out,domGo,if_neg (fun h=>h.2 Hdot.out),hLe.out,e1];rfl
              have He:=hI e
              clear e e1
              go_wp2
              go_ret
              exact ⟨by rw [He.out];rfl,rfl⟩
            · have l2':¬(20:Int)<L.size:=by omega
              by_cases l3:bt L 0=45
              · have l3':(bt L 0 == 45)=true:=by simpa using l3
                have e1:labB L=false:=decide_eq_false (fun h=>by omega)
                have e:R=false:=by rw [←hR.out,domGo,if_neg (fun h=>h.2 Hdot.out),hLe.out,e1];rfl
                have He:=hI e
                clear e e1
                go_wp2
                go_ret
                exact ⟨by rw [He.out];rfl,rfl⟩
              · have l3':(bt L 0 == 45)=false:=by simpa using l3
                by_cases l4:bt L (L.size-1)=45
                · have l4':(bt L (L.size-1) == 45)=true:=by simpa using l4
                  have e1:labB L=false:=decide_eq_false (fun h=>by omega)
                  have e:R=false:=by rw [←hR.out,domGo,if_neg (fun h=>h.2 Hdot.out),hLe.out,e1];rfl
                  have He:=hI e
                  clear e e1
                  go_wp2
                  go_ret
                  exact ⟨by rw [He.out];rfl,rfl⟩
                · have l4':(bt L (L.size-1) == 45)=false:=by simpa using l4
                  have e1:labB L=true:=decide_eq_true ⟨by omega,by omega,l3,l4⟩
                  have Hn:Hid (domGo s (s.size-i) (i+1) (i+1) (n+1)=R):=by
                    have:=hR.out
                    rw [domGo,if_neg (fun h=>h.2 Hdot.out),hLe.out,e1] at this
                    exact this
                  clear l3 l4 e1 l1 l2
                  go_wp2
                  go_round
                  case measure=>first|omega|(simp [intOf];done)|(simp [intOf];omega)
                  case rel=>exact ⟨i+1,i+1,n+1,by first|rfl|go_num,by first|rfl|go_num,by first|rfl|go_num,by omega,by omega,by omega,by rw [show s.size+1-(i+1)=s.size-i by omega];first|done|exact Hn⟩
        · have hdot':(bt s i != 46)=true:=by simpa using hdot
          have b0:=bt_nonneg s i
          have b1:=bt_le s i
          have Hl:=hI (ref_low (bt s i))
          have Hd:=hI (ref_digit (bt s i))
          have hR2:(if domC (bt s i)=true then domGo s (s.size-i) (i+1) f n else false)=R:=by
            have:=hR.out
            rwa [domGo,if_pos ⟨hlt,hdot⟩] at this
          have HR2:=hI hR2
          clear hR hR2 hdot
          go_wp2_with (first|(go_at_call 113;refine (Hl.out _ b0 b1).mono ?_;rintro e w' ⟨rfl,rfl⟩)|(go_at_call 114;refine (Hd.out _ b0 b1).mono ?_;rintro e w' ⟨rfl,rfl⟩))
          all_goals first
            | (go_ret
               have hno:domC (bt s i)=false:=by first|(simp [domC, *];done)|(simp_all [domC];done)|(simp_all [domC];omega)
               have e:=HR2.out
               rw [hno] at e
               rw [←e]
               exact ⟨rfl,rfl⟩)
            | (go_round
               case measure=>first|omega|(simp [intOf];omega)
               case rel =>
                 have hyes:domC (bt s i)=true:=by first|(simp [domC, *];done)|(simp_all [domC];done)|(simp_all [domC];omega)
                 have e:=HR2.out
                 rw [hyes] at e
                 exact ⟨i+1,f,n,by first|rfl|go_num,by first|rfl|go_num,by first|rfl|go_num,by omega,by omega,by omega,by rw [show s.size+1-(i+1)=s.size-i by omega];exact e⟩)
      · obtain rfl:i=s.size:=by omega
        have hfi:(0:Int)≤(f:Int)∧(f:Int)≤(s.size:Nat)∧((s.size:Nat):Int)≤(s.size:Int):=by omega
        have hLs:(s.extract f s.size).size=s.size-f:=by rw [ByteArray.size_extract];omega
        obtain ⟨L,hL⟩:∃ L,s.extract f s.size=L:=⟨_,rfl⟩
        have hLe:=hI hL
        rw [hL] at hLs
        have hbl:=get_bt L
        have hcz:((L.size:Int)-1).toNat=L.size-1:=by omega
        have hLL:L.size≤1000:=by omega
        clear hLs
        by_cases l1:L.size<1
        · have l1':(L.size:Int)<1:=by omega
          have e1:labB L=false:=decide_eq_false (fun h=>by omega)
          have e:R=false:=by rw [←hR.out,domGo,if_neg (fun h=>absurd h.1 (by omega)),hLe.out,e1];rfl
          have He:=hI e
          clear e e1
          go_wp2
          go_ret
          exact ⟨by rw [He.out];rfl,rfl⟩
        · have l1':0<L.size:=by omega
          by_cases l2:20<L.size
          · have l2':(20:Int)<L.size:=by omega
            have e1:labB L=false:=decide_eq_false (fun h=>by omega)
            have e:R=false:=by rw [←hR.out,domGo,if_neg (fun h=>absurd h.1 (by omega)),hLe.out,e1];rfl
            have He:=hI e
            clear e e1
            go_wp2
            go_ret
            exact ⟨by rw [He.out];rfl,rfl⟩
          · have l2':¬(20:Int)<L.size:=by omega
            by_cases l3:bt L 0=45
            · have l3':(bt L 0 == 45)=true:=by simpa using l3
              have e1:labB L=false:=decide_eq_false (fun h=>by omega)
              have e:R=false:=by rw [←hR.out,domGo,if_neg (fun h=>absurd h.1 (by omega)),hLe.out,e1];rfl
              have He:=hI e
              clear e e1
              go_wp2
              go_ret
              exact ⟨by rw [He.out];rfl,rfl⟩
            · have l3':(bt L 0 == 45)=false:=by simpa using l3
              by_cases l4:bt L (L.size-1)=45
              · have l4':(bt L (L.size-1) == 45)=true:=by simpa using l4
                have e1:labB L=false:=decide_eq_false (fun h=>by omega)
                have e:R=false:=by rw [←hR.out,domGo,if_neg (fun h=>absurd h.1 (by omega)),hLe.out,e1];rfl
                have He:=hI e
                clear e e1
                go_wp2
                go_ret
                exact ⟨by rw [He.out];rfl,rfl⟩
              · have l4':(bt L (L.size-1) == 45)=false:=by simpa using l4
                have e1:labB L=true:=decide_eq_true ⟨by omega,by omega,l3,l4⟩
                have Hn:Hid (domGo s (s.size-s.size) (s.size+1) (s.size+1) (n+1)=R):=by
                  have:=hR.out
                  rw [domGo,if_neg (fun h=>absurd h.1 (by omega)),hLe.out,e1] at this
                  exact this
                clear l3 l4 e1 l1 l2
                go_wp2
                go_round
                case measure=>first|omega|(simp [intOf];done)|(simp [intOf];omega)
                case rel=>exact ⟨s.size+1,s.size+1,n+1,by first|rfl|go_num,by first|rfl|go_num,by first|rfl|go_num,by omega,by omega,by omega,by rw [show s.size+1-(s.size+1)=s.size-s.size by omega];first|done|exact Hn⟩
    · obtain rfl:i=s.size+1:=by omega
      have e:R=decide (2≤n):=by rw [←hR.out,Nat.sub_self];rfl
      have He:=hI e
      clear e hR
      go_wp2
      go_ret
      refine ⟨?_,rfl⟩
      rw [He.out]
      simp
      omega
def atTo (s:ByteArray):Nat→Int
 | 0=>-1
 | k+1=>if bt s k=64 then (k:Int) else atTo s k
theorem atTo_lt (s:ByteArray):∀ k,-1≤atTo s k∧atTo s k<k∨(k=0∧atTo s k = -1)
 | 0=>.inr ⟨rfl,rfl⟩
 | k+1=>by
  unfold atTo
  split
  ·left;omega
  ·rcases atTo_lt s k with h|h <;> (left;omega)
def mailB (s:ByteArray):Bool:=decide (0≤atTo s s.size∧s.size≤64∧locB (s.extract 0 (atTo s s.size).toNat)=true∧domB (s.extract ((atTo s s.size).toNat+1) s.size)=true)
def partsB (s:ByteArray):ByteArray×ByteArray×Bool:=if mailB s=true then (s.extract 0 (atTo s s.size).toNat,s.extract ((atTo s s.size).toNat+1) s.size,true) else (⟨#[]⟩,⟨#[]⟩,false)
end
end Go.Proofs.YtjfpfeapbcjioaaGreat
