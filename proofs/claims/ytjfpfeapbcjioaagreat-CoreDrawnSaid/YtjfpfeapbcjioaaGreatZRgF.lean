/-
  The texts of this claim, put together: RgF.
-/
import Derived.Test.YtjfpfeapbcjioaaGreatRows
import Derived.LoopTactic
import Derived.Deep.QuietTactic
import Derived.BigQuiet
import Derived.Sort.Walk7a
import Derived.Test.YtjfpfeapbcjioaaGreatZOmB
import Derived.Test.YtjfpfeapbcjioaaGreatZBlk
import Derived.Test.YtjfpfeapbcjioaaGreatZStr
set_option linter.unusedSimpArgs false
set_option linter.unusedVariables false
set_option maxHeartbeats 12800000
set_option maxRecDepth 100000
namespace Go.Proofs.YtjfpfeapbcjioaaGreat
section
open Go.RowKit
def fnv1 (h:Nat) (b:UInt8):Nat:=((h ^^^ b.toNat)*1099511628211) % 18446744073709551616
def fnvL (l:List UInt8):Nat:=l.foldl fnv1 14695981039346656037
theorem fnv1_lt (h:Nat) (b:UInt8):fnv1 h b<18446744073709551616:=Nat.mod_lt _ (by omega)
theorem fnvL_lt (l:List UInt8):fnvL l<18446744073709551616:=by
 unfold fnvL;have:∀ (l:List UInt8) (h:Nat),h<18446744073709551616→l.foldl fnv1 h<18446744073709551616:=by
  intro l
  induction l with
  | nil=>intro h hh;exact hh
  | cons b l ih=>intro h hh;exact ih _ (fnv1_lt h b)
 exact this l _ (by omega)
theorem fnv_step (H:Nat) (b:UInt8) (hH:H<18446744073709551616) :
  IntKind.u64.wrap (bits BinOp.xor IntKind.u64 (H:Int) (IntKind.u64.wrap (b.toNat:Int))*1099511628211)=(fnv1 H b:Nat):=by
 have hb:=b.toNat_lt;rw [IntKind.wrap_u64 (b.toNat:Int),show ((b.toNat:Int) % 18446744073709551616)=((b.toNat:Nat):Int) from by omega,bits_xor_u64_nat _ _ hH (by omega),IntKind.wrap_u64]
 unfold fnv1;generalize H ^^^ b.toNat=Y;omega
theorem fnv_nil (s:ByteArray):Value.int .u64 14695981039346656037 = .int .u64 (fnvL ((kb s).take 0):Nat):=by
 rw [List.take_zero];unfold fnvL;rw [List.foldl_nil]
 congr 1
def shd (m:Nat) (k:ByteArray):Nat:=fnvL (kb k) % m
theorem shd_lt {m:Nat} (hm:0<m) (k:ByteArray):shd m k<m:=Nat.mod_lt _ hm
theorem fnv_path (s:ByteArray):∃ G:Nat→Nat,Hid (Value.int .u64 14695981039346656037 = .int .u64 (G 0:Nat))∧Hid (∀ (k:Nat) (h:k<s.size),IntKind.u64.wrap (bits BinOp.xor IntKind.u64 (G k:Int) (IntKind.u64.wrap (s[k].toNat:Int))*1099511628211)=(G (k+1):Nat))∧Hid (G s.size=fnvL (kb s)) :=
 ⟨fun k=>fnvL ((kb s).take k),fnv_nil s,fun k hlt=>by
  show _=((fnvL ((kb s).take (k+1)):Nat):Int)
  have hnx:fnvL ((kb s).take (k+1))=fnv1 (fnvL ((kb s).take k)) s[k]:=by
   have hb:(kb s)[k]? = some s[k]:=by
    rw [List.getElem?_eq_getElem (by simpa [kb] using hlt)]
    rfl
   unfold fnvL;rw [List.take_add_one,hb,Option.toList_some,List.foldl_append,List.foldl_cons,List.foldl_nil]
  rw [hnx];exact fnv_step _ _ (fnvL_lt _),by
  show fnvL ((kb s).take s.size)=_
  rw [List.take_of_length_le (by simp [kb])]⟩
theorem f_sum (s:ByteArray) (w:World) (hs:s.size≤1000000) :
  Calls Tryz.prog 200 #[.string s] w fun e w'=>e = .returned (.int .u64 (fnvL (kb s):Nat))∧w=w':=by
 obtain ⟨G,h0,h1,h2⟩:=fnv_path s;rw [←h2.out];clear h2;go_enter Tryz.func200,Tryz.ntmps200;go_wp2
 go_loopw [3,7] (fun h i wr=>∃ k:Nat,i = .int .i64 k∧k≤s.size∧h = .int .u64 (G k:Nat)∧w=wr) (fun _ i _=>s.size-(intOf i).toNat)
 case atStart=>exact ⟨0,rfl,Nat.zero_le _,h0.out,rfl⟩
 case round =>
  obtain ⟨k,rfl,hk,rfl,rfl⟩:=hrel
  by_cases hlt:k<s.size
  ·have hki:(k:Int)<(s.size:Int):=by omega
   go_wp2_with fail
   go_wp2
   go_roundw
   case measure=>simp [intOf];omega
   case rel=>exact ⟨k+1,by first|rfl|go_num,by omega,by rw [←h1.out k hlt],by first|rfl|trivial⟩
  ·obtain rfl:k=s.size:=by omega
   go_wp2;go_ret;exact ⟨rfl,rfl⟩
theorem f_shard (s:ByteArray) (m:Nat) (w:World) (hs:s.size≤1000000) (hm:0<m) (hm2:m≤1000) :
  Calls Tryz.prog 165 #[.string s,.int .i64 m] w fun e w'=>e = .returned (.int .i64 (shd m s:Nat))∧w'=w:=by
 have C:=hI (fun w=>f_sum s w hs);have hX:=fnvL_lt (kb s);have hr:wrap64 (((fnvL (kb s):Nat):Int) % (m:Int))=((shd m s:Nat):Int):=by
  have h1:=shd_lt hm s;have h2:(((fnvL (kb s):Nat):Int) % (m:Int))=((shd m s:Nat):Int):=(Int.natCast_emod _ _).symm;rw [h2];unfold wrap64;omega
 have hw:IntKind.u64.wrap (m:Int)=(m:Int):=by rw [IntKind.wrap_u64];omega
 have hm':¬(m:Int)<1:=by omega
 have hm0:¬(m:Int)=0:=by omega
 have Hr:=hI hr;obtain ⟨X,hXX⟩:∃ X,fnvL (kb s)=X:=⟨_,rfl⟩;rw [hXX] at C Hr hX;clear hr;go_enter Tryz.func165,Tryz.ntmps165;go_wp2_with fail;refine (C.out _).mono ?_;rintro e w' ⟨rfl,rfl⟩;go_wp2;go_ret;exact ⟨by simp [Hr.out],rfl⟩
end
end Go.Proofs.YtjfpfeapbcjioaaGreat
