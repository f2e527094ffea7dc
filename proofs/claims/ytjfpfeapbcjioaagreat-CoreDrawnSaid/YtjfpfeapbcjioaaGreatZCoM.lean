/-
  The texts of this claim, put together: CoM, CoS, CoB, CoC, CoW, CoN, CoK, CoKP, CoKG, CoD, CoKD, CoQ, CoA, CoT, CoF.
-/
import Derived.LoopTactic
import Derived.Deep.QuietTactic
import Derived.BigQuiet
import Derived.Test.YtjfpfeapbcjioaaGreatZCr
import Derived.Test.YtjfpfeapbcjioaaGreatZRi
import Derived.Test.YtjfpfeapbcjioaaGreatZBm
import Derived.Test.YtjfpfeapbcjioaaGreatZRg
import Derived.Test.YtjfpfeapbcjioaaGreatZRgS
import Derived.Test.YtjfpfeapbcjioaaGreatZRwD
import Derived.Test.YtjfpfeapbcjioaaGreatZBlk
set_option linter.unusedSimpArgs false
set_option linter.unusedVariables false
set_option maxHeartbeats 12800000
set_option maxRecDepth 100000
namespace Go.Proofs.YtjfpfeapbcjioaaGreat
section
open Go.RowKit
def lkC (g:Nat) (k:Lk):Ch:=⟨fun w F=>Lp w F g k,Lp.imp,Lp.kept⟩
def rgC (m g:Nat) (es:Es):Ch:=⟨fun w F=>Rg m w F g es,Rg.imp,Rg.kept⟩
def mbC (g:Nat) (es:List (En Nat)):Ch:=⟨fun w F=>Mpb w F g es,Mp.imp,Mp.kept⟩
structure PA where
 gp:Nat
 gc:Nat
 gl:Nat
abbrev plB (a:PA) (p:Pl):Ch:=blkC a.gp 113 #[.string p.tenant,.string p.name,pV a.gc,pV a.gl,.bool p.alive,.int .i64 p.drawn]
def plL (a:PA) (p:Pl):List Ch:=[plB a p,clC a.gc p.col,lkC a.gl p.lock]
def plC (a:PA) (p:Pl):Ch:=starC (plL a p)
def bdL (gb:Nat) (bl:List (En Nat)) (f:ByteArray→Bg):List Ch:=mbC gb bl::bl.map (fun e=>bgC e.2 (f e.1))
def BdM (N:Nat) (q:Qt) (w:World) (F:Nat→Prop) (gb:Nat) (f:ByteArray→Bg):Prop:=∃ bl,bl.length≤N∧(∀ t,has bl (kb t)=false→f t=⟨q,0,0⟩)∧Star w F (bdL gb bl f)
def bdC (N:Nat) (q:Qt) (gb:Nat) (f:ByteArray→Bg):Ch:=⟨fun w F=>BdM N q w F gb f,fun ⟨bl,h1,h2,h⟩ hF=>⟨bl,h1,h2,h.imp hF⟩,fun ⟨bl,h1,h2,h⟩ hk hd=>⟨bl,h1,h2,h.kept hk hd⟩⟩
structure CA where
 A:Option Addr
 c:Nat
 ps:List PA
 gr:Nat
 gb:Nat
 gh:Nat
 gk:Nat
abbrev coB (g:Nat) (a:CA) (x:Co) (n:Nat):Ch:=blkC g 105 #[.int .i64 x.cf.conns,.int .i64 x.cf.start,.int .i64 x.cf.room,.int .i64 x.cf.shards,.int .i64 x.cf.quota.cols,.int .i64 x.cf.quota.cards,.int .i64 x.cf.quota.bytes,.int .i64 x.cf.quota.log,.int .i64 x.counter,.slice a.A n a.c,pV a.gr,pV a.gb,pV a.gh,pV a.gk]
def coL (N g:Nat) (a:CA) (x:Co) (n:Nat):List Ch:=[coB g a x n,rgC (mS x.cf.shards) a.gr x.es,bdC N x.cf.quota a.gb x.bg,hbC a.gh x.wts,ckC a.gk x.now x.als,ownC 108 1 (.slice a.A n a.c) n (a.ps.map (fun p=>pV p.gp)),zwC plC a.ps x.pls]
def CoM (N:Nat) (w:World) (F:Nat→Prop) (g:Nat) (x:Co):Prop:=∃ a:CA,a.ps.length=x.pls.length∧Star w F (coL N g a x x.pls.length)
def coC (N g:Nat) (x:Co):Ch:=⟨fun w F=>CoM N w F g x,fun ⟨a,h1,h⟩ hF=>⟨a,h1,h.imp hF⟩,fun ⟨a,h1,h⟩ hk hd=>⟨a,h1,h.kept hk hd⟩⟩
def atV (a:CA) (id:Int):Value:=.pointer ((if 0≤id then a.ps[id.toNat]? else none).map (fun p=>(⟨p.gp,0,none⟩:Addr)))
theorem co_at (w w₀:World) (F:Nat→Prop) (N g:Nat) (a:CA) (x:Co) (n:Nat) (id:Int) (hr:Run w₀ F w (coL N g a x n)) (hl:a.ps.length=n) :
  Calls Tryz.prog 58 #[pV g,.int .i64 id] w fun e w'=>e = .returned (atV a id)∧w'=w:=by
 have hc:=(hr.blk 0 rfl).cell;have ho:=hr.own 5 rfl;unfold atV
 by_cases h0:0≤id
 ·obtain ⟨k,rfl⟩:=Int.eq_ofNat_of_zero_le h0
  rw [if_pos h0,show ((k:Nat):Int).toNat=k from rfl]
  by_cases hk:k<n
  ·obtain ⟨p,hp⟩:∃ p,a.ps[k]? = some p:=⟨_,List.getElem?_eq_getElem (by omega)⟩
   rw [hp];have hki:(k:Int)<(n:Int):=by omega
   obtain ⟨gr,hA⟩:=ho.head (by omega)
   rw [hA] at hc ho;have hcp:=sl_one1 ho.sl (i:=k) (x:=pV p.gp) (by rw [List.getElem?_map,hp];rfl)
   rw [Nat.zero_add] at hcp;clear hr ho hp hA h0;go_enter Tryz.func58,Tryz.ntmps58;go_wp2;go_ret;exact ⟨rfl,rfl⟩
  ·rw [List.getElem?_eq_none (by omega)]
   have hki:((n:Int)≤(k:Int))=True:=by simp;omega
   clear hr ho h0 hk;go_enter Tryz.func58,Tryz.ntmps58;go_wp2;go_ret;exact ⟨rfl,rfl⟩
 ·rw [if_neg h0]
  have hki:(id<0)=True:=by simp;omega
  clear hr ho h0;go_enter Tryz.func58,Tryz.ntmps58;go_wp2;go_ret;exact ⟨rfl,rfl⟩
section
variable {w w₀:World} {F:Nat→Prop} {N g n k:Nat} {a:CA} {x:Co} {id:Int} {p:Pl} {q:PA} {f:Nat} {args:Array Value} {r:Value}
theorem at_none (hl:a.ps.length=x.pls.length) (h:x.at id=none):atV a id = .pointer none:=by
 unfold Co.at at h;unfold atV
 split at h
 ·rename_i h0
  rw [if_pos h0,List.getElem?_eq_none (by rw [hl];exact List.getElem?_eq_none_iff.1 h)];rfl
 ·rename_i h0;rw [if_neg h0];rfl
theorem at_some (hl:a.ps.length=x.pls.length) (h:x.at id=some p):∃ (k:Nat) (q:PA),id=(k:Nat)∧x.pls[k]? = some p∧a.ps[k]? = some q∧atV a id=pV q.gp:=by
 unfold Co.at at h
 split at h
 ·rename_i h0
  obtain ⟨k,rfl⟩:=Int.eq_ofNat_of_zero_le h0;rw [show ((k:Nat):Int).toNat=k from rfl] at h;have hk:=(List.getElem?_eq_some_iff.1 h).1;obtain ⟨q,hq⟩:∃ q,a.ps[k]? = some q:=⟨_,List.getElem?_eq_getElem (by omega)⟩
  refine ⟨k,q,rfl,h,hq,?_⟩;unfold atV;rw [if_pos h0,show ((k:Nat):Int).toNat=k from rfl,hq];rfl
 ·cases h
theorem pl_get (hr:Run w₀ F w (coL N g a x n)) (hq:a.ps[k]? = some q) (hp:x.pls[k]? = some p):Star w (fun b=>F b∨w₀.heap.size≤b) (plL q p):=zw_get (C:=plC) (hr.get (P:=zwC plC a.ps x.pls) 6 rfl) hq hp
theorem pl_blk (hr:Run w₀ F w (coL N g a x n)) (hq:a.ps[k]? = some q) (hp:x.pls[k]? = some p):Blk w q.gp 113 #[.string p.tenant,.string p.name,pV q.gc,pV q.gl,.bool p.alive,.int .i64 p.drawn]:=(Star.get (P:=plB q p) (pl_get hr hq hp) 0 rfl).2
theorem pl_turn (hr:Run w₀ F w (coL N g a x n)) (hq:a.ps[k]? = some q) (hp:x.pls[k]? = some p) (p':Pl) (hc:∀ G,(∀ b,G b→b<w.heap.size)→Star w G (plL q p)→Turn f args w G r (plC q p')) :
  Calls Tryz.prog f args w fun e w'=>e = .returned r∧Run w₀ F w' (coL N g a { x with pls:=x.pls.set k p' } n) :=
 hr.turn1 6 rfl (Q:=zwC plC a.ps (x.pls.set k p')) (fun G hG h=>zw_turn (C:=plC) h hG hq hp p' hc)
theorem pl_turnX {α:Type} {r:α→Value} (hr:Run w₀ F w (coL N g a x n)) (hq:a.ps[k]? = some q) (hp:x.pls[k]? = some p) (p':Pl) (hc:∀ G,(∀ b,G b→b<w.heap.size)→Star w G (plL q p)→TurnX f args w G r (fun _=>plC q p')) :
  Calls Tryz.prog f args w fun e w'=>∃ y,e = .returned (r y)∧Run w₀ F w' (coL N g a { x with pls:=x.pls.set k p' } n) :=
 hr.turnX 6 rfl (r:=r) (Q:=fun _=>zwC plC a.ps (x.pls.set k p')) (fun G hG h=>by
  have:=Star.turnX (show Star w G (List.zipWith plC a.ps x.pls) from h) k hG (zw_at hq hp) hc;rw [zw_set p' hq] at this;exact this)
theorem co_fin (hl:a.ps.length=x.pls.length) (hr:Run w F w₀ (coL N g a x x.pls.length)):(coC N g x).p w₀ (fun b=>F b∨w.heap.size≤b)∧Kept F w w₀:=⟨⟨a,hl,hr.star⟩,hr.kept⟩
end
theorem set_len {x:Co} {k:Nat} {p:Pl}:(x.pls.set k p).length=x.pls.length:=List.length_set
theorem co_alive (w:World) (F:Nat→Prop) (N g:Nat) (x:Co) (id:Int) (h:CoM N w F g x) :
  Calls Tryz.prog 23 #[pV g,.int .i64 id] w fun e w'=>e = .returned (.bool (x.alive id))∧w'=w:=by
 obtain ⟨a,hl,hs⟩:=h;have hr:=Run.start hs;have CA:=hI (co_at w w F N g a x x.pls.length id hr hl);have Hr:=hI hr;have Hl:=hI hl;unfold Co.alive;cases hx:x.at id with
 | none =>
  rw [at_none hl hx] at CA;clear hr hs hl hx;go_enter Tryz.func23,Tryz.ntmps23;go_wp2_with fail;refine (CA.out).mono ?_;rintro e w1 ⟨rfl,e1⟩;obtain rfl:=e1.symm;go_wp2;go_ret;exact ⟨rfl,rfl⟩
 | some p =>
  obtain ⟨k,q,rfl,hp,hq,hv⟩:=at_some hl hx;rw [hv] at CA;have hc:=(pl_blk hr hq hp).cell;clear hr hs hl hx hp hq hv;go_enter Tryz.func23,Tryz.ntmps23;go_wp2_with fail;refine (CA.out).mono ?_;rintro e w1 ⟨rfl,e1⟩;obtain rfl:=e1.symm;go_wp2;go_ret;exact ⟨rfl,rfl⟩
theorem co_held (w:World) (F:Nat→Prop) (N g:Nat) (x:Co) (id who:Int) (h:CoM N w F g x) (hz:∀ p∈x.pls,p.lock.size≤100000) :
  Reads 22 #[pV g,.int .i64 id,.int .i64 who] w (.int .i64 (x.held id who)):=by
 obtain ⟨a,hl,hs⟩:=h;have hr:=Run.start hs;have CA:=hI (co_at w w F N g a x x.pls.length id hr hl);have Hr:=hI hr;have Hl:=hI hl;unfold Co.held Reads;cases hx:x.at id with
 | none =>
  rw [at_none hl hx] at CA;clear hr hs hl hx;go_enter Tryz.func22,Tryz.ntmps22;go_wp2_with fail;refine (CA.out).mono ?_;rintro e w1 ⟨rfl,e1⟩;obtain rfl:=e1.symm;go_wp2;go_ret;exact ⟨rfl,Kept.refl _ _⟩
 | some p =>
  obtain ⟨k,q,rfl,hp,hq,hv⟩:=at_some hl hx;rw [hv] at CA;have hc:=(pl_blk hr hq hp).cell;have CS:=hI (lk_state w _ q.gl p.lock who (Star.get (P:=lkC q.gl p.lock) (pl_get hr hq hp) 2 rfl) (hz p (List.mem_of_getElem? hp)));clear hr hs hl hx hp hq hv;go_enter Tryz.func22,Tryz.ntmps22;go_wp2_with fail;refine (CA.out).mono ?_;rintro e w1 ⟨rfl,e1⟩;obtain rfl:=e1.symm;go_wp2_with fail;refine (CS.out).mono ?_
  rintro e w2 ⟨rfl,hk2⟩;go_wp2;go_ret;exact ⟨rfl,hk2⟩
theorem co_lock (w:World) (F:Nat→Prop) (N g:Nat) (x:Co) (id who:Int) (b:Bool) (h:CoM N w F g x) (hz:∀ p∈x.pls,p.lock.size≤99999) :
  Turn 21 #[pV g,.int .i64 id,.int .i64 who,.bool b] w F (.bool (x.lock id who b).1) (coC N g (x.lock id who b).2):=by
 obtain ⟨a,hl,hs⟩:=h;have hr:=Run.start hs;have CA:=hI (co_at w w F N g a x x.pls.length id hr hl);have Hr:=hI hr;have Hl:=hI hl;unfold Co.lock Turn;cases hx:x.at id with
 | none =>
  rw [at_none hl hx] at CA;clear hr hs hl hx;go_enter Tryz.func21,Tryz.ntmps21;go_wp2_with fail;refine (CA.out).mono ?_;rintro e w1 ⟨rfl,e1⟩;obtain rfl:=e1.symm;go_wp2;go_ret;exact ⟨rfl,co_fin Hl.out Hr.out⟩
 | some p =>
  obtain ⟨k,q,rfl,hp,hq,hv⟩:=at_some hl hx;rw [hv] at CA;have hc:=(pl_blk hr hq hp).cell;have CS:=hI (pl_turn hr hq hp { p with lock:=(p.lock.ask who b).2 } (r:=.bool (p.lock.ask who b).1) (fun G hG hst=>Star.turn1 hst 2 hG rfl (fun G2 hG2 h2=>lk_ask w G2 q.gl p.lock who b h2 (hz p (List.mem_of_getElem? hp)))));unfold Co.setP;clear hr hs hl hx hp hq hv;go_enter Tryz.func21,Tryz.ntmps21;go_wp2_with fail
  refine (CA.out).mono ?_;rintro e w1 ⟨rfl,e1⟩;obtain rfl:=e1.symm;go_wp2_with fail;refine (CS.out).mono ?_;rintro e w2 ⟨rfl,hr2⟩;have Hr2:=hI hr2;clear hr2;go_wp2;go_ret;exact ⟨rfl,co_fin (Hl.out.trans set_len.symm) (by rw [set_len];exact Hr2.out)⟩
theorem co_unlock (w:World) (F:Nat→Prop) (N g:Nat) (x:Co) (id who:Int) (wk:Bool) (h:CoM N w F g x) (hz:∀ p∈x.pls,p.lock.size≤100000) (hw:x.wts.length≤100000) :
  Turn 31 #[pV g,.int .i64 id,.int .i64 who,.bool wk] w F (.tuple #[]) (coC N g (x.unlock id who wk)):=by
 obtain ⟨a,hl,hs⟩:=h;have hr:=Run.start hs;have CA:=hI (co_at w w F N g a x x.pls.length id hr hl);have Hr:=hI hr;have Hl:=hI hl;unfold Co.unlock Co.leave Turn;cases hx:x.at id with
 | none =>
  rw [at_none hl hx] at CA;have hc0:=(hr.blk 0 rfl).cell;clear hr hs hl hx;go_enter Tryz.func31,Tryz.ntmps31;go_wp2_with fail;refine (CA.out).mono ?_;rintro e w1 ⟨rfl,e1⟩;obtain rfl:=e1.symm;have Hr3:=Hr;clear Hr;cases wk with
  | false =>
   have Hr4:=Hr3;go_wp2
   go_end0
   exact ⟨rfl,co_fin Hl.out Hr4.out⟩
  | true =>
   have CW:=hI (Hr3.out.turnX 3 rfl (α:=Value) (r:=fun v=>v) (Q:=fun _=>hbC a.gh (wakeW x.wts id)) (fun G hG hp=>(hb_wake _ G a.gh x.wts id hp hw).mono fun e w' ⟨v,h1,h2,h3⟩=>⟨v,h1,h2,h3⟩));go_wp2_with fail;refine (CW.out).mono ?_;rintro e w4 ⟨v4,rfl,hr4⟩;have Hr4:=hI hr4;clear hr4;go_wp2
   go_end0
   exact ⟨rfl,co_fin (x:={ x with wts:=wakeW x.wts id }) Hl.out Hr4.out⟩
 | some p =>
  obtain ⟨k,q,rfl,hp,hq,hv⟩:=at_some hl hx;rw [hv] at CA;have hc:=(pl_blk hr hq hp).cell;have CS:=hI (pl_turnX hr hq hp { p with lock:=(p.lock.leave who).2 } (α:=Value) (r:=fun v=>v) (fun G hG hst=>Star.turnX hst 2 hG rfl (Q:=fun _=>lkC q.gl (p.lock.leave who).2) (fun G2 hG2 h2=>(lk_leave w G2 q.gl p.lock who h2 (hz p (List.mem_of_getElem? hp))).mono fun e w' ⟨A,n,c,h1,_,h3,h4⟩=>⟨.slice A n c,h1,h3,h4⟩)))
  unfold Co.setP;clear hr hs hl hx hp hq hv;go_enter Tryz.func31,Tryz.ntmps31;go_wp2_with fail;refine (CA.out).mono ?_;rintro e w1 ⟨rfl,e1⟩;obtain rfl:=e1.symm;go_wp2_with fail;refine (CS.out).mono ?_;rintro e w2 ⟨v2,rfl,hr2⟩;have Hr3:=hI hr2;have hc0:=(hr2.blk 0 rfl).cell;clear hr2 hc;cases wk with
  | false =>
   have Hr4:=Hr3;go_wp2
   go_end0
   exact ⟨rfl,co_fin (Hl.out.trans set_len.symm) (by rw [set_len];exact Hr4.out)⟩
  | true =>
   have CW:=hI (Hr3.out.turnX 3 rfl (α:=Value) (r:=fun v=>v) (Q:=fun _=>hbC a.gh (wakeW x.wts (k:Int))) (fun G hG hp=>(hb_wake _ G a.gh x.wts (k:Int) hp hw).mono fun e w' ⟨v,h1,h2,h3⟩=>⟨v,h1,h2,h3⟩));go_wp2_with fail;refine (CW.out).mono ?_;rintro e w4 ⟨v4,rfl,hr4⟩;have Hr4:=hI hr4;clear hr4;go_wp2
   go_end0
   exact ⟨rfl,co_fin (x:={ { x with pls:=x.pls.set k { p with lock:=(p.lock.leave who).2 } } with wts:=wakeW x.wts (k:Int) }) (Hl.out.trans set_len.symm) (by rw [set_len];exact Hr4.out)⟩
end
section
open Go.RowKit
theorem co_counter (w:World) (F:Nat→Prop) (N g:Nat) (x:Co) (h:CoM N w F g x) :
  Calls Tryz.prog 15 #[pV g] w fun e w'=>e = .returned (.int .i64 x.counter)∧w'=w:=by
 obtain ⟨a,hl,hs⟩:=h;have hr:=Run.start hs;have hc0:=(hr.blk 0 rfl).cell;have Hr:=hI hr;have Hl:=hI hl;clear hr hs hl;go_enter Tryz.func15,Tryz.ntmps15;go_wp2;go_ret;exact ⟨rfl,rfl⟩
theorem keyB_yes {t n:ByteArray} (h:(nameB t&&nameB n)=true):keyB t n=t++(⟨#[47]⟩:ByteArray)++n∧(keyB t n).size≤33∧¬(keyB t n).toList=[]:=by
 unfold keyB;rw [if_pos h];simp only [Bool.and_eq_true] at h;have h1:=nameB_size h.1;have h2:=nameB_size h.2;have hz:(t++(⟨#[47]⟩:ByteArray)++n).size=t.size+1+n.size:=by rw [ByteArray.size_append,ByteArray.size_append];rfl
 refine ⟨rfl,by omega,fun he=>?_⟩
 have:=congrArg List.length he;rw [Go.Lib.toList_data] at this;simp at this
theorem co_find (w : World) (F : Nat → Prop) (N g : Nat) (x : Co) (t n : ByteArray) (h : CoM N w F g x) (ht : t.size ≤ 1000000) (hn : n.size ≤ 1000000) :
    Reads 13 #[pV g, .string t, .string n] w (.int .i64 (x.find t n)) := by
  obtain ⟨a, hl, hs⟩ := h
  have hr := Run.start hs
  have hc0 := (hr.blk 0 rfl).cell
  have Hr := hI hr
  have Hl := hI hl
  have CK := fun (w : World) => key_any t n w (by unfold maxLen; omega) (by unfold maxLen; omega)
  unfold Co.find Reads
  cases hb : nameB t && nameB n with
  | false =>
    have hk : keyB t n = "".toUTF8 := by unfold keyB; rw [hb]; rfl
    rw [hk] at CK
    rw [if_neg (by simp)]
    have CK := hI CK
    clear hr hs hl hk hb
    go_enter Tryz.func13, Tryz.ntmps13
    go_wp2_with fail
    refine (CK.out _).mono ?_
    rintro e w2 ⟨rfl, e2⟩
    obtain rfl := e2.symm
    go_wp2
    go_ret
    exact ⟨rfl, Kept.refl _ _⟩
  | true =>
    obtain ⟨_, hk1, hk2⟩ := keyB_yes hb
    obtain ⟨key, hkey⟩ : ∃ k, keyB t n = k := ⟨_, rfl⟩
    rw [hkey] at CK hk1 hk2 ⊢
    rw [if_pos rfl]
    have CF := hI (rg_find w _ (mS x.cf.shards) a.gr x.es key (hr.get (P := rgC (mS x.cf.shards) a.gr x.es) 1 rfl) (by omega))
    have hke : (key.toList == []) = false := by simpa using hk2
    have hke2 : key.toList.isEmpty = false := by simpa using hk2
    have CK := hI CK
    clear hr hs hl hkey hk2
    go_enter Tryz.func13, Tryz.ntmps13
    go_wp2_with fail
    refine (CK.out _).mono ?_
    rintro e w2 ⟨rfl, e2⟩
    obtain rfl := e2.symm
    go_wp2_with fail
    refine (CF.out).mono ?_
    rintro e w3 ⟨rfl, hk3⟩
    go_wp2
    go_ret
    exact ⟨rfl, hk3⟩
end
section
open Go.RowKit
theorem Star.mapX {α:Type} {w:World} {P:Ch} {Q:α→Ch}:∀ {Ps:List Ch} {i:Nat} {G:Nat→Prop},Star w G Ps→Ps[i]? = some P→(∀ G,P.p w G→∃ x,(Q x).p w G)→∃ x,Star w G (Ps.set i (Q x))
 | [],i,G,h,hi,hc=>by simp at hi
 | P0::Ps,0,G,h,hi,hc=>by
  obtain ⟨H,h1,h2,h3⟩:=h;simp at hi;subst hi;obtain ⟨x,hx⟩:=hc _ h2;exact ⟨x,H,h1,hx,h3⟩
 | P0::Ps,i+1,G,h,hi,hc=>by
  obtain ⟨H,h1,h2,h3⟩:=h;obtain ⟨x,hx⟩:=Star.mapX h3 (by simpa using hi) hc
  exact ⟨x,H,h1,h2,hx⟩
theorem Star.join {w:World} {P:Ch} {L:List Ch}:∀ {Ps:List Ch} {i:Nat} {F:Nat→Prop},Star w F (P::Ps)→Ps[i]? = some (starC L)→Star w F (Ps.set i (starC (P::L)))
 | [],i,F,h,hi=>by simp at hi
 | Q::Ps,0,F,h,hi=>by
  simp at hi;subst hi;have h1:=h.swap.flat;have h2:Star w F ((P::L)++Ps):=Star.perm (by simp [List.perm_middle]) h1
  exact h2.unflat
 | Q::Ps,i+1,F,h,hi=>by
  obtain ⟨G,h1,h2,h3⟩:=h.swap;exact ⟨G,h1,h2,Star.join h3 (by simpa using hi)⟩
section
variable {w w₀:World} {F:Nat→Prop} {Ps:List Ch}
theorem Run.mapX {α:Type} {P:Ch} {Q:α→Ch} (h:Run w₀ F w Ps) (i:Nat) (hi:Ps[i]? = some P) (hc:∀ G,P.p w G→∃ x,(Q x).p w G):∃ x,Run w₀ F w (Ps.set i (Q x)):=by
 obtain ⟨x,hx⟩:=Star.mapX h.star hi hc;exact ⟨x,hx,h.kept⟩
theorem Run.join {P:Ch} {L:List Ch} (h:Run w₀ F w (P::Ps)) (i:Nat) (hi:Ps[i]? = some (starC L)):Run w₀ F w (Ps.set i (starC (P::L))):=⟨h.star.join hi,h.kept⟩
end
def coO (g:Nat) (a:CA) (bl:List (En Nat)) (x:Co) (n:Nat):List Ch:=[coB g a x n,rgC (mS x.cf.shards) a.gr x.es,starC (bdL a.gb bl x.bg),hbC a.gh x.wts,ckC a.gk x.now x.als,ownC 108 1 (.slice a.A n a.c) n (a.ps.map (fun p=>pV p.gp)),zwC plC a.ps x.pls]
structure BlOk (N:Nat) (q:Qt) (bl:List (En Nat)) (f:ByteArray→Bg):Prop where
 ri:Rises bl
 ln:bl.length≤N
 no:∀ t,has bl (kb t)=false→f t=⟨q,0,0⟩
theorem bd_rises {w:World} {F:Nat→Prop} {gb:Nat} {bl:List (En Nat)} {f:ByteArray→Bg} (h:Star w F (bdL gb bl f)):Rises bl:=(show Mpb w F gb bl from Star.get (P:=mbC gb bl) h 0 rfl).2.1
section
variable {w w₀:World} {F:Nat→Prop} {N g n:Nat} {a:CA} {x:Co} {bl:List (En Nat)}
theorem co_open (h:Run w₀ F w (coL N g a x n)):∃ bl,BlOk N x.cf.quota bl x.bg∧Run w₀ F w (coO g a bl x n):=by
 obtain ⟨⟨bl,hb⟩,h1⟩:=h.mapX 2 rfl (Q:=fun y:{ bl:List (En Nat) // BlOk N x.cf.quota bl x.bg }=>starC (bdL a.gb y.1 x.bg)) (fun G ⟨bl,h1,h2,h3⟩=>⟨⟨bl,bd_rises h3,h1,h2⟩,h3⟩);exact ⟨bl,hb,h1⟩
theorem co_shut (hb:BlOk N x.cf.quota bl x.bg) (h:Run w₀ F w (coO g a bl x n)):Run w₀ F w (coL N g a x n) :=
 h.map 2 rfl (Q:=bdC N x.cf.quota a.gb x.bg) (fun G h=>⟨bl,hb.ln,hb.no,h⟩)
end
theorem bd_at {gb k gk:Nat} {t:ByteArray} {bl:List (En Nat)} {f:ByteArray→Bg} (h:bl[k]? = some (t,gk)):(bdL gb bl f)[k+1]? = some (bgC gk (f t)):=by
 unfold bdL;rw [List.getElem?_cons_succ,List.getElem?_map,h];rfl
theorem bd_set {gb k gk:Nat} {t:ByteArray} {bl:List (En Nat)} {f:ByteArray→Bg} (hr:Rises bl) (h:bl[k]? = some (t,gk)) (b:Bg):(bdL gb bl f).set (k+1) (bgC gk b)=bdL gb bl (updB f t b):=by
 unfold bdL;rw [List.set_cons_succ]
 congr 1
 refine List.ext_getElem? fun i=>?_;have hk:=(List.getElem?_eq_some_iff.1 h).1;rw [List.getElem?_set,List.getElem?_map,List.length_map]
 by_cases hik:k=i
 ·subst hik
  rw [if_pos rfl,if_pos hk,List.getElem?_map,h];simp [updB]
 ·rw [if_neg hik,List.getElem?_map]
  cases hi:bl[i]? with
  | none=>rfl
  | some e =>
   simp only [Option.map_some,Option.some.injEq];have hne:¬e.1=t:=fun he=>by
    rcases Nat.lt_or_gt_of_ne hik with h1|h1
    ·exact lt_irr _ (he ▸ hr.get h1 h hi)
    ·exact lt_irr _ (he ▸ hr.get h1 hi h)
   simp [updB,hne]
theorem BlOk.upd {N:Nat} {q:Qt} {bl:List (En Nat)} {f:ByteArray→Bg} {k gk:Nat} {t:ByteArray} (h:BlOk N q bl f) (hk:bl[k]? = some (t,gk)) (b:Bg):BlOk N q bl (updB f t b):=by
 refine ⟨h.ri,h.ln,fun u hu=>?_⟩;unfold updB
 split
 ·rename_i he
  subst he;have:=(has_iff h.ri (kb u)).2 ⟨_,List.mem_of_getElem? hk,rfl⟩;rw [this] at hu;cases hu
 ·exact h.no u hu
theorem bd_turn {w w₀:World} {F:Nat→Prop} {g n k gk:Nat} {a:CA} {x:Co} {bl:List (En Nat)} {t:ByteArray} {f:Nat} {args:Array Value} {r:Value} {b:Bg} (hr:Run w₀ F w (coO g a bl x n)) (hri:Rises bl) (hk:bl[k]? = some (t,gk))
  (hc:∀ G,(∀ b,G b→b<w.heap.size)→(bgC gk (x.bg t)).p w G→Turn f args w G r (bgC gk b)) :
  Calls Tryz.prog f args w fun e w'=>e = .returned r∧Run w₀ F w' (coO g a bl { x with bg:=updB x.bg t b } n) :=
 hr.turn1 2 rfl (Q:=starC (bdL a.gb bl (updB x.bg t b))) (fun G hG h=>by
  have:=Star.turn1 (show Star w G (bdL a.gb bl x.bg) from h) (k+1) hG (bd_at hk) hc;rw [bd_set hri hk] at this;exact this)
theorem bd_get {w w₀:World} {F:Nat→Prop} {g n k gk:Nat} {a:CA} {x:Co} {bl:List (En Nat)} {t:ByteArray} (hr:Run w₀ F w (coO g a bl x n)) (hk:bl[k]? = some (t,gk)):(bgC gk (x.bg t)).p w (fun b=>F b∨w₀.heap.size≤b) :=
 Star.get (show Star w _ (bdL a.gb bl x.bg) from hr.get (P:=starC (bdL a.gb bl x.bg)) 2 rfl) (k+1) (bd_at hk)
def BudP (N g n:Nat) (a:CA) (x:Co) (t:ByteArray) (w₀:World) (F:Nat→Prop) (e:Ending) (w':World):Prop :=
 ∃ (bl:List (En Nat)) (k gk:Nat),e = .returned (pV gk)∧bl[k]? = some (t,gk)∧BlOk N x.cf.quota bl x.bg∧Run w₀ F w' (coO g a bl x n)
theorem val_ix {α:Type} {es:List (En α)} {t:ByteArray} {v:α} (h:valAt es (kb t)=some v):∃ k:Nat,es[k]? = some (t,v):=by
 obtain ⟨k,hk,he⟩:=List.getElem_of_mem (val_mem' h);exact ⟨k,by rw [List.getElem?_eq_getElem hk,he]⟩
theorem co_budget (w w₀:World) (F:Nat→Prop) (N g n:Nat) (a:CA) (x:Co) (t:ByteArray) (hr:Run w₀ F w (coL N g a x n)) (hq:x.cf.quota.Ok) (hN:N≤90000) :
  Calls Tryz.prog 72 #[pV g,.string t] w (BudP (N+1) g n a x t w₀ F):=by
 obtain ⟨bl,hb,hr⟩:=co_open hr;have hc:=(hr.blk 0 rfl).cell;have hm:Mpb w (fun b=>F b∨w₀.heap.size≤b) a.gb bl:=Star.get (P:=mbC a.gb bl) (show Star w _ (bdL a.gb bl x.bg) from hr.get (P:=starC (bdL a.gb bl x.bg)) 2 rfl) 0 rfl;have C:=b_get w _ a.gb bl t hm;have Hr:=hI hr;have Hb:=hI hb;cases hv:valAt bl (kb t) with
 | some v =>
  rw [hv] at C;simp only at C;have C:=hI C;obtain ⟨k,hk⟩:=val_ix hv;have Hk:=hI hk;clear hr hb hm hv hk;go_enter Tryz.func72,Tryz.ntmps72;go_wp2_with fail;refine (C.out).mono ?_;rintro e w1 ⟨rfl,hk1⟩;have Hr1:=hI (Hr.out.pure hk1);go_wp2;go_ret;exact ⟨bl,k,v,rfl,Hk.out,⟨Hb.out.ri,Nat.le_succ_of_le Hb.out.ln,Hb.out.no⟩,Hr1.out⟩
 | none =>
  rw [hv] at C;simp only at C;have C:=hI C;have hno:has bl (kb t)=false:=by rw [has_val,hv];rfl
  have Hno:=hI hno;have CN:=(fun w=>qu_new x.cf.quota hq w);unfold Qt.val at CN;have CN:=hI CN;clear hr hb hm hv hno;go_enter Tryz.func72,Tryz.ntmps72;go_wp2_with fail;refine (C.out).mono ?_;rintro e w1 ⟨rfl,hk1⟩;have hr1:=Hr.out.pure hk1;have hc1:=(hr1.blk 0 rfl).cell;have Hr1:=hI hr1;clear hr1 hc;go_wp2_with fail;refine (CN.out _).mono ?_;rintro e w2 ⟨gq,rfl,hz2,hb2,hk2⟩;have hr2:Run w₀ F w2 (bgC gq ⟨x.cf.quota,0,0⟩::coO g a bl x n):=Hr1.out.add hk2 ⟨hz2,hb2⟩
  have CP:=hr2.turn1 3 rfl (Q:=starC ((bdL a.gb bl x.bg).set 0 (mbC a.gb (putE bl t gq)))) (fun G hG h=>Star.turn1 (show Star w2 G (bdL a.gb bl x.bg) from h) 0 hG rfl (fun G2 hG2 h2=>b_put w2 G2 a.gb bl t gq h2 (by have:=Hb.out.ln;omega) hG2))
  have CP:=hI CP;have hc2:=(hr2.blk 1 rfl).cell;clear hr2 hz2 hb2 hk2 hc1;go_wp2_with fail;refine (CP.out).mono ?_;rintro e w3 ⟨rfl,hr3⟩;have hr3:Run w₀ F w3 (bgC gq ⟨x.cf.quota,0,0⟩::[coB g a x n,rgC (mS x.cf.shards) a.gr x.es,starC (mbC a.gb (putE bl t gq)::bl.map (fun e=>bgC e.2 (x.bg e.1))),hbC a.gh x.wts,ckC a.gk x.now x.als,ownC 108 1 (.slice a.A n a.c) n (a.ps.map (fun p=>pV p.gp)),zwC plC a.ps x.pls]):=hr3
  have hr4:=hr3.join 2 rfl;have hbt:=Hb.out.no t Hno.out;have hr5:Run w₀ F w3 (coO g a (putE bl t gq) x n):=hr4.map 2 rfl (Q:=starC (bdL a.gb (putE bl t gq) x.bg)) (fun G h=>Star.perm (by
   rw [←hbt];have hp:=(put_perm gq Hno.out).map (fun e=>bgC e.2 (x.bg e.1));exact (List.Perm.swap _ _ _).trans (List.Perm.cons _ hp.symm)) h)
  have Hr5:=hI hr5;clear hr3 hr4 hr5 hbt;go_wp2;go_ret;have hri:=rises_put Hb.out.ri t gq;obtain ⟨k,hk⟩:=val_ix ((val_iff hri t gq).2 ((put_perm gq Hno.out).mem_iff.2 List.mem_cons_self));refine ⟨putE bl t gq,k,gq,rfl,hk,⟨hri,by have:=putE_le bl t gq;have:=Hb.out.ln;omega,fun u hu=>Hb.out.no u ?_⟩,Hr5.out⟩
  cases hh:has bl (kb u) with
  | false=>rfl
  | true =>
   obtain ⟨e,he,hek⟩:=(has_iff Hb.out.ri (kb u)).1 hh;rw [(has_iff hri (kb u)).2 ⟨e,(put_perm gq Hno.out).mem_iff.2 (List.mem_cons_of_mem _ he),hek⟩] at hu;cases hu
theorem co_draw0 (w w₀:World) (F:Nat→Prop) (g n:Nat) (a:CA) (x:Co) (Ps:List Ch) (hr:Run w₀ F w (coB g a x n::Ps)) (h:x.counter=maxTok) :
  Calls Tryz.prog 74 #[pV g] w fun e w'=>e = .returned (.tuple #[.int .i64 0,.bool false])∧w'=w:=by
 have hc:=(hr.blk 0 rfl).cell 8;replace hc:w.cell? ⟨g,8,none⟩=some (.int .i64 x.counter):=hc;have hne:(x.counter == 9223372036854775807)=true:=by rw [h];rfl
 generalize x.counter=ct at *;clear hr h;go_enter Tryz.func74,Tryz.ntmps74;go_wp2
 go_ret2
 exact ⟨rfl,rfl⟩
theorem co_draw1 (w w₀:World) (F:Nat→Prop) (g n:Nat) (a:CA) (x:Co) (Ps:List Ch) (hr:Run w₀ F w (coB g a x n::Ps)) (h:x.counter≠maxTok) (hct:0≤x.counter∧x.counter≤maxTok) :
  Calls Tryz.prog 74 #[pV g] w fun e w'=>e = .returned (.tuple #[.int .i64 (x.counter+1),.bool true])∧Run w₀ F w' (coB g a { x with counter:=x.counter+1 } n::Ps):=by
 have hr2:Run w₀ F (w.setCell ⟨g,8,none⟩ (.int .i64 (x.counter+1))) (coB g a { x with counter:=x.counter+1 } n::Ps):=hr.set 0 rfl 8 _;have Hr2:=hI hr2;have hc:=(hr.blk 0 rfl).cell 8;have hf:=(hr.blk 0 rfl).frozen 8;replace hc:w.cell? ⟨g,8,none⟩=some (.int .i64 x.counter):=hc;have hne:(x.counter == 9223372036854775807)=false:=by simpa [maxTok] using h
 unfold maxTok at hct h;have hwr:IntKind.i64.wrap (x.counter+1)=x.counter+1:=by rw [IntKind.wrap_i64];omega
 have hcc:=(hr2.blk 0 rfl).cell 8;replace hcc:(w.setCell ⟨g,8,none⟩ (.int .i64 (x.counter+1))).cell? ⟨g,8,none⟩=some (.int .i64 (x.counter+1)):=hcc;clear hr hr2 h hct;go_enter Tryz.func74,Tryz.ntmps74;go_wp2
 go_ret2
 exact ⟨rfl,Hr2.out⟩
end
section
open Go.RowKit
theorem Run.inner {w w₀:World} {F:Nat→Prop} {Ps L:List Ch} (h:Run w₀ F w Ps) (i:Nat) (hi:Ps[i]? = some (starC L)):∃ G,(∀ b,G b→b<w.heap.size)∧Run w G w L∧∀ w' L',Run w G w' L'→Run w₀ F w' (Ps.set i (starC L')):=by
 obtain ⟨G,hG,hp,hup⟩:=h.atL i hi;exact ⟨G,fun b h=>(hG b h).2,Run.start hp,fun w' L' hr'=>hup w' (starC L') hr'.star hr'.kept⟩
theorem coL_mono {w w₀:World} {F:Nat→Prop} {N M g n:Nat} {a:CA} {x:Co} (hNM:N≤M) (h:Run w₀ F w (coL N g a x n)):Run w₀ F w (coL M g a x n) :=
 h.map 2 rfl (Q:=bdC M x.cf.quota a.gb x.bg) (fun G ⟨bl,h1,h2,h3⟩=>⟨bl,Nat.le_trans h1 hNM,h2,h3⟩)
theorem lk_new (w:World):Calls Tryz.prog 78 #[] w fun e w'=>e = .returned (.pointer (some ⟨w.heap.size,0,none⟩))∧Lp w' (fun b=>w.heap.size≤b) w.heap.size Lk.none∧Pure w w':=by
 have hB:=Blk.new w 197 #[.slice none 0 0,.int .i64 0,.bool false,.slice none 0 0];have HB:=hI hB;clear hB;go_enter Tryz.func78,Tryz.ntmps78;go_wp2;go_ret;exact ⟨rfl,⟨Nat.le_refl _,none,0,none,0,HB.out,Own.nil _ _ _ _,Own.nil _ _ _ _⟩,(Kept.refl _ _).alloc _⟩
abbrev rspA (kind err token version:Int) (card:ByteArray) (index:Int) (more:Bool) (A:Option Addr) (n c:Nat):Array Value:=#[.int .i64 kind,.int .i64 err,.int .i64 token,.int .i64 version,.string card,.int .i64 index,.bool more,.slice A n c]
abbrev rspB (g:Nat) (kind err token:Int):Ch:=blkC g 45 #[.int .i64 kind,.int .i64 err,.int .i64 token,.int .i64 0,.string ⟨#[]⟩,.int .i64 0,.bool false,.slice none 0 0]
theorem cr_close {w w9:World} {F:Nat→Prop} {N M g:Nat} {a:CA} {x:Co} {P Q:Ch} (hl:a.ps.length=x.pls.length) (hNM:N≤M) (h:Run w F w9 [P,Q,starC (coL N g a x x.pls.length)]):(coC M g x).p w9 (fun b=>F b∨w.heap.size≤b)∧Kept F w w9:=by
 have h1:Run w F w9 (coL N g a x x.pls.length++[]):=Run.flat (Qs:=coL N g a x x.pls.length) (Ps:=[]) ((h.drop 0).drop 0);rw [List.append_nil] at h1;exact co_fin hl (coL_mono hNM h1)
theorem cr_closeO {w w9:World} {F:Nat→Prop} {N M g:Nat} {a:CA} {x:Co} {bl:List (En Nat)} {P Q:Ch} (hl:a.ps.length=x.pls.length) (hNM:N≤M) (hb:BlOk N x.cf.quota bl x.bg) (h:Run w F w9 [P,Q,starC (coO g a bl x x.pls.length)]):(coC M g x).p w9 (fun b=>F b∨w.heap.size≤b)∧Kept F w w9:=by
 have h1:Run w F w9 (coO g a bl x x.pls.length++[]):=Run.flat (Qs:=coO g a bl x x.pls.length) (Ps:=[]) ((h.drop 0).drop 0);rw [List.append_nil] at h1;exact co_fin hl (coL_mono hNM (co_shut hb h1))
theorem cr_flat {w w9:World} {F:Nat→Prop} {P Q:Ch} {L:List Ch} (h:Run w F w9 [P,Q,starC L]):Run w F w9 (L++[P,Q]):=Run.flat (Qs:=L) (h.perm (List.perm_append_comm (l₁:=[P,Q]) (l₂:=[starC L])))
theorem info_pl:(Tryz.prog.info? 108).map (fun i=>(i.zero,i.size,i.bytes))=some (some (.pointer none),1,8):=by kernel_rfl
theorem co_create (w : World) (F : Nat → Prop) (N g : Nat) (x : Co) (t n : ByteArray) (h : CoM N w F g x) (hok : x.Ok) (hN : N ≤ 80000) (ht : t.size ≤ 1000) (hn : n.size ≤ 1000) :
    Turn 24 #[pV g, .string t, .string n] w F (.agg (rspA 2 (x.create t n).1 (x.create t n).2.1 0 ⟨#[]⟩ 0 false none 0 0)) (coC (N + 2) g (x.create t n).2.2) := by
  obtain ⟨a, hl, hs⟩ := h
  have CK := fun (w : World) => key_any t n w (by unfold maxLen; omega) (by unfold maxLen; omega)
  have hr0 : Run w F ((w.alloc (.cells #[.int .i64 0, .int .i64 0, .int .i64 0, .int .i64 0, .string ⟨#[]⟩, .int .i64 0, .bool false, .slice none 0 0] 45)).alloc (.cells #[.int .i64 0, .int .i64 0, .int .i64 0, .int .i64 0, .string ⟨#[]⟩, .int .i64 0, .bool false, .slice none 0 0] 45)) [rspB (w.heap.size + 1) 0 0 0, rspB w.heap.size 0 0 0, starC (coL N g a x x.pls.length)] := by
    have h1 : Run w F w [starC (coL N g a x x.pls.length)] := Run.of (P := starC (coL N g a x x.pls.length)) hs
    have h2 := (h1.addBlk #[.int .i64 0, .int .i64 0, .int .i64 0, .int .i64 0, .string ⟨#[]⟩, .int .i64 0, .bool false, .slice none 0 0] 45).addBlk #[.int .i64 0, .int .i64 0, .int .i64 0, .int .i64 0, .string ⟨#[]⟩, .int .i64 0, .bool false, .slice none 0 0] 45
    rw [World.size_alloc] at h2
    exact h2
  have Hr0 := hI hr0
  have Hl := hI hl
  unfold Turn Co.create
  obtain ⟨M, hM⟩ : ∃ M, x.mayNew t n = M := ⟨_, rfl⟩
  have hM0 := hM
  unfold Co.mayNew at hM0
  rw [hM]
  by_cases h1 : (nameB t && nameB n) = true
  · rw [if_neg (by simpa using h1)] at hM0
    obtain ⟨_, hk1, hk2⟩ := keyB_yes h1
    obtain ⟨key, hkey⟩ : ∃ k, keyB t n = k := ⟨_, rfl⟩
    rw [hkey] at CK hk1 hk2 hM0
    obtain ⟨fd, hfd⟩ : ∃ f, fdE x.es key = f := ⟨_, rfl⟩
    rw [hfd] at hM0
    have hke : (key.toList == []) = false := by simpa using hk2
    have hke2 : key.toList.isEmpty = false := by simpa using hk2
    have CK := hI CK
    by_cases h2 : 0 ≤ fd
    · rw [if_pos h2] at hM0
      subst hM0
      rw [if_pos (by decide)]
      have h2' : (0 ≤ fd) = True := by simpa using h2
      clear hr0 hl hs h1 hM hkey hk2 h2
      go_enter Tryz.func24, Tryz.ntmps24
      go_wp2_with (with_reducible refine stop_store (ty := 45) ?_)
      refine unheld ?_
      refine wp_store_blk rfl _ _ _ rfl rfl rfl (Hr0.out.blk 0 rfl) rfl (by kernel_rfl) (by kernel_rfl) rfl ?_
      intro w1 hb1 hk1
      have hr1 := Hr0.out.turn 0 rfl hb1 hk1
      have Hr1 : Hid (Run w F w1 [rspB (w.heap.size + 1) 2 0 0, rspB w.heap.size 0 0 0, starC (coL N g a x x.pls.length)]) := hI hr1
      clear hr1 hb1 hk1
      go_wp2_with fail
      refine (CK.out _).mono ?_
      rintro e w2 ⟨rfl, e2⟩
      obtain rfl := e2.symm
      have hin1 := Hr1.out.get (P := starC (coL N g a x x.pls.length)) 2 rfl
      have hin : Run w2 (fun b => F b ∨ w.heap.size ≤ b) w2 (coL N g a x x.pls.length) := Run.start hin1
      have hc := (hin.blk 0 rfl).cell
      have CF := (rg_find w2 _ (mS x.cf.shards) a.gr x.es key (hin.get (P := rgC (mS x.cf.shards) a.gr x.es) 1 rfl) (by omega))
      rw [hfd] at CF
      have CF := hI CF
      clear hin1 hin
      go_wp2_with fail
      refine (CF.out).mono ?_
      rintro e w3 ⟨rfl, hk3⟩
      have Hr3 := hI (Hr1.out.pure hk3)
      clear hk3 hc
      have Hr8 := Hr3
      have hc7 := (Hr8.out.blk 0 rfl).cell
      have hf7 := (Hr8.out.blk 0 rfl).frozen
      have hr9 := Hr8.out.set 0 rfl 1 (.int .i64 5)
      have Hr9 : Hid (Run w F _ [rspB (w.heap.size + 1) 2 5 0, rspB w.heap.size 0 0 0, starC (coL N g a x x.pls.length)]) := hI hr9
      clear hr9
      go_wp2_with (with_reducible refine stop_store (ty := 45) ?_)
      refine unheld ?_
      refine wp_store_blk rfl _ _ _ rfl rfl rfl (Hr9.out.blk 1 rfl) rfl (by kernel_rfl) (by kernel_rfl) rfl ?_
      intro w9 hb9 hk9
      have hr10 := Hr9.out.turn 1 rfl hb9 hk9
      have Hb9 := hI hb9
      have Hr10 : Hid (Run w F w9 [rspB (w.heap.size + 1) 2 5 0, rspB w.heap.size 2 5 0, starC (coL N g a x x.pls.length)]) := hI hr10
      clear hb9 hk9 hr10 hc7 hf7
      repeat go_step
      refine bodyPost_ret (results_cell Tryz.results24 rfl Hb9.out Tryz.underlying45 rfl (by kernel_rfl)) rfl ?_
      exact ⟨rfl, cr_close Hl.out (by omega) Hr10.out⟩
    · rw [if_neg h2] at hM0
      have h2' : (0 ≤ fd) = False := by simpa using h2
      by_cases h3 : x.cf.quota.cols ≤ (x.bg t).cols
      · rw [if_pos h3] at hM0
        subst hM0
        rw [if_pos (by decide)]
        have h3' : (x.cf.quota.cols ≤ (x.bg t).cols) = True := by simpa using h3
        clear hr0 hl hs h1 hM hkey hk2 h2 h3
        go_enter Tryz.func24, Tryz.ntmps24
        go_wp2_with (with_reducible refine stop_store (ty := 45) ?_)
        refine unheld ?_
        refine wp_store_blk rfl _ _ _ rfl rfl rfl (Hr0.out.blk 0 rfl) rfl (by kernel_rfl) (by kernel_rfl) rfl ?_
        intro w1 hb1 hk1
        have hr1 := Hr0.out.turn 0 rfl hb1 hk1
        have Hr1 : Hid (Run w F w1 [rspB (w.heap.size + 1) 2 0 0, rspB w.heap.size 0 0 0, starC (coL N g a x x.pls.length)]) := hI hr1
        clear hr1 hb1 hk1
        go_wp2_with fail
        refine (CK.out _).mono ?_
        rintro e w2 ⟨rfl, e2⟩
        obtain rfl := e2.symm
        have hin1 := Hr1.out.get (P := starC (coL N g a x x.pls.length)) 2 rfl
        have hin : Run w2 (fun b => F b ∨ w.heap.size ≤ b) w2 (coL N g a x x.pls.length) := Run.start hin1
        have hc := (hin.blk 0 rfl).cell
        have CF := (rg_find w2 _ (mS x.cf.shards) a.gr x.es key (hin.get (P := rgC (mS x.cf.shards) a.gr x.es) 1 rfl) (by omega))
        rw [hfd] at CF
        have CF := hI CF
        clear hin1 hin
        go_wp2_with fail
        refine (CF.out).mono ?_
        rintro e w3 ⟨rfl, hk3⟩
        have Hr3 := hI (Hr1.out.pure hk3)
        clear hk3 hc
        have hin1 := Hr3.out.get (P := starC (coL N g a x x.pls.length)) 2 rfl
        have hc4 := ((Run.start (show Star w3 _ (coL N g a x x.pls.length) from hin1)).blk 0 rfl).cell 4
        replace hc4 : w3.cell? ⟨g, 4, none⟩ = some (.int .i64 x.cf.quota.cols) := hc4
        obtain ⟨G3, hG3, hin3, hup3⟩ := Hr3.out.drew.inner 2 rfl
        have CB := hI (co_budget w3.drew w3.drew G3 N g x.pls.length a x t hin3 (cf_quota hok.cf) (by omega))
        have Hup3 := hI hup3
        clear hin1 hin3 hup3 hG3
        go_wp2
        refine wp_region_seqS (fun y => y.cell? ⟨g, 4, none⟩ = some (.int .i64 x.cf.quota.cols)) [2, 3] [4, 5, 6, 7, 8, 9] (by kernel_rfl) (by kernel_rfl) (by kernel_rfl) hc4 ?_
        clear hc4
        repeat (with_reducible refine seq_step (by decide) (by decide) (fun K hK => ?_); go_simp; refine hK _ _ ?_; clear hK K)
        with_reducible refine seq_move (by decide) (fun K hK => ?_)
        go_simp
        refine up_enter ((CB.out).mono ?_)
        rintro e w4 ⟨bl, k, gk, rfl, hk, hbl, hr4⟩
        have hcc4 := (hr4.blk 0 rfl).cell 4
        replace hcc4 : w4.cell? ⟨g, 4, none⟩ = some (.int .i64 x.cf.quota.cols) := hcc4
        have CC := hI (qu_cols w4 _ gk (x.bg t) (bd_get hr4 hk))
        have Hr4 := hI (Hup3.out w4 _ hr4)
        have Hk := hI hk
        have Hbl := hI hbl
        refine ⟨_, rfl, hcc4, hK _ _ ?_⟩
        clear hK K hr4 hk hbl Hup3 CB
        with_reducible refine seq_move (by decide) (fun K hK => ?_)
        go_simp
        refine up_enter ((CC.out).mono ?_)
        rintro e w5 ⟨rfl, e5⟩
        obtain rfl := e5.symm
        refine ⟨_, rfl, hcc4, hK _ _ ?_⟩
        clear hK K CC
        repeat (with_reducible refine seq_free (by decide) (by decide) (fun K hK => ?_); go_simp; first | (refine ex_steadyF ?_ (fun w' hw' => ?_) ?_; rotate_left; (skip; go_simp; first | done | rfl); (refine hK _ _ ?_; clear hK K)) | (refine hK _ _ ?_; clear hK K))
        repeat (with_reducible refine seq_step (by decide) (by decide) (fun K hK => ?_); go_simp; refine hK _ _ ?_; clear hK K)
        with_reducible refine seq_nil ?_
        have Hr8 := Hr4
        have hc7 := (Hr8.out.blk 0 rfl).cell
        have hf7 := (Hr8.out.blk 0 rfl).frozen
        have hr9 := Hr8.out.set 0 rfl 1 (.int .i64 7)
        have Hr9 : Hid (Run w F _ [rspB (w.heap.size + 1) 2 7 0, rspB w.heap.size 0 0 0, starC (coO g a bl x x.pls.length)]) := hI hr9
        clear hr9
        go_wp2_with (with_reducible refine stop_store (ty := 45) ?_)
        refine unheld ?_
        refine wp_store_blk rfl _ _ _ rfl rfl rfl (Hr9.out.blk 1 rfl) rfl (by kernel_rfl) (by kernel_rfl) rfl ?_
        intro w9 hb9 hk9
        have hr10 := Hr9.out.turn 1 rfl hb9 hk9
        have Hb9 := hI hb9
        have Hr10 : Hid (Run w F w9 [rspB (w.heap.size + 1) 2 7 0, rspB w.heap.size 2 7 0, starC (coO g a bl x x.pls.length)]) := hI hr10
        clear hb9 hk9 hr10 hc7 hf7
        repeat go_step
        refine bodyPost_ret (results_cell Tryz.results24 rfl Hb9.out Tryz.underlying45 rfl (by kernel_rfl)) rfl ?_
        exact ⟨rfl, cr_closeO Hl.out (by omega) Hbl.out Hr10.out⟩
      · rw [if_neg h3] at hM0
        have h3' : (x.cf.quota.cols ≤ (x.bg t).cols) = False := by simpa using h3
        by_cases h4 : x.counter = maxTok
        · rw [if_pos h4] at hM0
          subst hM0
          rw [if_pos (by decide)]
          have H4 := hI h4
          clear hr0 hl hs h1 hM hkey hk2 h2 h3 h4
          go_enter Tryz.func24, Tryz.ntmps24
          go_wp2_with (with_reducible refine stop_store (ty := 45) ?_)
          refine unheld ?_
          refine wp_store_blk rfl _ _ _ rfl rfl rfl (Hr0.out.blk 0 rfl) rfl (by kernel_rfl) (by kernel_rfl) rfl ?_
          intro w1 hb1 hk1
          have hr1 := Hr0.out.turn 0 rfl hb1 hk1
          have Hr1 : Hid (Run w F w1 [rspB (w.heap.size + 1) 2 0 0, rspB w.heap.size 0 0 0, starC (coL N g a x x.pls.length)]) := hI hr1
          clear hr1 hb1 hk1
          go_wp2_with fail
          refine (CK.out _).mono ?_
          rintro e w2 ⟨rfl, e2⟩
          obtain rfl := e2.symm
          have hin1 := Hr1.out.get (P := starC (coL N g a x x.pls.length)) 2 rfl
          have hin : Run w2 (fun b => F b ∨ w.heap.size ≤ b) w2 (coL N g a x x.pls.length) := Run.start hin1
          have hc := (hin.blk 0 rfl).cell
          have CF := (rg_find w2 _ (mS x.cf.shards) a.gr x.es key (hin.get (P := rgC (mS x.cf.shards) a.gr x.es) 1 rfl) (by omega))
          rw [hfd] at CF
          have CF := hI CF
          clear hin1 hin
          go_wp2_with fail
          refine (CF.out).mono ?_
          rintro e w3 ⟨rfl, hk3⟩
          have Hr3 := hI (Hr1.out.pure hk3)
          clear hk3 hc
          have hin1 := Hr3.out.get (P := starC (coL N g a x x.pls.length)) 2 rfl
          have hc4 := ((Run.start (show Star w3 _ (coL N g a x x.pls.length) from hin1)).blk 0 rfl).cell 4
          replace hc4 : w3.cell? ⟨g, 4, none⟩ = some (.int .i64 x.cf.quota.cols) := hc4
          obtain ⟨G3, hG3, hin3, hup3⟩ := Hr3.out.drew.inner 2 rfl
          have CB := hI (co_budget w3.drew w3.drew G3 N g x.pls.length a x t hin3 (cf_quota hok.cf) (by omega))
          have Hup3 := hI hup3
          clear hin1 hin3 hup3 hG3
          go_wp2
          refine wp_region_seqS (fun y => y.cell? ⟨g, 4, none⟩ = some (.int .i64 x.cf.quota.cols)) [2, 3] [4, 5, 6, 7, 8, 9] (by kernel_rfl) (by kernel_rfl) (by kernel_rfl) hc4 ?_
          clear hc4
          repeat (with_reducible refine seq_step (by decide) (by decide) (fun K hK => ?_); go_simp; refine hK _ _ ?_; clear hK K)
          with_reducible refine seq_move (by decide) (fun K hK => ?_)
          go_simp
          refine up_enter ((CB.out).mono ?_)
          rintro e w4 ⟨bl, k, gk, rfl, hk, hbl, hr4⟩
          have hcc4 := (hr4.blk 0 rfl).cell 4
          replace hcc4 : w4.cell? ⟨g, 4, none⟩ = some (.int .i64 x.cf.quota.cols) := hcc4
          have CC := hI (qu_cols w4 _ gk (x.bg t) (bd_get hr4 hk))
          have Hr4 := hI (Hup3.out w4 _ hr4)
          have Hk := hI hk
          have Hbl := hI hbl
          refine ⟨_, rfl, hcc4, hK _ _ ?_⟩
          clear hK K hr4 hk hbl Hup3 CB
          with_reducible refine seq_move (by decide) (fun K hK => ?_)
          go_simp
          refine up_enter ((CC.out).mono ?_)
          rintro e w5 ⟨rfl, e5⟩
          obtain rfl := e5.symm
          refine ⟨_, rfl, hcc4, hK _ _ ?_⟩
          clear hK K CC
          repeat (with_reducible refine seq_free (by decide) (by decide) (fun K hK => ?_); go_simp; first | (refine ex_steadyF ?_ (fun w' hw' => ?_) ?_; rotate_left; (skip; go_simp; first | done | rfl); (refine hK _ _ ?_; clear hK K)) | (refine hK _ _ ?_; clear hK K))
          repeat (with_reducible refine seq_step (by decide) (by decide) (fun K hK => ?_); go_simp; refine hK _ _ ?_; clear hK K)
          with_reducible refine seq_nil ?_
          have hc7a := (Hr4.out.blk 0 rfl).cell
          obtain ⟨G6, _, hin6, _⟩ := Hr4.out.inner 2 rfl
          have CD := hI (co_draw0 _ _ G6 g x.pls.length a x _ hin6 H4.out)
          clear hin6
          go_wp2_with fail
          refine (CD.out).mono ?_
          rintro e w6 ⟨rfl, e6⟩
          obtain rfl := e6.symm
          clear hc7a
          have Hr8 := Hr4
          have hc7 := (Hr8.out.blk 0 rfl).cell
          have hf7 := (Hr8.out.blk 0 rfl).frozen
          have hr9 := Hr8.out.set 0 rfl 1 (.int .i64 9)
          have Hr9 : Hid (Run w F _ [rspB (w.heap.size + 1) 2 9 0, rspB w.heap.size 0 0 0, starC (coO g a bl x x.pls.length)]) := hI hr9
          clear hr9
          go_wp2_with (with_reducible refine stop_store (ty := 45) ?_)
          refine unheld ?_
          refine wp_store_blk rfl _ _ _ rfl rfl rfl (Hr9.out.blk 1 rfl) rfl (by kernel_rfl) (by kernel_rfl) rfl ?_
          intro w9 hb9 hk9
          have hr10 := Hr9.out.turn 1 rfl hb9 hk9
          have Hb9 := hI hb9
          have Hr10 : Hid (Run w F w9 [rspB (w.heap.size + 1) 2 9 0, rspB w.heap.size 2 9 0, starC (coO g a bl x x.pls.length)]) := hI hr10
          clear hb9 hk9 hr10 hc7 hf7
          repeat go_step
          refine bodyPost_ret (results_cell Tryz.results24 rfl Hb9.out Tryz.underlying45 rfl (by kernel_rfl)) rfl ?_
          exact ⟨rfl, cr_closeO Hl.out (by omega) Hbl.out Hr10.out⟩
        · rw [if_neg h4] at hM0
          subst hM0
          rw [if_neg (by decide)]
          have H4 := hI h4
          clear hr0 hl hs h1 hM hk2 h2 h3 h4
          go_enter Tryz.func24, Tryz.ntmps24
          go_wp2_with (with_reducible refine stop_store (ty := 45) ?_)
          refine unheld ?_
          refine wp_store_blk rfl _ _ _ rfl rfl rfl (Hr0.out.blk 0 rfl) rfl (by kernel_rfl) (by kernel_rfl) rfl ?_
          intro w1 hb1 hk1
          have hr1 := Hr0.out.turn 0 rfl hb1 hk1
          have Hr1 : Hid (Run w F w1 [rspB (w.heap.size + 1) 2 0 0, rspB w.heap.size 0 0 0, starC (coL N g a x x.pls.length)]) := hI hr1
          clear hr1 hb1 hk1
          go_wp2_with fail
          refine (CK.out _).mono ?_
          rintro e w2 ⟨rfl, e2⟩
          obtain rfl := e2.symm
          have hin1 := Hr1.out.get (P := starC (coL N g a x x.pls.length)) 2 rfl
          have hin : Run w2 (fun b => F b ∨ w.heap.size ≤ b) w2 (coL N g a x x.pls.length) := Run.start hin1
          have hc := (hin.blk 0 rfl).cell
          have CF := (rg_find w2 _ (mS x.cf.shards) a.gr x.es key (hin.get (P := rgC (mS x.cf.shards) a.gr x.es) 1 rfl) (by omega))
          rw [hfd] at CF
          have CF := hI CF
          clear hin1 hin
          go_wp2_with fail
          refine (CF.out).mono ?_
          rintro e w3 ⟨rfl, hk3⟩
          have Hr3 := hI (Hr1.out.pure hk3)
          clear hk3 hc
          have hin1 := Hr3.out.get (P := starC (coL N g a x x.pls.length)) 2 rfl
          have hc4 := ((Run.start (show Star w3 _ (coL N g a x x.pls.length) from hin1)).blk 0 rfl).cell 4
          replace hc4 : w3.cell? ⟨g, 4, none⟩ = some (.int .i64 x.cf.quota.cols) := hc4
          obtain ⟨G3, hG3, hin3, hup3⟩ := Hr3.out.drew.inner 2 rfl
          have CB := hI (co_budget w3.drew w3.drew G3 N g x.pls.length a x t hin3 (cf_quota hok.cf) (by omega))
          have Hup3 := hI hup3
          clear hin1 hin3 hup3 hG3
          go_wp2
          refine wp_region_seqS (fun y => y.cell? ⟨g, 4, none⟩ = some (.int .i64 x.cf.quota.cols)) [2, 3] [4, 5, 6, 7, 8, 9] (by kernel_rfl) (by kernel_rfl) (by kernel_rfl) hc4 ?_
          clear hc4
          repeat (with_reducible refine seq_step (by decide) (by decide) (fun K hK => ?_); go_simp; refine hK _ _ ?_; clear hK K)
          with_reducible refine seq_move (by decide) (fun K hK => ?_)
          go_simp
          refine up_enter ((CB.out).mono ?_)
          rintro e w4 ⟨bl, k, gk, rfl, hk, hbl, hr4⟩
          have hcc4 := (hr4.blk 0 rfl).cell 4
          replace hcc4 : w4.cell? ⟨g, 4, none⟩ = some (.int .i64 x.cf.quota.cols) := hcc4
          have CC := hI (qu_cols w4 _ gk (x.bg t) (bd_get hr4 hk))
          have Hr4 := hI (Hup3.out w4 _ hr4)
          have Hk := hI hk
          have Hbl := hI hbl
          refine ⟨_, rfl, hcc4, hK _ _ ?_⟩
          clear hK K hr4 hk hbl Hup3 CB
          with_reducible refine seq_move (by decide) (fun K hK => ?_)
          go_simp
          refine up_enter ((CC.out).mono ?_)
          rintro e w5 ⟨rfl, e5⟩
          obtain rfl := e5.symm
          refine ⟨_, rfl, hcc4, hK _ _ ?_⟩
          clear hK K CC
          repeat (with_reducible refine seq_free (by decide) (by decide) (fun K hK => ?_); go_simp; first | (refine ex_steadyF ?_ (fun w' hw' => ?_) ?_; rotate_left; (skip; go_simp; first | done | rfl); (refine hK _ _ ?_; clear hK K)) | (refine hK _ _ ?_; clear hK K))
          repeat (with_reducible refine seq_step (by decide) (by decide) (fun K hK => ?_); go_simp; refine hK _ _ ?_; clear hK K)
          with_reducible refine seq_nil ?_
          have hc7a := (Hr4.out.blk 0 rfl).cell
          obtain ⟨G6, _, hin6, hup6⟩ := Hr4.out.inner 2 rfl
          have CD := hI (co_draw1 _ _ G6 g x.pls.length a x _ hin6 H4.out hok.ct)
          have Hup6 := hI hup6
          clear hin6 hup6
          go_wp2_with fail
          refine (CD.out).mono ?_
          rintro e w6 ⟨rfl, hr6⟩
          have hr7 := Hup6.out w6 (coO g a bl { x with counter := x.counter + 1 } x.pls.length) hr6
          have hr8 : Run w F w6 [rspB (w.heap.size + 1) 2 0 0, rspB w.heap.size 0 0 0, starC (coL (N + 1) g a { x with counter := x.counter + 1 } x.pls.length)] := hr7.map 2 rfl (Q := starC (coL (N + 1) g a { x with counter := x.counter + 1 } x.pls.length)) (fun G h => Star.map (i := 2) (show Star w6 G (coO g a bl { x with counter := x.counter + 1 } x.pls.length) from h) rfl (Q := bdC (N + 1) x.cf.quota a.gb x.bg) (fun G h => ⟨bl, Hbl.out.ln, Hbl.out.no, h⟩))
          obtain ⟨G8, _, hin8, hup8⟩ := hr8.inner 2 rfl
          have CB2 := hI (co_budget w6 w6 G8 (N + 1) g x.pls.length a { x with counter := x.counter + 1 } t hin8 (cf_quota hok.cf) (by omega))
          have Hup8 := hI hup8
          clear hr6 hr7 hr8 hin8 hup8 Hup6
          go_wp2_with fail
          refine (CB2.out).mono ?_
          rintro e w7 ⟨bl2, k2, gk2, rfl, hk2, hbl2, hr9⟩
          have CO := hI (bd_turn hr9 hbl2.ri hk2 (f := 75) (b := (x.bg t).open.2) (fun G hG hp => qu_open _ G gk2 (x.bg t) hp (hok.bd t).1))
          have Hbl2 := hI (hbl2.upd hk2 (x.bg t).open.2)
          clear hr9 hk2 hbl2
          go_wp2_with fail
          refine (CO.out).mono ?_
          rintro e w8 ⟨rfl, hr10⟩
          have hr11 := Hup8.out w8 _ hr10
          obtain ⟨n0, hn0⟩ : ∃ m, x.pls.length = m := ⟨_, rfl⟩
          have hln := hok.ln
          have hr12 : Run w F w8 [coB g a { x with counter := x.counter + 1 } n0, rgC (mS x.cf.shards) a.gr x.es, bdC (N + 2) x.cf.quota a.gb (updB x.bg t (x.bg t).open.2), hbC a.gh x.wts, ckC a.gk x.now x.als, ownC 108 1 (.slice a.A n0 a.c) n0 (a.ps.map (fun p => pV p.gp)), zwC plC a.ps x.pls, rspB (w.heap.size + 1) 2 0 0, rspB w.heap.size 0 0 0] := by
            have h1 := cr_flat (L := coO g a bl2 { x with counter := x.counter + 1, bg := updB x.bg t (x.bg t).open.2 } x.pls.length) hr11
            rw [hn0] at h1
            exact h1.map 2 rfl (Q := bdC (N + 2) x.cf.quota a.gb (updB x.bg t (x.bg t).open.2)) (fun G h => ⟨bl2, Hbl2.out.ln, Hbl2.out.no, h⟩)
          rw [hn0] at hln
          have Hn0 := hI hn0
          have hcx := (hr12.blk 0 rfl).cell
          have CA2 := hI (hr12.drew.turn1 1 rfl (r := .bool (addE x.es key n0).1) (Q := rgC (mS x.cf.shards) a.gr (addE x.es key n0).2) (fun G hG hp => rg_add _ G (mS x.cf.shards) a.gr x.es key n0 hp (by omega) (by omega) hG))
          clear hr10 hr11 hr12 Hup8 hn0 hc7a Hr4 Hr3 Hr1 Hr0
          go_wp2
          refine wp_region_seq [10] [] (by kernel_rfl) (by kernel_rfl) (by kernel_rfl) ?_
          repeat (with_reducible refine seq_step (by decide) (by decide) (fun K hK => ?_); go_simp; refine hK _ _ ?_; clear hK K)
          clear hcx
          with_reducible refine seq_move (by decide) (fun K hK => ?_)
          go_simp
          refine up_enter ((CA2.out).mono ?_)
          rintro e w9 ⟨rfl, hr13⟩
          refine ⟨_, rfl, hK _ _ ?_⟩
          clear hK K CA2
          with_reducible refine seq_nil ?_
          have hr13 : Run w F w9 [coB g a { x with counter := x.counter + 1 } n0, rgC (mS x.cf.shards) a.gr (addE x.es key n0).2, bdC (N + 2) x.cf.quota a.gb (updB x.bg t (x.bg t).open.2), hbC a.gh x.wts, ckC a.gk x.now x.als, ownC 108 1 (.slice a.A n0 a.c) n0 (a.ps.map (fun p => pV p.gp)), zwC plC a.ps x.pls, rspB (w.heap.size + 1) 2 0 0, rspB w.heap.size 0 0 0] := hr13
          have hcx := (hr13.blk 0 rfl).cell
          have Hr13 := hI hr13
          clear hr13
          go_wp2
          refine wp_region_late (fun y => y.cell? ⟨g, 9, none⟩ = some (.slice a.A n0 a.c)) [20, 21, 24, 25, 26, 29] [0, 1, 2, 3, 4, 5, 6, 22] [29] (by kernel_rfl) (by kernel_rfl) (by kernel_rfl) (by kernel_rfl) (hcx 9) ?_
          repeat (with_reducible refine late_free (by decide) (by decide) (fun K hK => ?_); go_simp; first | (refine ex_steadyF ?_ (fun w' hw' => ?_) ?_; rotate_left; (skip; go_simp; first | done | rfl); (refine hK _ _ ?_; clear hK K)) | (refine hK _ _ ?_; clear hK K))
          repeat (with_reducible refine late_step (by decide) (by decide) (fun K hK => ?_); go_simp; refine hK _ _ ?_; clear hK K)
          clear hcx
          have CN := hI (cl_new w9.drew (x.counter + 1) x.cf.quota.cards x.cf.quota.log)
          with_reducible refine late_move (by decide) (fun K hK => ?_)
          go_simp
          refine up_enter ((CN.out).mono ?_)
          rintro e wA ⟨gc, rfl, hcl, hkc⟩
          have hrA := Hr13.out.drew.add (Q := clC gc (Cl.new (x.counter + 1) x.cf.quota.cards x.cf.quota.log)) hkc hcl
          have HrA := hI hrA
          have hsA := (hrA.blk 1 rfl).cell 9
          refine ⟨_, rfl, hsA, hK _ _ ?_⟩
          clear hK K CN hcl hkc hrA hsA
          have CL := hI (lk_new wA)
          with_reducible refine late_move (by decide) (fun K hK => ?_)
          go_simp
          refine up_enter ((CL.out).mono ?_)
          rintro e wB ⟨rfl, hlk, hkl⟩
          have hrB := HrA.out.add (Q := lkC wA.heap.size Lk.none) hkl hlk
          have HrB := hI hrB
          have hsB := (hrB.blk 2 rfl).cell 9
          refine ⟨_, rfl, hsB, hK _ _ ?_⟩
          clear hK K CL hlk hkl hrB hsB
          repeat (with_reducible refine late_free (by decide) (by decide) (fun K hK => ?_); go_simp; first | (refine ex_steadyF ?_ (fun w' hw' => ?_) ?_; rotate_left; (skip; go_simp; first | done | rfl); (refine hK _ _ ?_; clear hK K)) | (refine hK _ _ ?_; clear hK K))
          repeat (with_reducible refine late_step (by decide) (by decide) (fun K hK => ?_); go_simp; refine hK _ _ ?_; clear hK K)
          have hrC := HrB.out.addBlk #[.string t, .string n, pV gc, pV wA.heap.size, .bool true, .int .i64 (x.counter + 1)] 113
          have HrC := hI hrC
          have hsC := (hrC.blk 3 rfl).cell 9
          with_reducible refine late_move (by decide) (fun K hK => ?_)
          go_simp
          refine up_value ⟨hsC, hK _ _ ?_⟩
          clear hK K hrC hsC
          generalize hWC : World.alloc _ _ = WC
          rw [hWC] at HrC
          clear hWC
          have hrD := HrC.out.alloc (.cells #[pV wB.heap.size] 108)
          have hsD := (hrD.blk 3 rfl).cell 9
          with_reducible refine late_move (by decide) (fun K hK => ?_)
          go_simp
          refine up_value ⟨hsD, hK _ _ ?_⟩
          clear hK K hsD
          obtain ⟨GE, _, hpE, hupE⟩ := hrD.at 8 rfl
          have hlit := Sl.lit WC #[pV wB.heap.size] 108 1 1 _ rfl rfl
          refine late_move0 (by decide) rfl ?_
          refine up_app Tryz.underlying103 info_pl rfl (by omega) hpE hlit (fun u hu => by simp at hu; subst hu; rfl) (by omega) (by omega) _ _ rfl rfl rfl (fun vE wE hoE hkE => ?_)
          obtain ⟨AE, cE, rfl, _⟩ := hoE.form
          have hrE : Run w F wE [blkC wB.heap.size 113 #[.string t, .string n, pV gc, pV wA.heap.size, .bool true, .int .i64 (x.counter + 1)], lkC wA.heap.size Lk.none, clC gc (Cl.new (x.counter + 1) x.cf.quota.cards x.cf.quota.log), coB g a { x with counter := x.counter + 1 } n0, rgC (mS x.cf.shards) a.gr (addE x.es key n0).2, bdC (N + 2) x.cf.quota a.gb (updB x.bg t (x.bg t).open.2), hbC a.gh x.wts, ckC a.gk x.now x.als, ownC 108 1 (.slice AE (n0 + 1) cE) (n0 + 1) (a.ps.map (fun p => pV p.gp) ++ [pV wB.heap.size]), zwC plC a.ps x.pls, rspB (w.heap.size + 1) 2 0 0, rspB w.heap.size 0 0 0] := hupE wE (ownC 108 1 (.slice AE (n0 + 1) cE) (n0 + 1) (a.ps.map (fun p => pV p.gp) ++ [pV wB.heap.size])) (hoE.imp (fun b _ h => h.elim .inl (fun h => .inr (by rw [h]; exact Nat.le_refl _)))) hkE
          refine ⟨fun _ => (hrE.blk 3 rfl).cell 9, ?_⟩
          have hcE := (hrE.blk 3 rfl).cell
          have hfE := (hrE.blk 3 rfl).frozen
          have HrF : Hid (Run w F (wE.setCell ⟨g, 9, none⟩ (.slice AE (n0 + 1) cE)) [blkC wB.heap.size 113 #[.string t, .string n, pV gc, pV wA.heap.size, .bool true, .int .i64 (x.counter + 1)], lkC wA.heap.size Lk.none, clC gc (Cl.new (x.counter + 1) x.cf.quota.cards x.cf.quota.log), coB g { a with A := AE, c := cE } { x with counter := x.counter + 1 } (n0 + 1), rgC (mS x.cf.shards) a.gr (addE x.es key n0).2, bdC (N + 2) x.cf.quota a.gb (updB x.bg t (x.bg t).open.2), hbC a.gh x.wts, ckC a.gk x.now x.als, ownC 108 1 (.slice AE (n0 + 1) cE) (n0 + 1) (a.ps.map (fun p => pV p.gp) ++ [pV wB.heap.size]), zwC plC a.ps x.pls, rspB (w.heap.size + 1) 2 0 0, rspB w.heap.size 0 0 0]) := hI (hrE.set 3 rfl 9 (.slice AE (n0 + 1) cE))
          clear hrD hpE hupE hoE hkE hrE hlit
          repeat (with_reducible refine late_step (by decide) (by decide) (fun K hK => ?_); go_simp; refine hK _ _ ?_; clear hK K)
          with_reducible refine late_move (by decide) (fun K hK => ?_)
          go_simp
          refine up_skip (hK _ _ ?_)
          clear hK K hcE hfE
          with_reducible refine late_nil ?_
          generalize hWF : World.setCell _ _ _ = WF
          rw [hWF] at HrF
          clear hWF
          have hc7 := (HrF.out.blk 10 rfl).cell
          have hf7 := (HrF.out.blk 10 rfl).frozen
          have Hr9 : Hid (Run w F _ [blkC wB.heap.size 113 #[.string t, .string n, pV gc, pV wA.heap.size, .bool true, .int .i64 (x.counter + 1)], lkC wA.heap.size Lk.none, clC gc (Cl.new (x.counter + 1) x.cf.quota.cards x.cf.quota.log), coB g { a with A := AE, c := cE } { x with counter := x.counter + 1 } (n0 + 1), rgC (mS x.cf.shards) a.gr (addE x.es key n0).2, bdC (N + 2) x.cf.quota a.gb (updB x.bg t (x.bg t).open.2), hbC a.gh x.wts, ckC a.gk x.now x.als, ownC 108 1 (.slice AE (n0 + 1) cE) (n0 + 1) (a.ps.map (fun p => pV p.gp) ++ [pV wB.heap.size]), zwC plC a.ps x.pls, rspB (w.heap.size + 1) 2 0 (x.counter + 1), rspB w.heap.size 0 0 0]) := hI (HrF.out.set 10 rfl 2 (.int .i64 (x.counter + 1)))
          go_wp2_with (with_reducible refine stop_store (ty := 45) ?_)
          refine unheld ?_
          refine wp_store_blk rfl _ _ _ rfl rfl rfl (Hr9.out.blk 11 rfl) rfl (by kernel_rfl) (by kernel_rfl) rfl ?_
          intro wG hbG hkG
          have hrG := Hr9.out.turn 11 rfl hbG hkG
          have HbG := hI hbG
          have HrG : Hid (Run w F wG [blkC wB.heap.size 113 #[.string t, .string n, pV gc, pV wA.heap.size, .bool true, .int .i64 (x.counter + 1)], lkC wA.heap.size Lk.none, clC gc (Cl.new (x.counter + 1) x.cf.quota.cards x.cf.quota.log), coB g { a with A := AE, c := cE } { x with counter := x.counter + 1 } (n0 + 1), rgC (mS x.cf.shards) a.gr (addE x.es key n0).2, bdC (N + 2) x.cf.quota a.gb (updB x.bg t (x.bg t).open.2), hbC a.gh x.wts, ckC a.gk x.now x.als, ownC 108 1 (.slice AE (n0 + 1) cE) (n0 + 1) (a.ps.map (fun p => pV p.gp) ++ [pV wB.heap.size]), zwC plC a.ps x.pls, rspB (w.heap.size + 1) 2 0 (x.counter + 1), rspB w.heap.size 2 0 (x.counter + 1)]) := hI hrG
          clear hbG hkG hrG hc7 hf7
          repeat go_step
          refine bodyPost_ret (results_cell Tryz.results24 rfl HbG.out Tryz.underlying45 rfl (by kernel_rfl)) rfl ?_
          have h1 := (HrG.out.drop 11).drop 10
          have h2 := h1.perm (List.Perm.cons _ (List.Perm.swap (clC gc (Cl.new (x.counter + 1) x.cf.quota.cards x.cf.quota.log)) (lkC wA.heap.size Lk.none) _))
          have h3 : Run w F wG (plC ⟨wB.heap.size, gc, wA.heap.size⟩ ⟨t, n, Cl.new (x.counter + 1) x.cf.quota.cards x.cf.quota.log, Lk.none, true, x.counter + 1⟩ :: [coB g { a with A := AE, c := cE } { x with counter := x.counter + 1 } (n0 + 1), rgC (mS x.cf.shards) a.gr (addE x.es key n0).2, bdC (N + 2) x.cf.quota a.gb (updB x.bg t (x.bg t).open.2), hbC a.gh x.wts, ckC a.gk x.now x.als, ownC 108 1 (.slice AE (n0 + 1) cE) (n0 + 1) (a.ps.map (fun p => pV p.gp) ++ [pV wB.heap.size]), zwC plC a.ps x.pls]) := Run.unflat (Qs := plL ⟨wB.heap.size, gc, wA.heap.size⟩ ⟨t, n, Cl.new (x.counter + 1) x.cf.quota.cards x.cf.quota.log, Lk.none, true, x.counter + 1⟩) h2
          have h4 := h3.join 6 (L := List.zipWith plC a.ps x.pls) rfl
          have h5 := h4.map 6 rfl (Q := zwC plC (a.ps ++ [⟨wB.heap.size, gc, wA.heap.size⟩]) (x.pls ++ [⟨t, n, Cl.new (x.counter + 1) x.cf.quota.cards x.cf.quota.log, Lk.none, true, x.counter + 1⟩])) (fun G h => by
            show Star wG G (List.zipWith plC _ _)
            rw [zw_snoc (C := plC) Hl.out]
            exact Star.snoc h)
          have hlen : (x.pls ++ [(⟨t, n, Cl.new (x.counter + 1) x.cf.quota.cards x.cf.quota.log, Lk.none, true, x.counter + 1⟩ : Pl)]).length = n0 + 1 := by rw [List.length_append, Hn0.out]; rfl
          rw [hkey, Hn0.out]
          refine ⟨rfl, ⟨{ a with A := AE, c := cE, ps := a.ps ++ [⟨wB.heap.size, gc, wA.heap.size⟩] }, by simp only [List.length_append]; rw [Hl.out]; rfl, ?_⟩, h5.kept⟩
          have h6 := h5.star
          rw [← hlen] at h6
          simp only [coL, List.map_append, List.map_cons, List.map_nil]
          exact h6
  · rw [if_pos h1] at hM0
    subst hM0
    rw [if_pos (by decide)]
    have hk : keyB t n = "".toUTF8 := by unfold keyB; rw [if_neg h1]
    rw [hk] at CK
    have CK := hI CK
    clear hr0 hl hs hk h1 hM
    go_enter Tryz.func24, Tryz.ntmps24
    go_wp2_with (with_reducible refine stop_store (ty := 45) ?_)
    refine unheld ?_
    refine wp_store_blk rfl _ _ _ rfl rfl rfl (Hr0.out.blk 0 rfl) rfl (by kernel_rfl) (by kernel_rfl) rfl ?_
    intro w1 hb1 hk1
    have hr1 := Hr0.out.turn 0 rfl hb1 hk1
    have Hr1 : Hid (Run w F w1 [rspB (w.heap.size + 1) 2 0 0, rspB w.heap.size 0 0 0, starC (coL N g a x x.pls.length)]) := hI hr1
    clear hr1 hb1 hk1
    go_wp2_with fail
    refine (CK.out _).mono ?_
    rintro e w2 ⟨rfl, e2⟩
    obtain rfl := e2.symm
    have Hr8 := Hr1
    have hc7 := (Hr8.out.blk 0 rfl).cell
    have hf7 := (Hr8.out.blk 0 rfl).frozen
    have hr9 := Hr8.out.set 0 rfl 1 (.int .i64 3)
    have Hr9 : Hid (Run w F _ [rspB (w.heap.size + 1) 2 3 0, rspB w.heap.size 0 0 0, starC (coL N g a x x.pls.length)]) := hI hr9
    clear hr9
    go_wp2_with (with_reducible refine stop_store (ty := 45) ?_)
    refine unheld ?_
    refine wp_store_blk rfl _ _ _ rfl rfl rfl (Hr9.out.blk 1 rfl) rfl (by kernel_rfl) (by kernel_rfl) rfl ?_
    intro w9 hb9 hk9
    have hr10 := Hr9.out.turn 1 rfl hb9 hk9
    have Hb9 := hI hb9
    have Hr10 : Hid (Run w F w9 [rspB (w.heap.size + 1) 2 3 0, rspB w.heap.size 2 3 0, starC (coL N g a x x.pls.length)]) := hI hr10
    clear hb9 hk9 hr10 hc7 hf7
    repeat go_step
    refine bodyPost_ret (results_cell Tryz.results24 rfl Hb9.out Tryz.underlying45 rfl (by kernel_rfl)) rfl ?_
    exact ⟨rfl, cr_close Hl.out (by omega) Hr10.out⟩
end
section
open Go.RowKit
def wrErr (x:Co) (p:Pl) (ops:List OpR):Int×Int:=if (p.col.check ops (x.bg p.tenant).room).2.2≠0 then ((p.col.check ops (x.bg p.tenant).room).2.2,(p.col.check ops (x.bg p.tenant).room).1) else if x.counter=maxTok then (9,0) else (0,0)
abbrev rsqB (g:Nat) (kind err token index:Int):Ch:=blkC g 45 #[.int .i64 kind,.int .i64 err,.int .i64 token,.int .i64 0,.string ⟨#[]⟩,.int .i64 index,.bool false,.slice none 0 0]
abbrev opsC (A:Option Addr) (m:Nat) (ops:List OpR):Ch:=slC 5 A m (ops.flatMap OpR.cells)
theorem inner_co {w w₀:World} {F:Nat→Prop} {P:Ch} {Ps L:List Ch} (h:Run w₀ F w (P::starC L::Ps)):Star w (fun b=>F b∨w₀.heap.size≤b) L:=h.get (P:=starC L) 1 rfl
theorem co_colM {w w₀:World} {F:Nat→Prop} {P:Ch} {Ps:List Ch} {g n k:Nat} {a:CA} {x:Co} {bl:List (En Nat)} {q:PA} {p:Pl} (h:Run w₀ F w (P::starC (coO g a bl x n)::Ps)) (hq:a.ps[k]? = some q) (hp:x.pls[k]? = some p):Star w (fun b=>F b∨w₀.heap.size≤b) (plL q p) :=
 zw_get (C:=plC) (Star.get (P:=zwC plC a.ps x.pls) (inner_co h) 6 rfl) hq hp
theorem shutO {w:World} {G:Nat→Prop} {N g n:Nat} {a:CA} {x:Co} {bl:List (En Nat)} (hb:BlOk N x.cf.quota bl x.bg) (h:(starC (coO g a bl x n)).p w G):(starC (coL N g a x n)).p w G :=
 Star.map (i:=2) (show Star w G (coO g a bl x n) from h) rfl (Q:=bdC N x.cf.quota a.gb x.bg) (fun G h=>⟨bl,hb.ln,hb.no,h⟩)
def St (w w':World) (P P':Ch):Prop:=∀ G,P.p w G→P'.p w' (fun b=>G b∨w.heap.size≤b)∧Kept G w w'
theorem St.cell (w:World) (g:Nat) (t:TypeId) (cs:Array Value) (j:Nat) (u:Value):St w (w.setCell ⟨g,j,none⟩ u) (blkC g t cs) (blkC g t (cs.setIfInBounds j u)) :=
 fun G h=>⟨⟨.inl h.1,h.2.set j u⟩,(Kept.refl G w).setCell (p:=⟨g,j,none⟩) (.inl h.1) u⟩
theorem St.inn {w w':World} {P P':Ch} {Ps:List Ch} {i:Nat} (h:St w w' P P') (hi:Ps[i]? = some P):St w w' (starC Ps) (starC (Ps.set i P')):=fun G hs=>by
 obtain ⟨G1,h1,h2,h3⟩:=Star.at (show Star w G Ps from hs) i hi;obtain ⟨k1,k2⟩:=h G1 h2;exact ⟨h3 w' P' k1 k2,k2.mono (fun b _ h=>h1 b h)⟩
theorem St.run {w₀ w w':World} {F:Nat→Prop} {P P':Ch} {Ps:List Ch} (h:St w w' P P') (hr:Run w₀ F w Ps) (i:Nat) (hi:Ps[i]? = some P):Run w₀ F w' (Ps.set i P'):=by
 obtain ⟨G,_,hp,hup⟩:=hr.at i hi;obtain ⟨k1,k2⟩:=h G hp;exact hup w' P' k1 k2
theorem St.place {w:World} {a:CA} {x:Co} {k:Nat} {q:PA} {p:Pl} (hq:a.ps[k]? = some q) (hp:x.pls[k]? = some p) (tk:Int):St w (w.setCell ⟨q.gp,5,none⟩ (.int .i64 tk)) (zwC plC a.ps x.pls) (zwC plC a.ps (x.pls.set k { p with drawn:=tk })):=by
 have h1:St w (w.setCell ⟨q.gp,5,none⟩ (.int .i64 tk)) (plC q p) (plC q { p with drawn:=tk }):=(St.cell w q.gp 113 #[.string p.tenant,.string p.name,pV q.gc,pV q.gl,.bool p.alive,.int .i64 p.drawn] 5 (.int .i64 tk)).inn (Ps:=plL q p) (i:=0) rfl;have h2:=h1.inn (Ps:=List.zipWith plC a.ps x.pls) (i:=k) (zw_at hq hp);rw [zw_set _ hq] at h2;exact h2
theorem chk_bound {c:Cl} (hok:c.Ok) (room:Int):∀ (l seen:List OpR) (many grow B:Int),(∀ o∈l,o.card.size≤1000000)→-B≤grow∧grow≤B→0≤B→-(B+1000000*(l.length:Int))≤(chkL c room seen many grow l).2.1∧(chkL c room seen many grow l).2.1≤B+1000000*(l.length:Int)
 | [],seen,many,grow,B,_,hb,_=>by simp only [chkL,List.length_nil];omega
 | o::l,seen,many,grow,B,ho,hb,hB=>by
  unfold chkL
  split
  ·simp only [List.length_cons];omega
  ·have hg:=get_tsz hok o.uid
   have hc:=ho o List.mem_cons_self;have hs : -(B+1000000)≤stepGrow c o grow∧stepGrow c o grow≤B+1000000:=by
    unfold stepGrow csz
    split <;> omega
   have:=chk_bound hok room l (seen++[o]) (stepMany c o many) (stepGrow c o grow) (B+1000000) (fun o h=>ho o (List.mem_cons_of_mem _ h)) hs (by omega)
   simp only [List.length_cons];omega
theorem applyL_ok:∀ (l:List OpR) {c:Cl} (tk:Int),c.Ok→(∀ o∈l,o.card.size≤1000000)→(applyL c l tk).Ok
 | [],c,tk,h,_=>h
 | o::l,c,tk,h,ho=>applyL_ok l tk (h.apply o tk (ho o List.mem_cons_self)) (fun o h=>ho o (List.mem_cons_of_mem _ h))
theorem applyL_snoc (c:Cl) (l:List OpR) (o:OpR) (tk:Int):applyL c (l++[o]) tk=((applyL c l tk).apply o tk).2:=by simp [applyL]
abbrev wrX (x:Co) (k:Nat) (p:Pl) (b:Bg) (c:Cl):Co:={ x with counter:=x.counter+1,bg:=updB x.bg p.tenant b,pls:=x.pls.set k { p with drawn:=x.counter+1,col:=c } }
theorem co_write (w w₀:World) (F:Nat→Prop) (N g n k ga m cp:Nat) (a:CA) (q:PA) (x:Co) (p:Pl) (ops:List OpR) (A:Option Addr) (kind:Int) (now:Bool) (OC:Ch) (hOC:∀ w G,OC.p w G→Sl w G 5 A m (ops.flatMap OpR.cells))
  (hr:Run w₀ F w [rsqB ga kind 0 0 0,starC (coL N g a x n),OC]) (hl:a.ps.length=n) (hq:a.ps[k]? = some q) (hp:x.pls[k]? = some p) (hok:x.Ok) (hN:N≤80000) (hm:m≤1000) (hmc:m≤cp) (hops:∀ o∈ops,o.card.size≤1000000) :
  Calls Tryz.prog 60 #[pV g,pV q.gp,.slice A m cp,.bool now,pV ga] w fun e w'=>e = .returned (.tuple #[]) ∧
   Run w₀ F w' [rsqB ga kind (wrErr x p ops).1 (if (wrErr x p ops).1=0 then x.counter+1 else 0) (wrErr x p ops).2,starC (coL (N+1) g a (if (wrErr x p ops).1=0 then x.write k p ops now else x) n),OC]:=by
 have HOC:=hI hOC;clear hOC;have hpo:=hok.pl p (List.mem_of_getElem? hp);have CC:=fun (w1:World) (F1 G1:Nat→Prop) (h:ClM w1 F1 q.gc p.col) (hs:Sl w1 G1 5 A m (ops.flatMap OpR.cells))=>cl_check w1 F1 G1 q.gc p.col ops A m cp (x.bg p.tenant).room h hpo.1 hs hm hops hmc;obtain ⟨CK,hCK⟩:∃ c,p.col.check ops (x.bg p.tenant).room=c:=⟨_,rfl⟩;rw [hCK] at CC;obtain ⟨ix,grow,er⟩:=CK;unfold wrErr;rw [hCK]
 simp only
 by_cases he:er≠0
 ·rw [if_pos he]
  simp only;rw [if_neg he,if_neg he];have he':(er != 0)=true:=by simpa using he
  clear he;obtain ⟨G0,_,hin0,hup0⟩:=hr.inner 1 rfl;have hcp:=(pl_blk hin0 hq hp).cell;have CB:=hI (co_budget w w G0 N g n a x p.tenant hin0 (cf_quota hok.cf) (by omega))
  have Hup0:=hI hup0;clear hin0 hup0;go_enter Tryz.func60,Tryz.ntmps60;go_wp2_with fail;refine (CB.out).mono ?_;rintro e w1 ⟨bl,kb1,gk,rfl,hk,hbl,hr1⟩;have hcp1:=(pl_blk (coL_mono (Nat.le_refl _) (co_shut hbl hr1)) hq hp).cell;have hst1:=pl_get (coL_mono (Nat.le_refl _) (co_shut hbl hr1)) hq hp;have Hr1:=hI (Hup0.out w1 _ hr1);have Hk:=hI hk;have Hbl:=hI hbl;have CR:=hI (qu_room w1.drew _ gk (x.bg p.tenant) (bd_get hr1.drew hk) (hok.bd p.tenant).1)
  have hcq:w1.cell? ⟨q.gp,2,none⟩=some (pV q.gc):=hcp1 2;clear hr1 hk hbl hcp CB Hup0 hst1 hcp1;go_wp2;refine gz45 ?_;clear hcq;refine gz4 ?_;refine gz2 ?_
  with_reducible refine seq_move (by decide) (fun K hK=>?_)
  go_simp;refine up_enter ((CR.out).mono ?_);rintro e w2 ⟨rfl,hk2⟩;have hr2:=Hr1.out.drew.pure hk2;have hst2:=co_colM hr2 hq hp;have hcp2:w2.cell? ⟨q.gp,2,none⟩=some (pV q.gc):=((Star.get (P:=plB q p) hst2 0 rfl).2).cell 2;have CC2:=hI (CC w2 _ _ (Star.get (P:=clC q.gc p.col) hst2 1 rfl) (HOC.out _ _ (hr2.get (P:=OC) 2 rfl)));have Hr2:=hI hr2;clear hr2 hst2 hk2 CR;refine ⟨_,rfl,hcp2,hK _ _ ?_⟩
  clear hK K hcp2
  with_reducible refine seq_move (by decide) (fun K hK=>?_)
  go_simp;unfold Reads at CC2;refine up_enter ((CC2.out).mono ?_);rintro e w3 ⟨rfl,hk3⟩;have hr3:=Hr2.out.pure hk3;have hst3:=co_colM hr3 hq hp;have hcp3:w3.cell? ⟨q.gp,2,none⟩=some (pV q.gc):=((Star.get (P:=plB q p) hst3 0 rfl).2).cell 2;have Hr3:=hI hr3;refine ⟨_,rfl,hcp3,hK _ _ ?_⟩;clear hK K hcp3 hst3 hr3 hk3 CC2 Hr2;unfold trip;refine gz2 ?_;refine gz13 ?_;have hca:=(Hr3.out.blk 0 rfl).cell
  have hfa:=(Hr3.out.blk 0 rfl).frozen;have hr4:=(Hr3.out.set 0 rfl 1 (.int .i64 er)).set 0 rfl 5 (.int .i64 ix);have Hr4:=hI (hr4.map 1 rfl (Q:=starC (coL (N+1) g a x n)) (fun G h=>shutO Hbl.out h));clear hr4;go_wp2;exact bodyPost_ret (results_none Tryz.results60 _ _ _) rfl ⟨rfl,Hr4.out⟩
 ·rw [if_neg he]
  obtain rfl:er=0:=Decidable.not_not.1 he;clear he
  by_cases hct:x.counter=maxTok
  ·rw [if_pos hct]
   simp only;rw [if_neg (by decide),if_neg (by decide)]
   have Hct:=hI hct;clear hct;obtain ⟨G0,_,hin0,hup0⟩:=hr.inner 1 rfl;have hcp:=(pl_blk hin0 hq hp).cell;have CB:=hI (co_budget w w G0 N g n a x p.tenant hin0 (cf_quota hok.cf) (by omega))
   have Hup0:=hI hup0;clear hin0 hup0;go_enter Tryz.func60,Tryz.ntmps60;go_wp2_with fail;refine (CB.out).mono ?_;rintro e w1 ⟨bl,kb1,gk,rfl,hk,hbl,hr1⟩;have hcp1:=(pl_blk (coL_mono (Nat.le_refl _) (co_shut hbl hr1)) hq hp).cell;have hst1:=pl_get (coL_mono (Nat.le_refl _) (co_shut hbl hr1)) hq hp;have Hr1:=hI (Hup0.out w1 _ hr1);have Hk:=hI hk;have Hbl:=hI hbl;have CR:=hI (qu_room w1.drew _ gk (x.bg p.tenant) (bd_get hr1.drew hk) (hok.bd p.tenant).1)
   have hcq:w1.cell? ⟨q.gp,2,none⟩=some (pV q.gc):=hcp1 2;clear hr1 hk hbl hcp CB Hup0 hst1 hcp1;go_wp2;refine gz45 ?_;clear hcq;refine gz4 ?_;refine gz2 ?_
   with_reducible refine seq_move (by decide) (fun K hK=>?_)
   go_simp;refine up_enter ((CR.out).mono ?_);rintro e w2 ⟨rfl,hk2⟩;have hr2:=Hr1.out.drew.pure hk2;have hst2:=co_colM hr2 hq hp;have hcp2:w2.cell? ⟨q.gp,2,none⟩=some (pV q.gc):=((Star.get (P:=plB q p) hst2 0 rfl).2).cell 2;have CC2:=hI (CC w2 _ _ (Star.get (P:=clC q.gc p.col) hst2 1 rfl) (HOC.out _ _ (hr2.get (P:=OC) 2 rfl)));have Hr2:=hI hr2;clear hr2 hst2 hk2 CR;refine ⟨_,rfl,hcp2,hK _ _ ?_⟩
   clear hK K hcp2
   with_reducible refine seq_move (by decide) (fun K hK=>?_)
   go_simp;unfold Reads at CC2;refine up_enter ((CC2.out).mono ?_);rintro e w3 ⟨rfl,hk3⟩;have hr3:=Hr2.out.pure hk3;have hst3:=co_colM hr3 hq hp;have hcp3:w3.cell? ⟨q.gp,2,none⟩=some (pV q.gc):=((Star.get (P:=plB q p) hst3 0 rfl).2).cell 2;have Hr3:=hI hr3;refine ⟨_,rfl,hcp3,hK _ _ ?_⟩;clear hK K hcp3 hst3 hr3 hk3 CC2 Hr2;unfold trip;refine gz2 ?_;refine gz13 ?_;obtain ⟨G6,_,hin6,_⟩:=Hr3.out.inner 1 rfl
   have CD:=hI (co_draw0 _ _ G6 g n a x _ hin6 Hct.out);clear hin6;go_wp2_with fail;refine (CD.out).mono ?_;rintro e w6 ⟨rfl,e6⟩;obtain rfl:=e6.symm;have hca:=(Hr3.out.blk 0 rfl).cell;have hfa:=(Hr3.out.blk 0 rfl).frozen;have hr4:=(Hr3.out.set 0 rfl 1 (.int .i64 9));have Hr4:=hI (hr4.map 1 rfl (Q:=starC (coL (N+1) g a x n)) (fun G h=>shutO Hbl.out h));clear hr4;go_wp2;exact bodyPost_ret (results_none Tryz.results60 _ _ _) rfl ⟨rfl,Hr4.out⟩
  ·rw [if_neg hct]
   simp only;rw [if_pos trivial,if_pos trivial];have Hct:=hI hct;have hmv : -(0+1000000*(ops.length:Int))≤grow∧grow≤0+1000000*(ops.length:Int):=by
    have:=chk_bound hpo.1 (x.bg p.tenant).room ops [] p.col.cards.length 0 0 hops (by omega) (by omega)
    have e:(chkL p.col (x.bg p.tenant).room [] p.col.cards.length 0 ops)=(ix,grow,0):=hCK;rw [e] at this;exact this
   have hopl:ops.length=m:=by
    have h1:Sl w _ 5 A m (ops.flatMap OpR.cells):=HOC.out _ _ (hr.get (P:=OC) 2 rfl);have:=h1.1;rw [fm_length _ 5 OpR.cells_len] at this;omega
   rw [hopl] at hmv;have hmv2 : -1000000000000≤grow∧grow≤1000000000000:=by omega
   have Hck:=hI hCK;clear hct hmv;obtain ⟨G0,_,hin0,hup0⟩:=hr.inner 1 rfl;have hcp:=(pl_blk hin0 hq hp).cell;have CB:=hI (co_budget w w G0 N g n a x p.tenant hin0 (cf_quota hok.cf) (by omega))
   have Hup0:=hI hup0;clear hin0 hup0;go_enter Tryz.func60,Tryz.ntmps60;go_wp2_with fail;refine (CB.out).mono ?_;rintro e w1 ⟨bl,kb1,gk,rfl,hk,hbl,hr1⟩;have hcp1:=(pl_blk (coL_mono (Nat.le_refl _) (co_shut hbl hr1)) hq hp).cell;have hst1:=pl_get (coL_mono (Nat.le_refl _) (co_shut hbl hr1)) hq hp;have Hr1:=hI (Hup0.out w1 _ hr1);have Hk:=hI hk;have Hbl:=hI hbl;have CR:=hI (qu_room w1.drew _ gk (x.bg p.tenant) (bd_get hr1.drew hk) (hok.bd p.tenant).1)
   have hcq:w1.cell? ⟨q.gp,2,none⟩=some (pV q.gc):=hcp1 2;clear hr1 hk hbl hcp CB Hup0 hst1 hcp1;go_wp2;refine gz45 ?_;clear hcq;refine gz4 ?_;refine gz2 ?_
   with_reducible refine seq_move (by decide) (fun K hK=>?_)
   go_simp;refine up_enter ((CR.out).mono ?_);rintro e w2 ⟨rfl,hk2⟩;have hr2:=Hr1.out.drew.pure hk2;have hst2:=co_colM hr2 hq hp;have hcp2:w2.cell? ⟨q.gp,2,none⟩=some (pV q.gc):=((Star.get (P:=plB q p) hst2 0 rfl).2).cell 2;have CC2:=hI (CC w2 _ _ (Star.get (P:=clC q.gc p.col) hst2 1 rfl) (HOC.out _ _ (hr2.get (P:=OC) 2 rfl)));have Hr2:=hI hr2;clear hr2 hst2 hk2 CR;refine ⟨_,rfl,hcp2,hK _ _ ?_⟩
   clear hK K hcp2
   with_reducible refine seq_move (by decide) (fun K hK=>?_)
   go_simp;unfold Reads at CC2;refine up_enter ((CC2.out).mono ?_);rintro e w3 ⟨rfl,hk3⟩;have hr3:=Hr2.out.pure hk3;have hst3:=co_colM hr3 hq hp;have hcp3:w3.cell? ⟨q.gp,2,none⟩=some (pV q.gc):=((Star.get (P:=plB q p) hst3 0 rfl).2).cell 2;have Hr3:=hI hr3;refine ⟨_,rfl,hcp3,hK _ _ ?_⟩;clear hK K hcp3 hst3 hr3 hk3 CC2 Hr2;unfold trip;refine gz2 ?_;refine gz13 ?_;obtain ⟨G6,_,hin6,hup6⟩:=Hr3.out.inner 1 rfl
   have CD:=hI (co_draw1 _ _ G6 g n a x _ hin6 Hct.out hok.ct);have Hup6:=hI hup6;clear hin6 hup6;go_wp2_with fail;refine (CD.out).mono ?_;rintro e w6 ⟨rfl,hr6⟩;have hr7:=Hup6.out w6 (coO g a bl { x with counter:=x.counter+1 } n) hr6;obtain ⟨G8,_,hin8,hup8⟩:=hr7.inner 1 rfl;have CM:=hI (bd_turn hin8 Hbl.out.ri Hk.out (f:=124) (b:=((x.bg p.tenant).move grow).2) (fun G hG hp=>qu_move _ G gk (x.bg p.tenant) grow hp (hok.bd p.tenant).1 hmv2))
   have Hup8:=hI hup8;clear hr6 hr7 hin8 hup8 Hup6 CD;go_wp2_with fail;refine (CM.out).mono ?_;rintro e w7 ⟨rfl,hr8⟩;have hr9:Run w₀ F w7 [rsqB ga kind 0 0 0,starC (coO g a bl { x with counter:=x.counter+1,bg:=updB x.bg p.tenant ((x.bg p.tenant).move grow).2 } n),OC]:=Hup8.out w7 _ hr8;have hst9:=co_colM hr9 hq hp;have hcp9:=(Star.get (P:=plB q p) hst9 0 rfl).2.cell;have hfp9:=(Star.get (P:=plB q p) hst9 0 rfl).2.frozen
   have hr10:Run w₀ F (w7.setCell ⟨q.gp,5,none⟩ (.int .i64 (x.counter+1))) [rsqB ga kind 0 0 0,starC (coO g a bl { x with counter:=x.counter+1,bg:=updB x.bg p.tenant ((x.bg p.tenant).move grow).2,pls:=x.pls.set k { p with drawn:=x.counter+1 } } n),OC] :=
    ((St.place (x:=x) hq hp (x.counter+1)).inn (Ps:=coO g a bl { x with counter:=x.counter+1,bg:=updB x.bg p.tenant ((x.bg p.tenant).move grow).2 } n) (i:=6) rfl).run hr9 1 rfl
   have hca:=(hr10.blk 0 rfl).cell;have hfa:=(hr10.blk 0 rfl).frozen;have Hr11:Hid (Run w₀ F ((w7.setCell ⟨q.gp,5,none⟩ (.int .i64 (x.counter+1))).setCell ⟨ga,2,none⟩ (.int .i64 (x.counter+1))) [rsqB ga kind 0 (x.counter+1) 0,starC (coL (N+1) g a { x with counter:=x.counter+1,bg:=updB x.bg p.tenant ((x.bg p.tenant).move grow).2,pls:=x.pls.set k { p with drawn:=x.counter+1 } } n),OC]) :=
    hI ((hr10.set 0 rfl 2 (.int .i64 (x.counter+1))).map 1 rfl (Q:=starC (coL (N+1) g a { x with counter:=x.counter+1,bg:=updB x.bg p.tenant ((x.bg p.tenant).move grow).2,pls:=x.pls.set k { p with drawn:=x.counter+1 } } n)) (fun G h=>shutO (Hbl.out.upd Hk.out _) h))
   clear hr8 hr9 hst9 hr10 Hup8 CM;have hwr:((k:Nat):Int).toNat=k:=rfl;cases now with
   | false =>
    go_wp2;refine bodyPost_ret (results_none Tryz.results60 _ _ _) rfl ⟨rfl,?_⟩;unfold Co.write;rw [Hck.out];exact Hr11.out
   | true =>
    have Hr12:Hid (Run w₀ F ((w7.setCell ⟨q.gp,5,none⟩ (.int .i64 (x.counter+1))).setCell ⟨ga,2,none⟩ (.int .i64 (x.counter+1))) [rsqB ga kind 0 (x.counter+1) 0,starC (coL (N+1) g a (wrX x k p ((x.bg p.tenant).move grow).2 (applyL p.col (ops.take 0) (x.counter+1))) n),OC]):=Hr11;clear Hr11;go_wp2;generalize hW12:World.setCell _ _ _=W12;rw [hW12] at Hr12;clear hW12 hca hfa hcp9 hfp9
    go_loopw [71] (fun vi wr=>∃ kk:Nat,vi = .int .i64 kk∧kk≤m∧Hid (Run w₀ F wr [rsqB ga kind 0 (x.counter+1) 0,starC (coL (N+1) g a (wrX x k p ((x.bg p.tenant).move grow).2 (applyL p.col (ops.take kk) (x.counter+1))) n),OC])) (fun vi _=>m-(intOf vi).toNat)
    case atStart=>exact ⟨0,rfl,Nat.zero_le _,Hr12⟩
    case round =>
     obtain ⟨kk,rfl,hkm,hrr⟩:=hrel
     by_cases hlt:kk<m
     ·obtain ⟨o,ho⟩:∃ o,ops[kk]? = some o:=⟨_,List.getElem?_eq_getElem (by omega)⟩
      have hocard:=hops o (List.mem_of_getElem? ho);have hsl:Sl wr _ 5 A m (ops.flatMap OpR.cells):=HOC.out _ _ (hrr.out.get (P:=OC) 2 rfl);obtain ⟨b,off,rfl,_,_,_⟩:=hsl.2 (by omega)
      obtain ⟨hc0,hc1,hc2,hc3,hc4⟩:=op_at hsl ho;have hki:(kk:Int)<(m:Int):=by omega
      have htk:applyL p.col (ops.take (kk+1)) (x.counter+1)=((applyL p.col (ops.take kk) (x.counter+1)).apply o (x.counter+1)).2:=by rw [List.take_add_one,ho,←applyL_snoc];rfl
      have hcok:=applyL_ok (ops.take kk) (x.counter+1) hpo.1 (fun o h=>hops o (List.mem_of_mem_take h));obtain ⟨C1,hC1⟩:∃ c,applyL p.col (ops.take kk) (x.counter+1)=c:=⟨_,rfl⟩;rw [hC1] at hrr hcok htk;obtain ⟨del,uid,card,cond⟩:=o;simp only at hc0 hc1 hc2 hc3 hc4 hocard;have hra:=hrr.out.addBlk #[.bool del,.string uid,.string card,.int .i64 cond.kind,.int .i64 cond.version] 58;have hkl:k<x.pls.length:=(List.getElem?_eq_some_iff.1 hp).1
      have hpx:(wrX x k p ((x.bg p.tenant).move grow).2 C1).pls[k]? = some { p with drawn:=x.counter+1,col:=C1 }:=List.getElem?_set_self hkl;obtain ⟨G9,_,hin9,hup9⟩:=hra.drew.inner 2 rfl;have CA:=hI (pl_turn hin9 hq hpx { p with drawn:=x.counter+1,col:=(C1.apply ⟨del,uid,card,cond⟩ (x.counter+1)).2 } (r:=.bool (C1.apply ⟨del,uid,card,cond⟩ (x.counter+1)).1) (fun G hG hst=>Star.turn1 hst 1 hG rfl (fun G2 hG2 h2=>cl_apply _ G2 q.gc C1 ⟨del,uid,card,cond⟩ (x.counter+1) h2 hcok hocard)))
      have Hup9:=hI hup9;have hqb:=(hra.blk 0 rfl).cell;have hst9:=pl_get hin9 hq hpx;have hcc9:(wr.alloc (.cells #[.bool del,.string uid,.string card,.int .i64 cond.kind,.int .i64 cond.version] 58)).cell? ⟨q.gp,2,none⟩=some (pV q.gc):=(Star.get (P:=plB q _) hst9 0 rfl).2.cell 2;have Hpx:=hI hpx;clear hra hin9 hup9 hst9 hsl ho hC1 hpx;go_wp2;refine gz59 ?_;refine gz2 ?_;clear hqb hcc9
      with_reducible refine seq_move (by decide) (fun K hK=>?_)
      go_simp;refine up_enter ((CA.out).mono ?_);rintro e wX ⟨rfl,hrX⟩;have hr15:=(Hup9.out wX _ hrX).drop 0;have Hr15:Hid (Run w₀ F wX [rsqB ga kind 0 (x.counter+1) 0,starC (coL (N+1) g a (wrX x k p ((x.bg p.tenant).move grow).2 (applyL p.col (ops.take (kk+1)) (x.counter+1))) n),OC]):=hI (by
       rw [htk];have e:(x.pls.set k { p with drawn:=x.counter+1,col:=C1 }).set k { p with drawn:=x.counter+1,col:=(C1.apply ⟨del,uid,card,cond⟩ (x.counter+1)).2 }=x.pls.set k { p with drawn:=x.counter+1,col:=(C1.apply ⟨del,uid,card,cond⟩ (x.counter+1)).2 }:=List.set_set _;unfold wrX;rw [←e];exact hr15)
      refine ⟨_,rfl,hK _ _ ?_⟩;clear hK K hr15 hrX CA Hup9;refine gz13 ?_;go_wp2
      go_roundw
      case measure=>simp [intOf];omega
      case rel=>exact ⟨kk+1,by first|rfl|go_num,by omega,Hr15⟩
     ·obtain rfl:kk=m:=by omega
      go_wp2
      go_end0
      refine ⟨rfl,?_⟩;have h1:=hrr.out;rw [←hopl,List.take_length] at h1;unfold Co.write;rw [Hck.out];exact h1
end
section
open Go.RowKit
theorem co_new1 (c:Cf) (w:World) (h:c.okB=true) :
  Calls Tryz.prog 11 #[c.val] w fun e w'=>∃ g,e = .returned (.tuple #[pV g,.int .i64 0])∧CoM 0 w' (fun b=>w.heap.size≤b) g (Co.new c)∧Pure w w':=by
 have C:=fun w=>bk_may c w;rw [h] at C;simp only [if_true] at C;have hsh:c.shards≤64:=by
  unfold Cf.okB at h;simp only [Bool.and_eq_true,decide_eq_true_eq] at h;omega
 have hr0:=(Run.start (F:=fun _=>False) (w:=w) (Ps:=[]) trivial).addBlk c.cells 25;unfold Cf.val;unfold Cf.val at C;obtain ⟨conns,start,room,shards,⟨q1,q2,q3,q4⟩⟩:=c;unfold Cf.cells at *;simp only at *;have Hr0:=hI hr0;have C:=hI C;have hc:=(hr0.blk 0 rfl).cell;clear hr0 h;go_enter Tryz.func11,Tryz.ntmps11;go_wp2_with fail;refine (C.out _).mono ?_;rintro e w1 ⟨rfl,hk1⟩;have hr1:=Hr0.out.pure hk1
 have hcx:=(hr1.blk 0 rfl).cell;have Hr1:=hI hr1;clear hr1 hk1 hc;go_wp2;refine wp_region_seqS (fun y=>∀ i,y.cell? ⟨w.heap.size,i,none⟩=#[.int .i64 conns,.int .i64 start,.int .i64 room,.int .i64 shards,.int .i64 q1,.int .i64 q2,.int .i64 q3,.int .i64 q4][i]?) [5,6,7,8,10] [0,1,2,3,4] (by kernel_rfl) (by kernel_rfl) (by kernel_rfl) hcx ?_
 refine gz4 ?_;have C1:=hI (rg_new w1.drew shards hsh)
 with_reducible refine seq_move (by decide) (fun K hK=>?_)
 go_simp;refine up_enter ((C1.out).mono ?_);rintro e w2 ⟨rfl,hm2,hk2⟩;have hr2:=Hr1.out.drew.add (Q:=rgC (mS shards) w1.drew.heap.size []) hk2 hm2;have hs2:=(hr2.blk 1 rfl).cell;have Hr2:=hI hr2;refine ⟨_,rfl,(by simpa using hs2),hK _ _ ?_⟩
 clear hK K C1 hr2 hs2 hm2 hk2;have C2:=hI (b_new w2)
 with_reducible refine seq_move (by decide) (fun K hK=>?_)
 go_simp;refine up_enter ((C2.out).mono ?_);rintro e w3 ⟨rfl,hm3,hk3⟩;have hr3:=Hr2.out.add (Q:=mbC w2.heap.size []) hk3 (Mp.imp hm3 (fun b _ h=>by omega))
 have hs3:=(hr3.blk 2 rfl).cell;have Hr3:=hI hr3;refine ⟨_,rfl,(by simpa using hs3),hK _ _ ?_⟩
 clear hK K C2 hr3 hs3 hm3 hk3;have C3:=hI (hb_new w3)
 with_reducible refine seq_move (by decide) (fun K hK=>?_)
 go_simp;refine up_enter ((C3.out).mono ?_);rintro e w4 ⟨rfl,hm4,hk4⟩;have hr4:=Hr3.out.add (Q:=hbC w3.heap.size []) hk4 hm4;have hs4:=(hr4.blk 3 rfl).cell;have Hr4:=hI hr4;refine ⟨_,rfl,(by simpa using hs4),hK _ _ ?_⟩
 clear hK K C3 hr4 hs4 hm4 hk4;have C4:=hI (ck_new w4)
 with_reducible refine seq_move (by decide) (fun K hK=>?_)
 go_simp;refine up_enter ((C4.out).mono ?_);rintro e w5 ⟨rfl,hm5,hk5⟩;have hr5:=Hr4.out.add (Q:=ckC w4.heap.size 0 []) hk5 hm5;have hs5:=(hr5.blk 4 rfl).cell;have Hr5:=hI hr5;refine ⟨_,rfl,(by simpa using hs5),hK _ _ ?_⟩
 clear hK K C4 hr5 hs5 hm5 hk5;refine gz2 ?_
 with_reducible refine seq_move (by decide) (fun K hK=>?_)
 go_simp;have hr6:=Hr5.out.addBlk #[.int .i64 conns,.int .i64 start,.int .i64 room,.int .i64 shards,.int .i64 q1,.int .i64 q2,.int .i64 q3,.int .i64 q4,.int .i64 start,.slice none 0 0,pV w1.heap.size,pV w2.heap.size,pV w3.heap.size,pV w4.heap.size] 105;have hs6:=(hr6.blk 5 rfl).cell;have Hr6:=hI hr6;refine up_value ⟨(by simpa using hs6),hK _ _ ?_⟩
 clear hK K hr6 hs6;refine gz2 ?_;refine gz13 ?_;go_wp2
 go_ret2
 have h7:=Hr6.out;have h8:=h7.drop 5;have h9:Run w (fun _=>False) _ [coB w5.heap.size ⟨none,0,[],w1.heap.size,w2.heap.size,w3.heap.size,w4.heap.size⟩ (Co.new ⟨conns,start,room,shards,⟨q1,q2,q3,q4⟩⟩) 0,ckC w4.heap.size 0 [],hbC w3.heap.size [],mbC w2.heap.size [],rgC (mS shards) w1.heap.size []]:=h8;refine ⟨w5.heap.size,rfl,⟨⟨none,0,[],w1.heap.size,w2.heap.size,w3.heap.size,w4.heap.size⟩,rfl,?_⟩,h9.pureOf⟩
 have h10:=(h9.addNil 108 1).add (Q:=zwC plC [] []) (Kept.refl _ _) trivial;have h11:=h10.map 5 rfl (Q:=bdC 0 ⟨q1,q2,q3,q4⟩ w2.heap.size (fun _=>⟨⟨q1,q2,q3,q4⟩,0,0⟩)) (fun G h=>⟨[],by simp,fun _ _=>rfl,⟨G,fun _ h=>h,h,trivial⟩⟩)
 exact (h11.perm ((List.reverse_perm _).symm.trans (List.perm_middle (l₁:=[rgC (mS shards) w1.heap.size [],bdC 0 ⟨q1,q2,q3,q4⟩ w2.heap.size (fun _=>⟨⟨q1,q2,q3,q4⟩,0,0⟩),hbC w3.heap.size [],ckC w4.heap.size 0 []])))).star.imp (fun b _ h=>h.elim False.elim id)
end
section
open Go.RowKit
structure Rq where
 kind:Int
 tenant:ByteArray
 col:ByteArray
 uid:ByteArray
 card:ByteArray
 cond:Cn
 ops:List OpR
 token:Int
 most:Int
 ticks:Int
abbrev Rq.cells (q:Rq) (A:Option Addr) (m cp:Nat):Array Value:=#[.int .i64 q.kind,.string q.tenant,.string q.col,.string q.uid,.string q.card,.int .i64 q.cond.kind,.int .i64 q.cond.version,.slice A m cp,.int .i64 q.token,.int .i64 q.most,.int .i64 q.ticks]
abbrev rqB (g:Nat) (q:Rq) (A:Option Addr) (m cp:Nat):Ch:=blkC g 32 (q.cells A m cp)
abbrev itC (A:Option Addr) (n:Nat) (l:List It):Ch:=slC 4 A n (itc l)
def WkP (N g:Nat) (OC:Ch) (w:World) (F:Nat→Prop) (q:Rq) (r:Rs) (x:Co) (e:Ending) (w':World):Prop :=
 ∃ (B:Option Addr) (c:Nat),e = .returned (.tuple #[.agg (rspA q.kind r.err r.token r.version r.card r.index r.more none 0 0),.slice B r.items.length c])∧Star w' (fun b=>F b∨w.heap.size≤b) [coC (N+2) g x,OC,itC B r.items.length r.items]∧Kept F w w'
def rsErr (kind err:Int):Rs:=⟨kind,err,0,0,⟨#[]⟩,0,false,[]⟩
theorem wk_start (w:World) (F:Nat→Prop) (N g n:Nat) (a:CA) (x:Co) (q:Rq) (A:Option Addr) (m cp:Nat) (OC:Ch) (h:Star w F [starC (coL N g a x n),OC]) :
  Run w F ((w.alloc (.cells (q.cells A m cp) 32)).alloc (.cells #[.int .i64 0,.int .i64 0,.int .i64 0,.int .i64 0,.string ⟨#[]⟩,.int .i64 0,.bool false,.slice none 0 0] 45)) [rsqB (w.heap.size+1) 0 0 0 0,rqB w.heap.size q A m cp,starC (coL N g a x n),OC]:=by
 have h2:=((Run.start h).addBlk (q.cells A m cp) 32).addBlk #[.int .i64 0,.int .i64 0,.int .i64 0,.int .i64 0,.string ⟨#[]⟩,.int .i64 0,.bool false,.slice none 0 0] 45;rw [World.size_alloc] at h2;exact h2
theorem wk_close {w w9:World} {F:Nat→Prop} {M N g k:Nat} {a:CA} {x:Co} {B:Option Addr} {l:List It} {P Q OC:Ch} (hl:a.ps.length=x.pls.length) (hMN:M≤N+2) (h:Run w F w9 [P,Q,starC (coL M g a x x.pls.length),OC,itC B k l]) :
  Star w9 (fun b=>F b∨w.heap.size≤b) [coC (N+2) g x,OC,itC B k l]∧Kept F w w9:=by
 have h1:=((h.drop 0).drop 0).map 0 rfl (Q:=coC (N+2) g x) (fun G h=>⟨a,hl,Star.map (i:=2) (show Star w9 G (coL M g a x x.pls.length) from h) rfl (Q:=bdC (N+2) x.cf.quota a.gb x.bg) (fun G ⟨bl,h1,h2,h3⟩=>⟨bl,Nat.le_trans h1 hMN,h2,h3⟩)⟩);exact ⟨h1.star,h1.kept⟩
theorem it_none {w w9:World} {F:Nat→Prop} {P Q R S:Ch} (h:Run w F w9 [P,Q,R,S]):Run w F w9 [P,Q,R,S,itC none 0 []]:=by
 have h1:Run w F w9 [itC none 0 [],P,Q,R,S]:=h.add (Kept.refl _ _) (Sl.nil _ _ _ _);exact h1.perm (List.perm_append_singleton (itC none 0 []) [P,Q,R,S]).symm
theorem co_work_none (w:World) (F:Nat→Prop) (N g:Nat) (a:CA) (x:Co) (id:Int) (q:Rq) (A:Option Addr) (m cp:Nat) (OC:Ch) (hl:a.ps.length=x.pls.length) (h:Star w F [starC (coL N g a x x.pls.length),OC]) (hx:x.at id=none) :
  Calls Tryz.prog 14 #[pV g,.int .i64 id,.agg (q.cells A m cp)] w (WkP N g OC w F q (rsErr q.kind 4) x):=by
 have hr0:=wk_start w F N g x.pls.length a x q A m cp OC h;have HV:=hI (at_none hl hx);have Hr0:=hI hr0;have Hl:=hI hl;obtain ⟨kind,tenant,col,uid,card,⟨ck,cv⟩,ops,token,most,ticks⟩:=q;simp only at *;clear hr0 hx hl h;have hc0:=(Hr0.out.blk 1 rfl).cell;go_enter Tryz.func14,Tryz.ntmps14;go_wp2_with (with_reducible refine stop_store (ty:=45) ?_);refine unheld ?_;refine gz14 ?_;intro w1 hb1 hk1
 have hr1:=Hr0.out.turn 0 rfl hb1 hk1;have Hr1:Hid (Run w F w1 [rsqB (w.heap.size+1) kind 0 0 0,rqB w.heap.size ⟨kind,tenant,col,uid,card,⟨ck,cv⟩,ops,token,most,ticks⟩ A m cp,starC (coL N g a x x.pls.length),OC]):=hI hr1;have hin1:Star w1 (fun b=>F b∨w.heap.size≤b) (coL N g a x x.pls.length):=Hr1.out.get (P:=starC (coL N g a x x.pls.length)) 2 rfl;have CA:=co_at w1 w1 _ N g a x x.pls.length id (Run.start hin1) Hl.out
 rw [HV.out] at CA;have CA:=hI CA;clear hr1 hb1 hk1 hc0 hin1;go_wp2_with fail;refine (CA.out).mono ?_;rintro e w2 ⟨rfl,e2⟩;obtain rfl:=e2.symm;have hca:=(Hr1.out.blk 0 rfl).cell;have hfa:=(Hr1.out.blk 0 rfl).frozen;have Hr5:Hid (Run w F _ [rsqB (w.heap.size+1) kind 4 0 0,rqB w.heap.size ⟨kind,tenant,col,uid,card,⟨ck,cv⟩,ops,token,most,ticks⟩ A m cp,starC (coL N g a x x.pls.length),OC]):=hI (Hr1.out.set 0 rfl 1 (.int .i64 4))
 go_wp2_with (with_reducible refine stop_store (ty:=45) ?_)
 refine unheld ?_;refine gz18 ?_;intro w9 hb9 hk9;have hr9:=Hr5.out.turn 0 rfl hb9 hk9;have Hb9:=hI hb9;have Hr9:=hI hr9;clear hb9 hk9 hr9 hca hfa
 repeat go_step
 refine gz16 ?_;exact ⟨none,0,rfl,wk_close Hl.out (by omega) (it_none Hr9.out)⟩
theorem co_work_dead (w:World) (F:Nat→Prop) (N g:Nat) (a:CA) (x:Co) (id:Int) (p:Pl) (q:Rq) (A:Option Addr) (m cp:Nat) (OC:Ch) (hl:a.ps.length=x.pls.length) (h:Star w F [starC (coL N g a x x.pls.length),OC]) (hx:x.at id=some p) (hp:p.alive=false) :
  Calls Tryz.prog 14 #[pV g,.int .i64 id,.agg (q.cells A m cp)] w (WkP N g OC w F q (rsErr q.kind 4) x):=by
 have hr0:=wk_start w F N g x.pls.length a x q A m cp OC h;obtain ⟨k,pa,rfl,hpk,hq,hv⟩:=at_some hl hx;have HV:=hI hv;have Hr0:=hI hr0;have Hl:=hI hl;obtain ⟨kind,tenant,col,uid,card,⟨ck,cv⟩,ops,token,most,ticks⟩:=q;simp only at *;have Hpk:=hI hpk;have Hq:=hI hq;have Hp:=hI hp;clear hr0 hx hl h hv hpk hq hp;have hc0:=(Hr0.out.blk 1 rfl).cell;go_enter Tryz.func14,Tryz.ntmps14
 go_wp2_with (with_reducible refine stop_store (ty:=45) ?_)
 refine unheld ?_;refine gz14 ?_;intro w1 hb1 hk1;have hr1:=Hr0.out.turn 0 rfl hb1 hk1;have Hr1:Hid (Run w F w1 [rsqB (w.heap.size+1) kind 0 0 0,rqB w.heap.size ⟨kind,tenant,col,uid,card,⟨ck,cv⟩,ops,token,most,ticks⟩ A m cp,starC (coL N g a x x.pls.length),OC]):=hI hr1;have hin1:Star w1 (fun b=>F b∨w.heap.size≤b) (coL N g a x x.pls.length):=Hr1.out.get (P:=starC (coL N g a x x.pls.length)) 2 rfl
 have CA:=co_at w1 w1 _ N g a x x.pls.length (k:Int) (Run.start hin1) Hl.out;rw [HV.out] at CA;have CA:=hI CA;clear hr1 hb1 hk1 hc0 hin1;go_wp2_with fail;refine (CA.out).mono ?_;rintro e w2 ⟨rfl,e2⟩;obtain rfl:=e2.symm;have hcp:w1.cell? ⟨pa.gp,4,none⟩=some (.bool false):=by
  have:=(pl_blk (Run.start (show Star w1 _ (coL N g a x x.pls.length) from Hr1.out.get (P:=starC (coL N g a x x.pls.length)) 2 rfl)) Hq.out Hpk.out).cell 4;rw [Hp.out] at this;exact this
 have hca:=(Hr1.out.blk 0 rfl).cell;have hfa:=(Hr1.out.blk 0 rfl).frozen;have Hr5:Hid (Run w F _ [rsqB (w.heap.size+1) kind 4 0 0,rqB w.heap.size ⟨kind,tenant,col,uid,card,⟨ck,cv⟩,ops,token,most,ticks⟩ A m cp,starC (coL N g a x x.pls.length),OC]):=hI (Hr1.out.set 0 rfl 1 (.int .i64 4));go_wp2_with (with_reducible refine stop_store (ty:=45) ?_);refine unheld ?_;refine gz18 ?_;intro w9 hb9 hk9;have hr9:=Hr5.out.turn 0 rfl hb9 hk9
 have Hb9:=hI hb9;have Hr9:=hI hr9;clear hb9 hk9 hr9 hca hfa hcp
 repeat go_step
 refine gz16 ?_;exact ⟨none,0,rfl,wk_close Hl.out (by omega) (it_none Hr9.out)⟩
end
section
open Go.RowKit
def wrRs (kind:Int) (x:Co) (p:Pl) (ops:List OpR) (ver:Bool):Rs:=⟨kind,(wrErr x p ops).1,if (wrErr x p ops).1=0 then x.counter+1 else 0,if ver=true then (if (wrErr x p ops).1=0 then x.counter+1 else 0) else 0,⟨#[]⟩,(wrErr x p ops).2,false,[]⟩
def wrCo (x:Co) (id:Int) (p:Pl) (ops:List OpR) (now:Bool):Co:=if (wrErr x p ops).1=0 then x.write id p ops now else x
theorem wrCo_len (x:Co) (id:Int) (p:Pl) (ops:List OpR) (now:Bool):(wrCo x id p ops now).pls.length=x.pls.length:=by
 unfold wrCo
 split
 ·simp [Co.write]
 ·rfl
theorem perm5 {α:Type} (a b c d e:α) : [a,b,c,d,e].Perm [b,d,a,c,e]:=(List.Perm.swap b a _).trans (List.Perm.cons b (List.perm_middle (l₁:=[a,c]) (l₂:=[e])))
theorem ops_lit {w w1:World} {F:Nat→Prop} {Ps:List Ch} (o:OpR) (h:Run w F w1 Ps):Run w F (w1.alloc (.cells #[.bool o.del,.string o.uid,.string o.card,.int .i64 o.cond.kind,.int .i64 o.cond.version] 58)) (opsC (some ⟨w1.heap.size,0,none⟩) 1 [o]::Ps) :=
 (h.addBlk #[.bool o.del,.string o.uid,.string o.card,.int .i64 o.cond.kind,.int .i64 o.cond.version] 58).map 0 rfl (fun G h=>(Sl.lit w1 #[.bool o.del,.string o.uid,.string o.card,.int .i64 o.cond.kind,.int .i64 o.cond.version] 58 5 1 _ rfl rfl).imp (fun b _ e=>by have e:b=w1.heap.size:=e;rw [e];exact h.1))
theorem co_work_put (w:World) (F:Nat→Prop) (N g:Nat) (a:CA) (x:Co) (id:Int) (p:Pl) (q:Rq) (A:Option Addr) (m cp:Nat) (OC:Ch) (hl:a.ps.length=x.pls.length) (h:Star w F [starC (coL N g a x x.pls.length),OC]) (hx:x.at id=some p) (hp:p.alive=true) (hok:x.Ok) (hN:N≤80000) (hcard:q.card.size≤1000000) (hkind:q.kind=4) :
  Calls Tryz.prog 14 #[pV g,.int .i64 id,.agg (q.cells A m cp)] w (WkP N g OC w F q (wrRs 4 x p [⟨false,q.uid,q.card,q.cond⟩] true) (wrCo x id p [⟨false,q.uid,q.card,q.cond⟩] true)):=by
 have hr0:=wk_start w F N g x.pls.length a x q A m cp OC h;obtain ⟨k,pa,rfl,hpk,hq,hv⟩:=at_some hl hx;have HV:=hI hv;have Hr0:=hI hr0;have Hl:=hI hl;obtain ⟨kind,tenant,col,uid,card,⟨ck,cv⟩,ops,token,most,ticks⟩:=q;simp only at *;have Hpk:=hI hpk;have Hq:=hI hq;have Hp:=hI hp;subst hkind;clear hr0 hx hl h hv hpk hq hp;have hc0:=(Hr0.out.blk 1 rfl).cell;go_enter Tryz.func14,Tryz.ntmps14
 go_wp2_with (with_reducible refine stop_store (ty:=45) ?_)
 refine unheld ?_;refine gz14 ?_;intro w1 hb1 hk1;have hr1:=Hr0.out.turn 0 rfl hb1 hk1;have Hr1:Hid (Run w F w1 [rsqB (w.heap.size+1) 4 0 0 0,rqB w.heap.size ⟨4,tenant,col,uid,card,⟨ck,cv⟩,ops,token,most,ticks⟩ A m cp,starC (coL N g a x x.pls.length),OC]):=hI hr1;have hin1:Star w1 (fun b=>F b∨w.heap.size≤b) (coL N g a x x.pls.length):=Hr1.out.get (P:=starC (coL N g a x x.pls.length)) 2 rfl;have CA:=co_at w1 w1 _ N g a x x.pls.length (k:Int) (Run.start hin1) Hl.out
 rw [HV.out] at CA;have CA:=hI CA;clear hr1 hb1 hk1 hc0 hin1;go_wp2_with fail;refine (CA.out).mono ?_;rintro e w2 ⟨rfl,e2⟩;obtain rfl:=e2.symm;have hst1:Star w1 (fun b=>F b∨w.heap.size≤b) (coL N g a x x.pls.length):=Hr1.out.get (P:=starC (coL N g a x x.pls.length)) 2 rfl;have hcp:=(pl_blk (Run.start hst1) Hq.out Hpk.out).cell;rw [Hp.out] at hcp;have hcq:=(Hr1.out.blk 1 rfl).cell;have hr3:=(ops_lit (⟨false,uid,card,⟨ck,cv⟩⟩:OpR) Hr1.out).perm (perm5 _ _ _ _ _)
 have hr4:=Run.unflat (Qs:=[rsqB (w.heap.size+1) 4 0 0 0,starC (coL N g a x x.pls.length),opsC (some ⟨w1.heap.size,0,none⟩) 1 [(⟨false,uid,card,⟨ck,cv⟩⟩:OpR)]]) hr3;obtain ⟨G,_,hin,hup⟩:=hr4.inner 0 rfl;have CW:=hI (co_write _ _ G N g x.pls.length k (w.heap.size+1) 1 1 a pa x p [(⟨false,uid,card,⟨ck,cv⟩⟩:OpR)] (some ⟨w1.heap.size,0,none⟩) 4 true (opsC (some ⟨w1.heap.size,0,none⟩) 1 [(⟨false,uid,card,⟨ck,cv⟩⟩:OpR)]) (fun _ _ h=>h) hin Hl.out Hq.out Hpk.out hok hN (by omega) (by omega) (fun o ho=>by rw [List.mem_singleton.1 ho];first|exact hcard|exact Nat.zero_le _))
 have Hup:=hI hup;clear hr3 hr4 hin hup hst1;go_wp2_with fail;refine (CW.out).mono ?_;rintro e w3 ⟨rfl,hr5⟩;have hr6:=((Run.flat (Qs:=[_,_,_]) (Hup.out w3 _ hr5)).drop 2).perm (List.Perm.cons _ (List.Perm.swap _ _ _));have Hr6:Hid (Run w F w3 [rsqB (w.heap.size+1) 4 (wrErr x p [(⟨false,uid,card,⟨ck,cv⟩⟩:OpR)]).1 (if (wrErr x p [(⟨false,uid,card,⟨ck,cv⟩⟩:OpR)]).1=0 then x.counter+1 else 0) (wrErr x p [(⟨false,uid,card,⟨ck,cv⟩⟩:OpR)]).2,rqB w.heap.size ⟨4,tenant,col,uid,card,⟨ck,cv⟩,ops,token,most,ticks⟩ A m cp,starC (coL (N+1) g a (wrCo x k p [(⟨false,uid,card,⟨ck,cv⟩⟩:OpR)] true) x.pls.length),OC]):=hI hr6
 clear hr5 hr6 Hup CW hcp hcq;have hca:=(Hr6.out.blk 0 rfl).cell;have hfa:=(Hr6.out.blk 0 rfl).frozen;have Hr5:=hI (Hr6.out.set 0 rfl 3 (.int .i64 (if (wrErr x p [⟨false,uid,card,⟨ck,cv⟩⟩]).1=0 then x.counter+1 else 0)));obtain ⟨tk,htk⟩:∃ t,(if (wrErr x p [⟨false,uid,card,⟨ck,cv⟩⟩]).1=0 then x.counter+1 else 0)=t:=⟨_,rfl⟩;rw [htk] at hca Hr5;have Htk:=hI htk;clear htk;go_wp2_with (with_reducible refine stop_store (ty:=45) ?_)
 refine unheld ?_;refine gz18 ?_;intro w9 hb9 hk9;have hr9:=Hr5.out.turn 0 rfl hb9 hk9;have Hb9:=hI hb9;have Hr9:=hI hr9;clear hb9 hk9 hr9 hca hfa
 repeat go_step
 refine gz16 ?_;refine ⟨none,0,?_,wk_close (M:=N+1) (x:=wrCo x k p [⟨false,uid,card,⟨ck,cv⟩⟩] true) (by rw [wrCo_len];exact Hl.out) (by omega) (it_none (by rw [wrCo_len];exact Hr9.out))⟩
 simp only [wrRs];rw [Htk.out];rfl
theorem co_work_del (w:World) (F:Nat→Prop) (N g:Nat) (a:CA) (x:Co) (id:Int) (p:Pl) (q:Rq) (A:Option Addr) (m cp:Nat) (OC:Ch) (hl:a.ps.length=x.pls.length) (h:Star w F [starC (coL N g a x x.pls.length),OC]) (hx:x.at id=some p) (hp:p.alive=true) (hok:x.Ok) (hN:N≤80000) (hkind:q.kind=5) :
  Calls Tryz.prog 14 #[pV g,.int .i64 id,.agg (q.cells A m cp)] w (WkP N g OC w F q (wrRs 5 x p [⟨true,q.uid,⟨#[]⟩,q.cond⟩] false) (wrCo x id p [⟨true,q.uid,⟨#[]⟩,q.cond⟩] true)):=by
 have hr0:=wk_start w F N g x.pls.length a x q A m cp OC h;obtain ⟨k,pa,rfl,hpk,hq,hv⟩:=at_some hl hx;have HV:=hI hv;have Hr0:=hI hr0;have Hl:=hI hl;obtain ⟨kind,tenant,col,uid,card,⟨ck,cv⟩,ops,token,most,ticks⟩:=q;simp only at *;have Hpk:=hI hpk;have Hq:=hI hq;have Hp:=hI hp;subst hkind;clear hr0 hx hl h hv hpk hq hp;have hc0:=(Hr0.out.blk 1 rfl).cell;go_enter Tryz.func14,Tryz.ntmps14
 go_wp2_with (with_reducible refine stop_store (ty:=45) ?_)
 refine unheld ?_;refine gz14 ?_;intro w1 hb1 hk1;have hr1:=Hr0.out.turn 0 rfl hb1 hk1;have Hr1:Hid (Run w F w1 [rsqB (w.heap.size+1) 5 0 0 0,rqB w.heap.size ⟨5,tenant,col,uid,card,⟨ck,cv⟩,ops,token,most,ticks⟩ A m cp,starC (coL N g a x x.pls.length),OC]):=hI hr1;have hin1:Star w1 (fun b=>F b∨w.heap.size≤b) (coL N g a x x.pls.length):=Hr1.out.get (P:=starC (coL N g a x x.pls.length)) 2 rfl;have CA:=co_at w1 w1 _ N g a x x.pls.length (k:Int) (Run.start hin1) Hl.out
 rw [HV.out] at CA;have CA:=hI CA;clear hr1 hb1 hk1 hc0 hin1;go_wp2_with fail;refine (CA.out).mono ?_;rintro e w2 ⟨rfl,e2⟩;obtain rfl:=e2.symm;have hst1:Star w1 (fun b=>F b∨w.heap.size≤b) (coL N g a x x.pls.length):=Hr1.out.get (P:=starC (coL N g a x x.pls.length)) 2 rfl;have hcp:=(pl_blk (Run.start hst1) Hq.out Hpk.out).cell;rw [Hp.out] at hcp;have hcq:=(Hr1.out.blk 1 rfl).cell;have hr3:=(ops_lit (⟨true,uid,⟨#[]⟩,⟨ck,cv⟩⟩:OpR) Hr1.out).perm (perm5 _ _ _ _ _)
 have hr4:=Run.unflat (Qs:=[rsqB (w.heap.size+1) 5 0 0 0,starC (coL N g a x x.pls.length),opsC (some ⟨w1.heap.size,0,none⟩) 1 [(⟨true,uid,⟨#[]⟩,⟨ck,cv⟩⟩:OpR)]]) hr3;obtain ⟨G,_,hin,hup⟩:=hr4.inner 0 rfl;have CW:=hI (co_write _ _ G N g x.pls.length k (w.heap.size+1) 1 1 a pa x p [(⟨true,uid,⟨#[]⟩,⟨ck,cv⟩⟩:OpR)] (some ⟨w1.heap.size,0,none⟩) 5 true (opsC (some ⟨w1.heap.size,0,none⟩) 1 [(⟨true,uid,⟨#[]⟩,⟨ck,cv⟩⟩:OpR)]) (fun _ _ h=>h) hin Hl.out Hq.out Hpk.out hok hN (by omega) (by omega) (fun o ho=>by rw [List.mem_singleton.1 ho];first|exact hcard|exact Nat.zero_le _))
 have Hup:=hI hup;clear hr3 hr4 hin hup hst1;go_wp2_with fail;refine (CW.out).mono ?_;rintro e w3 ⟨rfl,hr5⟩;have hr6:=((Run.flat (Qs:=[_,_,_]) (Hup.out w3 _ hr5)).drop 2).perm (List.Perm.cons _ (List.Perm.swap _ _ _));have Hr6:Hid (Run w F w3 [rsqB (w.heap.size+1) 5 (wrErr x p [(⟨true,uid,⟨#[]⟩,⟨ck,cv⟩⟩:OpR)]).1 (if (wrErr x p [(⟨true,uid,⟨#[]⟩,⟨ck,cv⟩⟩:OpR)]).1=0 then x.counter+1 else 0) (wrErr x p [(⟨true,uid,⟨#[]⟩,⟨ck,cv⟩⟩:OpR)]).2,rqB w.heap.size ⟨5,tenant,col,uid,card,⟨ck,cv⟩,ops,token,most,ticks⟩ A m cp,starC (coL (N+1) g a (wrCo x k p [(⟨true,uid,⟨#[]⟩,⟨ck,cv⟩⟩:OpR)] true) x.pls.length),OC]):=hI hr6
 clear hr5 hr6 Hup CW hcp hcq;have hca:=(Hr6.out.blk 0 rfl).cell;have hfa:=(Hr6.out.blk 0 rfl).frozen;obtain ⟨tk,htk⟩:∃ t,(if (wrErr x p [⟨true,uid,⟨#[]⟩,⟨ck,cv⟩⟩]).1=0 then x.counter+1 else 0)=t:=⟨_,rfl⟩;rw [htk] at hca Hr6;have Htk:=hI htk;have Hr5:=Hr6;clear htk;go_wp2_with (with_reducible refine stop_store (ty:=45) ?_);refine unheld ?_;refine gz18 ?_;intro w9 hb9 hk9;have hr9:=Hr5.out.turn 0 rfl hb9 hk9
 have Hb9:=hI hb9;have Hr9:=hI hr9;clear hb9 hk9 hr9 hca hfa
 repeat go_step
 refine gz16 ?_;refine ⟨none,0,?_,wk_close (M:=N+1) (x:=wrCo x k p [⟨true,uid,⟨#[]⟩,⟨ck,cv⟩⟩] true) (by rw [wrCo_len];exact Hl.out) (by omega) (it_none (by rw [wrCo_len];exact Hr9.out))⟩
 simp only [wrRs];rw [Htk.out];rfl
theorem co_work_batch (w:World) (F:Nat→Prop) (N g:Nat) (a:CA) (x:Co) (id:Int) (p:Pl) (q:Rq) (A:Option Addr) (m cp:Nat) (OC:Ch) (hl:a.ps.length=x.pls.length) (h:Star w F [starC (coL N g a x x.pls.length),OC]) (hx:x.at id=some p) (hp:p.alive=true) (hok:x.Ok) (hN:N≤80000) (hm:m≤1000) (hmc:m≤cp) (hcards:∀ o∈q.ops,o.card.size≤1000000) (hkind:q.kind=7) (hOC:∀ w G,OC.p w G→Sl w G 5 A m (q.ops.flatMap OpR.cells)) :
  Calls Tryz.prog 14 #[pV g,.int .i64 id,.agg (q.cells A m cp)] w (WkP N g OC w F q (wrRs 7 x p q.ops false) (wrCo x id p q.ops false)):=by
 have HOC:=hI hOC;clear hOC;have hr0:=wk_start w F N g x.pls.length a x q A m cp OC h;obtain ⟨k,pa,rfl,hpk,hq,hv⟩:=at_some hl hx;have HV:=hI hv;have Hr0:=hI hr0;have Hl:=hI hl;obtain ⟨kind,tenant,col,uid,card,⟨ck,cv⟩,ops,token,most,ticks⟩:=q;simp only at *;have Hpk:=hI hpk;have Hq:=hI hq;have Hp:=hI hp;subst hkind;clear hr0 hx hl h hv hpk hq hp;have hc0:=(Hr0.out.blk 1 rfl).cell
 go_enter Tryz.func14,Tryz.ntmps14
 go_wp2_with (with_reducible refine stop_store (ty:=45) ?_)
 refine unheld ?_;refine gz14 ?_;intro w1 hb1 hk1;have hr1:=Hr0.out.turn 0 rfl hb1 hk1;have Hr1:Hid (Run w F w1 [rsqB (w.heap.size+1) 7 0 0 0,rqB w.heap.size ⟨7,tenant,col,uid,card,⟨ck,cv⟩,ops,token,most,ticks⟩ A m cp,starC (coL N g a x x.pls.length),OC]):=hI hr1;have hin1:Star w1 (fun b=>F b∨w.heap.size≤b) (coL N g a x x.pls.length):=Hr1.out.get (P:=starC (coL N g a x x.pls.length)) 2 rfl;have CA:=co_at w1 w1 _ N g a x x.pls.length (k:Int) (Run.start hin1) Hl.out
 rw [HV.out] at CA;have CA:=hI CA;clear hr1 hb1 hk1 hc0 hin1;go_wp2_with fail;refine (CA.out).mono ?_;rintro e w2 ⟨rfl,e2⟩;obtain rfl:=e2.symm;have hst1:Star w1 (fun b=>F b∨w.heap.size≤b) (coL N g a x x.pls.length):=Hr1.out.get (P:=starC (coL N g a x x.pls.length)) 2 rfl;have hcp:=(pl_blk (Run.start hst1) Hq.out Hpk.out).cell;rw [Hp.out] at hcp;have hcq:=(Hr1.out.blk 1 rfl).cell;have hr3:=Hr1.out.perm (List.Perm.cons _ ((List.Perm.swap _ _ _).trans (List.Perm.cons _ (List.Perm.swap _ _ _))))
 have hr4:=Run.unflat (Qs:=[rsqB (w.heap.size+1) 7 0 0 0,starC (coL N g a x x.pls.length),OC]) hr3;obtain ⟨G,_,hin,hup⟩:=hr4.inner 0 rfl;have CW:=hI (co_write _ _ G N g x.pls.length k (w.heap.size+1) m cp a pa x p ops A 7 false OC HOC.out hin Hl.out Hq.out Hpk.out hok hN hm hmc hcards);have Hup:=hI hup;clear hr3 hr4 hin hup hst1;go_wp2_with fail;refine (CW.out).mono ?_;rintro e w3 ⟨rfl,hr5⟩
 have hr6:=(Run.flat (Qs:=[_,_,_]) (Hup.out w3 _ hr5)).perm (List.Perm.cons _ ((List.Perm.cons _ (List.Perm.swap _ _ _)).trans (List.Perm.swap _ _ _)));have Hr6:Hid (Run w F w3 [rsqB (w.heap.size+1) 7 (wrErr x p ops).1 (if (wrErr x p ops).1=0 then x.counter+1 else 0) (wrErr x p ops).2,rqB w.heap.size ⟨7,tenant,col,uid,card,⟨ck,cv⟩,ops,token,most,ticks⟩ A m cp,starC (coL (N+1) g a (wrCo x k p ops false) x.pls.length),OC]):=hI hr6
 clear hr5 hr6 Hup CW hcp hcq;have hca:=(Hr6.out.blk 0 rfl).cell;have hfa:=(Hr6.out.blk 0 rfl).frozen;obtain ⟨tk,htk⟩:∃ t,(if (wrErr x p ops).1=0 then x.counter+1 else 0)=t:=⟨_,rfl⟩;rw [htk] at hca Hr6;have Htk:=hI htk;have Hr5:=Hr6;clear htk;go_wp2_with (with_reducible refine stop_store (ty:=45) ?_);refine unheld ?_;refine gz18 ?_;intro w9 hb9 hk9;have hr9:=Hr5.out.turn 0 rfl hb9 hk9;have Hb9:=hI hb9
 have Hr9:=hI hr9;clear hb9 hk9 hr9 hca hfa
 repeat go_step
 refine gz16 ?_;refine ⟨none,0,?_,wk_close (M:=N+1) (x:=wrCo x k p ops false) (by rw [wrCo_len];exact Hl.out) (by omega) (it_none (by rw [wrCo_len];exact Hr9.out))⟩
 simp only [wrRs];rw [Htk.out];rfl
end
section
open Go.RowKit
def getRs (p:Pl) (uid:ByteArray):Rs:=match p.col.get uid with|some v=>⟨6,0,0,v.version,v.text,0,false,[]⟩|none=>rsErr 6 4
def waitRs (p:Pl) (token:Int):Rs:=if p.col.latest≤token then rsErr 9 15 else ⟨9,0,p.col.latest,0,⟨#[]⟩,0,false,[]⟩
theorem co_work_get0 (w:World) (F:Nat→Prop) (N g:Nat) (a:CA) (x:Co) (id:Int) (p:Pl) (q:Rq) (A:Option Addr) (m cp:Nat) (OC:Ch) (hl:a.ps.length=x.pls.length) (h:Star w F [starC (coL N g a x x.pls.length),OC]) (hx:x.at id=some p) (hp:p.alive=true) (hkind:q.kind=6) (hgv:p.col.get q.uid=none) :
  Calls Tryz.prog 14 #[pV g,.int .i64 id,.agg (q.cells A m cp)] w (WkP N g OC w F q (rsErr 6 4) x):=by
 have hr0:=wk_start w F N g x.pls.length a x q A m cp OC h;obtain ⟨k,pa,rfl,hpk,hq,hv⟩:=at_some hl hx;have HV:=hI hv;have Hr0:=hI hr0;have Hl:=hI hl;obtain ⟨kind,tenant,col,uid,card,⟨ck,cv⟩,ops,token,most,ticks⟩:=q;simp only at *;have Hpk:=hI hpk;have Hq:=hI hq;have Hp:=hI hp;subst hkind;clear hr0 hx hl h hv hpk hq hp;have hc0:=(Hr0.out.blk 1 rfl).cell;go_enter Tryz.func14,Tryz.ntmps14
 go_wp2_with (with_reducible refine stop_store (ty:=45) ?_)
 refine unheld ?_;refine gz14 ?_;intro w1 hb1 hk1;have hr1:=Hr0.out.turn 0 rfl hb1 hk1;have Hr1:Hid (Run w F w1 [rsqB (w.heap.size+1) 6 0 0 0,rqB w.heap.size ⟨6,tenant,col,uid,card,⟨ck,cv⟩,ops,token,most,ticks⟩ A m cp,starC (coL N g a x x.pls.length),OC]):=hI hr1;have hin1:Star w1 (fun b=>F b∨w.heap.size≤b) (coL N g a x x.pls.length):=Hr1.out.get (P:=starC (coL N g a x x.pls.length)) 2 rfl;have CA:=co_at w1 w1 _ N g a x x.pls.length (k:Int) (Run.start hin1) Hl.out
 rw [HV.out] at CA;have CA:=hI CA;clear hr1 hb1 hk1 hc0 hin1;go_wp2_with fail;refine (CA.out).mono ?_;rintro e w2 ⟨rfl,e2⟩;obtain rfl:=e2.symm;have hst1:Star w1 (fun b=>F b∨w.heap.size≤b) (coL N g a x x.pls.length):=Hr1.out.get (P:=starC (coL N g a x x.pls.length)) 2 rfl;have hcp:=(pl_blk (Run.start hst1) Hq.out Hpk.out).cell;rw [Hp.out] at hcp;have hcq:=(Hr1.out.blk 1 rfl).cell;have CG:=cl_get w1.drew _ pa.gc p.col uid (Star.get (P:=clC pa.gc p.col) (pl_get ((Run.start hst1).drew) Hq.out Hpk.out) 1 rfl)
 unfold Reads at CG;rw [hgv] at CG;simp only [tvr,ttx,Option.isSome] at CG;have CG:=hI CG;clear hst1 hgv;go_wp2;refine gz59 ?_;refine gz2 ?_
 with_reducible refine seq_move (by decide) (fun K hK=>?_)
 go_simp;refine up_enter ((CG.out).mono ?_);rintro e w2 ⟨rfl,hk2⟩;have Hr2:=hI (Hr1.out.drew.pure hk2);refine ⟨_,rfl,hK _ _ ?_⟩;clear hK K CG hk2 hcp hcq;refine gz2 ?_;refine gz13 ?_;have hca:=(Hr2.out.blk 0 rfl).cell;have hfa:=(Hr2.out.blk 0 rfl).frozen;have Hr5:Hid (Run w F _ [rsqB (w.heap.size+1) 6 4 0 0,rqB w.heap.size ⟨6,tenant,col,uid,card,⟨ck,cv⟩,ops,token,most,ticks⟩ A m cp,starC (coL N g a x x.pls.length),OC]):=hI (Hr2.out.set 0 rfl 1 (.int .i64 4))
 go_wp2_with (with_reducible refine stop_store (ty:=45) ?_)
 refine unheld ?_;refine gz18 ?_;intro w9 hb9 hk9;have hr9:=Hr5.out.turn 0 rfl hb9 hk9;have Hb9:=hI hb9;have Hr9:=hI hr9;clear hb9 hk9 hr9 hca hfa
 repeat go_step
 refine gz16 ?_;exact cz43
theorem co_work_get1 (w:World) (F:Nat→Prop) (N g:Nat) (a:CA) (x:Co) (id:Int) (p:Pl) (q:Rq) (A:Option Addr) (m cp:Nat) (OC:Ch) (v:Crd) (hl:a.ps.length=x.pls.length) (h:Star w F [starC (coL N g a x x.pls.length),OC]) (hx:x.at id=some p) (hp:p.alive=true) (hkind:q.kind=6) (hgv:p.col.get q.uid=some v) :
  Calls Tryz.prog 14 #[pV g,.int .i64 id,.agg (q.cells A m cp)] w (WkP N g OC w F q ⟨6,0,0,v.version,v.text,0,false,[]⟩ x):=by
 have hr0:=wk_start w F N g x.pls.length a x q A m cp OC h;obtain ⟨k,pa,rfl,hpk,hq,hv⟩:=at_some hl hx;have HV:=hI hv;have Hr0:=hI hr0;have Hl:=hI hl;obtain ⟨kind,tenant,col,uid,card,⟨ck,cv⟩,ops,token,most,ticks⟩:=q;simp only at *;have Hpk:=hI hpk;have Hq:=hI hq;have Hp:=hI hp;subst hkind;clear hr0 hx hl h hv hpk hq hp;have hc0:=(Hr0.out.blk 1 rfl).cell;go_enter Tryz.func14,Tryz.ntmps14
 go_wp2_with (with_reducible refine stop_store (ty:=45) ?_)
 refine unheld ?_;refine gz14 ?_;intro w1 hb1 hk1;have hr1:=Hr0.out.turn 0 rfl hb1 hk1;have Hr1:Hid (Run w F w1 [rsqB (w.heap.size+1) 6 0 0 0,rqB w.heap.size ⟨6,tenant,col,uid,card,⟨ck,cv⟩,ops,token,most,ticks⟩ A m cp,starC (coL N g a x x.pls.length),OC]):=hI hr1;have hin1:Star w1 (fun b=>F b∨w.heap.size≤b) (coL N g a x x.pls.length):=Hr1.out.get (P:=starC (coL N g a x x.pls.length)) 2 rfl;have CA:=co_at w1 w1 _ N g a x x.pls.length (k:Int) (Run.start hin1) Hl.out
 rw [HV.out] at CA;have CA:=hI CA;clear hr1 hb1 hk1 hc0 hin1;go_wp2_with fail;refine (CA.out).mono ?_;rintro e w2 ⟨rfl,e2⟩;obtain rfl:=e2.symm;have hst1:Star w1 (fun b=>F b∨w.heap.size≤b) (coL N g a x x.pls.length):=Hr1.out.get (P:=starC (coL N g a x x.pls.length)) 2 rfl;have hcp:=(pl_blk (Run.start hst1) Hq.out Hpk.out).cell;rw [Hp.out] at hcp;have hcq:=(Hr1.out.blk 1 rfl).cell;have CG:=cl_get w1.drew _ pa.gc p.col uid (Star.get (P:=clC pa.gc p.col) (pl_get ((Run.start hst1).drew) Hq.out Hpk.out) 1 rfl)
 unfold Reads at CG;rw [hgv] at CG;simp only [tvr,ttx,Option.isSome] at CG;have CG:=hI CG;clear hst1 hgv;go_wp2;refine gz59 ?_;refine gz2 ?_
 with_reducible refine seq_move (by decide) (fun K hK=>?_)
 go_simp;refine up_enter ((CG.out).mono ?_);rintro e w2 ⟨rfl,hk2⟩;have Hr2:=hI (Hr1.out.drew.pure hk2);refine ⟨_,rfl,hK _ _ ?_⟩;clear hK K CG hk2 hcp hcq;refine gz2 ?_;refine gz13 ?_;have hca:=(Hr2.out.blk 0 rfl).cell;have hfa:=(Hr2.out.blk 0 rfl).frozen;have Hr5:=hI ((Hr2.out.set 0 rfl 3 (.int .i64 v.version)).set 0 rfl 4 (.string v.text));go_wp2_with (with_reducible refine stop_store (ty:=45) ?_)
 refine unheld ?_;refine gz18 ?_;intro w9 hb9 hk9;have hr9:=Hr5.out.turn 0 rfl hb9 hk9;have Hb9:=hI hb9;have Hr9:=hI hr9;clear hb9 hk9 hr9 hca hfa
 repeat go_step
 refine gz16 ?_;exact cz43
theorem co_work_get (w:World) (F:Nat→Prop) (N g:Nat) (a:CA) (x:Co) (id:Int) (p:Pl) (q:Rq) (A:Option Addr) (m cp:Nat) (OC:Ch) (hl:a.ps.length=x.pls.length) (h:Star w F [starC (coL N g a x x.pls.length),OC]) (hx:x.at id=some p) (hp:p.alive=true) (hkind:q.kind=6) :
  Calls Tryz.prog 14 #[pV g,.int .i64 id,.agg (q.cells A m cp)] w (WkP N g OC w F q (getRs p q.uid) x):=by
 unfold getRs;cases hv:p.col.get q.uid with
 | none=>exact co_work_get0 w F N g a x id p q A m cp OC hl h hx hp hkind hv
 | some v=>exact co_work_get1 w F N g a x id p q A m cp OC v hl h hx hp hkind hv
theorem co_work_wait0 (w:World) (F:Nat→Prop) (N g:Nat) (a:CA) (x:Co) (id:Int) (p:Pl) (q:Rq) (A:Option Addr) (m cp:Nat) (OC:Ch) (hl:a.ps.length=x.pls.length) (h:Star w F [starC (coL N g a x x.pls.length),OC]) (hx:x.at id=some p) (hp:p.alive=true) (hkind:q.kind=9) (ht:(p.col.latest≤q.token)=True) :
  Calls Tryz.prog 14 #[pV g,.int .i64 id,.agg (q.cells A m cp)] w (WkP N g OC w F q (rsErr 9 15) x):=by
 have hr0:=wk_start w F N g x.pls.length a x q A m cp OC h;obtain ⟨k,pa,rfl,hpk,hq,hv⟩:=at_some hl hx;have HV:=hI hv;have Hr0:=hI hr0;have Hl:=hI hl;obtain ⟨kind,tenant,col,uid,card,⟨ck,cv⟩,ops,token,most,ticks⟩:=q;simp only at *;have Hpk:=hI hpk;have Hq:=hI hq;have Hp:=hI hp;subst hkind;clear hr0 hx hl h hv hpk hq hp;have hc0:=(Hr0.out.blk 1 rfl).cell;go_enter Tryz.func14,Tryz.ntmps14
 go_wp2_with (with_reducible refine stop_store (ty:=45) ?_)
 refine unheld ?_;refine gz14 ?_;intro w1 hb1 hk1;have hr1:=Hr0.out.turn 0 rfl hb1 hk1;have Hr1:Hid (Run w F w1 [rsqB (w.heap.size+1) 9 0 0 0,rqB w.heap.size ⟨9,tenant,col,uid,card,⟨ck,cv⟩,ops,token,most,ticks⟩ A m cp,starC (coL N g a x x.pls.length),OC]):=hI hr1;have hin1:Star w1 (fun b=>F b∨w.heap.size≤b) (coL N g a x x.pls.length):=Hr1.out.get (P:=starC (coL N g a x x.pls.length)) 2 rfl;have CA:=co_at w1 w1 _ N g a x x.pls.length (k:Int) (Run.start hin1) Hl.out
 rw [HV.out] at CA;have CA:=hI CA;clear hr1 hb1 hk1 hc0 hin1;go_wp2_with fail;refine (CA.out).mono ?_;rintro e w2 ⟨rfl,e2⟩;obtain rfl:=e2.symm;have hst1:Star w1 (fun b=>F b∨w.heap.size≤b) (coL N g a x x.pls.length):=Hr1.out.get (P:=starC (coL N g a x x.pls.length)) 2 rfl;have hcp:=(pl_blk (Run.start hst1) Hq.out Hpk.out).cell;rw [Hp.out] at hcp;have hcq:=(Hr1.out.blk 1 rfl).cell;have hcl0:=(pl_blk (Run.start hst1) Hq.out Hpk.out).cell
 have CL:=fun (w2:World) (hk:Pure w1 w2)=>cl_latest w2 _ pa.gc p.col (Star.get (P:=clC pa.gc p.col) (pl_get ((Run.start hst1).pure hk) Hq.out Hpk.out) 1 rfl);have CD:=hI (CL w1.drew (Kept.refl _ _).drew);have CL:=hI CL;clear hst1 hcl0;go_wp2;have hct:w1.cell? ⟨w.heap.size,8,none⟩=some (.int .i64 token):=hcq 8;refine gz62 ?_;refine gz4 ?_;refine gz2 ?_
 with_reducible refine seq_move (by decide) (fun K hK=>?_)
 go_simp;refine up_enter ((CD.out).mono ?_);rintro e w2 ⟨rfl,e2⟩;obtain rfl:=e2.symm;refine ⟨_,rfl,hct,hK _ _ ?_⟩;clear hK K CD;refine gz4 ?_;refine gz2 ?_;refine gz13 ?_;have hca:=(Hr1.out.blk 0 rfl).cell;have hfa:=(Hr1.out.blk 0 rfl).frozen;have Hr5:Hid (Run w F _ [rsqB (w.heap.size+1) 9 15 0 0,rqB w.heap.size ⟨9,tenant,col,uid,card,⟨ck,cv⟩,ops,token,most,ticks⟩ A m cp,starC (coL N g a x x.pls.length),OC]):=hI (Hr1.out.set 0 rfl 1 (.int .i64 15)).drew
 clear hcp hcq;go_wp2_with (with_reducible refine stop_store (ty:=45) ?_);refine unheld ?_;refine gz18 ?_;intro w9 hb9 hk9;have hr9:=Hr5.out.turn 0 rfl hb9 hk9;have Hb9:=hI hb9;have Hr9:=hI hr9;clear hb9 hk9 hr9 hca hfa
 repeat go_step
 refine gz16 ?_;exact cz43
theorem co_work_wait1 (w:World) (F:Nat→Prop) (N g:Nat) (a:CA) (x:Co) (id:Int) (p:Pl) (q:Rq) (A:Option Addr) (m cp:Nat) (OC:Ch) (hl:a.ps.length=x.pls.length) (h:Star w F [starC (coL N g a x x.pls.length),OC]) (hx:x.at id=some p) (hp:p.alive=true) (hkind:q.kind=9) (ht:(p.col.latest≤q.token)=False) :
  Calls Tryz.prog 14 #[pV g,.int .i64 id,.agg (q.cells A m cp)] w (WkP N g OC w F q ⟨9,0,p.col.latest,0,⟨#[]⟩,0,false,[]⟩ x):=by
 have hr0:=wk_start w F N g x.pls.length a x q A m cp OC h;obtain ⟨k,pa,rfl,hpk,hq,hv⟩:=at_some hl hx;have HV:=hI hv;have Hr0:=hI hr0;have Hl:=hI hl;obtain ⟨kind,tenant,col,uid,card,⟨ck,cv⟩,ops,token,most,ticks⟩:=q;simp only at *;have Hpk:=hI hpk;have Hq:=hI hq;have Hp:=hI hp;subst hkind;clear hr0 hx hl h hv hpk hq hp;have hc0:=(Hr0.out.blk 1 rfl).cell;go_enter Tryz.func14,Tryz.ntmps14
 go_wp2_with (with_reducible refine stop_store (ty:=45) ?_)
 refine unheld ?_;refine gz14 ?_;intro w1 hb1 hk1;have hr1:=Hr0.out.turn 0 rfl hb1 hk1;have Hr1:Hid (Run w F w1 [rsqB (w.heap.size+1) 9 0 0 0,rqB w.heap.size ⟨9,tenant,col,uid,card,⟨ck,cv⟩,ops,token,most,ticks⟩ A m cp,starC (coL N g a x x.pls.length),OC]):=hI hr1;have hin1:Star w1 (fun b=>F b∨w.heap.size≤b) (coL N g a x x.pls.length):=Hr1.out.get (P:=starC (coL N g a x x.pls.length)) 2 rfl;have CA:=co_at w1 w1 _ N g a x x.pls.length (k:Int) (Run.start hin1) Hl.out
 rw [HV.out] at CA;have CA:=hI CA;clear hr1 hb1 hk1 hc0 hin1;go_wp2_with fail;refine (CA.out).mono ?_;rintro e w2 ⟨rfl,e2⟩;obtain rfl:=e2.symm;have hst1:Star w1 (fun b=>F b∨w.heap.size≤b) (coL N g a x x.pls.length):=Hr1.out.get (P:=starC (coL N g a x x.pls.length)) 2 rfl;have hcp:=(pl_blk (Run.start hst1) Hq.out Hpk.out).cell;rw [Hp.out] at hcp;have hcq:=(Hr1.out.blk 1 rfl).cell;have hcl0:=(pl_blk (Run.start hst1) Hq.out Hpk.out).cell
 have CL:=fun (w2:World) (hk:Pure w1 w2)=>cl_latest w2 _ pa.gc p.col (Star.get (P:=clC pa.gc p.col) (pl_get ((Run.start hst1).pure hk) Hq.out Hpk.out) 1 rfl);have CD:=hI (CL w1.drew (Kept.refl _ _).drew);have CL:=hI CL;clear hst1 hcl0;go_wp2;have hct:w1.cell? ⟨w.heap.size,8,none⟩=some (.int .i64 token):=hcq 8;refine gz62 ?_;refine gz4 ?_;refine gz2 ?_
 with_reducible refine seq_move (by decide) (fun K hK=>?_)
 go_simp;refine up_enter ((CD.out).mono ?_);rintro e w2 ⟨rfl,e2⟩;obtain rfl:=e2.symm;refine ⟨_,rfl,hct,hK _ _ ?_⟩;clear hK K CD;refine gz4 ?_;refine gz2 ?_;refine gz13 ?_;have CL2:=hI (CL.out w1.drew (Kept.refl _ _).drew);go_wp2_with fail;refine (CL2.out).mono ?_;rintro e w3 ⟨rfl,e3⟩;obtain rfl:=e3.symm;have hca:=(Hr1.out.blk 0 rfl).cell;have hfa:=(Hr1.out.blk 0 rfl).frozen;have Hr5:=hI (Hr1.out.set 0 rfl 2 (.int .i64 p.col.latest)).drew
 clear hcp hcq;go_wp2_with (with_reducible refine stop_store (ty:=45) ?_);refine unheld ?_;refine gz18 ?_;intro w9 hb9 hk9;have hr9:=Hr5.out.turn 0 rfl hb9 hk9;have Hb9:=hI hb9;have Hr9:=hI hr9;clear hb9 hk9 hr9 hca hfa
 repeat go_step
 refine gz16 ?_;exact cz43
theorem co_work_wait (w:World) (F:Nat→Prop) (N g:Nat) (a:CA) (x:Co) (id:Int) (p:Pl) (q:Rq) (A:Option Addr) (m cp:Nat) (OC:Ch) (hl:a.ps.length=x.pls.length) (h:Star w F [starC (coL N g a x x.pls.length),OC]) (hx:x.at id=some p) (hp:p.alive=true) (hkind:q.kind=9) :
  Calls Tryz.prog 14 #[pV g,.int .i64 id,.agg (q.cells A m cp)] w (WkP N g OC w F q (waitRs p q.token) x):=by
 unfold waitRs
 by_cases ht:p.col.latest≤q.token
 ·rw [if_pos ht];exact co_work_wait0 w F N g a x id p q A m cp OC hl h hx hp hkind (by simpa using ht)
 ·rw [if_neg ht];exact co_work_wait1 w F N g a x id p q A m cp OC hl h hx hp hkind (by simpa using ht)
end
section
open Go.RowKit
theorem St.placeD {w:World} {a:CA} {x:Co} {k:Nat} {q:PA} {p:Pl} (hq:a.ps[k]? = some q) (hp:x.pls[k]? = some p):St w (w.setCell ⟨q.gp,4,none⟩ (.bool false)) (zwC plC a.ps x.pls) (zwC plC a.ps (x.pls.set k { p with alive:=false })):=by
 have h1:St w (w.setCell ⟨q.gp,4,none⟩ (.bool false)) (plC q p) (plC q { p with alive:=false }):=(St.cell w q.gp 113 #[.string p.tenant,.string p.name,pV q.gc,pV q.gl,.bool p.alive,.int .i64 p.drawn] 4 (.bool false)).inn (Ps:=plL q p) (i:=0) rfl;have h2:=h1.inn (Ps:=List.zipWith plC a.ps x.pls) (i:=k) (zw_at hq hp);rw [zw_set _ hq] at h2;exact h2
theorem co_drop0 (w w₀:World) (F:Nat→Prop) (N g n k ga:Nat) (a:CA) (q:PA) (x:Co) (p:Pl) (kind:Int)
  (hr:Run w₀ F w [rsqB ga kind 0 0 0,starC (coL N g a x n)]) (hct:x.counter=maxTok) :
  Calls Tryz.prog 59 #[pV g,pV q.gp,.int .i64 k,pV ga] w fun e w'=>e = .returned (.tuple #[]) ∧
   Run w₀ F w' [rsqB ga kind 9 0 0,starC (coL N g a x n)]:=by
 obtain ⟨G6,_,hin6,_⟩:=hr.inner 1 rfl;have CD:=hI (co_draw0 _ _ G6 g n a x _ hin6 hct);have hca:=(hr.blk 0 rfl).cell;have hfa:=(hr.blk 0 rfl).frozen;have Hr4:=hI ((hr.set 0 rfl 1 (.int .i64 9)));clear hin6 hr hct;go_enter Tryz.func59,Tryz.ntmps59;go_wp2_with fail;refine (CD.out).mono ?_;rintro e w6 ⟨rfl,e6⟩;obtain rfl:=e6.symm;go_wp2;exact bodyPost_ret (results_none Tryz.results59 _ _ _) rfl ⟨rfl,Hr4.out⟩
abbrev drX (x:Co) (k:Nat) (p:Pl):Co:={ x with counter:=x.counter+1,pls:=x.pls.set k { p with alive:=false } }
theorem co_drop1 (w w₀:World) (F:Nat→Prop) (N g n k ga:Nat) (a:CA) (q:PA) (x:Co) (p:Pl) (kind:Int)
  (hr:Run w₀ F w [rsqB ga kind 0 0 0,starC (coL N g a x n)]) (hq:a.ps[k]? = some q) (hp:x.pls[k]? = some p) (hok:x.Ok) (hN:N≤80000) (hct:x.counter≠maxTok) :
  Calls Tryz.prog 59 #[pV g,pV q.gp,.int .i64 k,pV ga] w fun e w'=>e = .returned (.tuple #[]) ∧
   Run w₀ F w' [rsqB ga kind 0 (x.counter+1) 0,starC (coL (N+1) g a (x.drop k p) n)]:=by
 have hpo:=hok.pl p (List.mem_of_getElem? hp);obtain ⟨G6,_,hin6,hup6⟩:=hr.inner 1 rfl;have CD:=hI (co_draw1 _ _ G6 g n a x _ hin6 hct hok.ct);have Hup6:=hI hup6;clear hin6 hup6 hr;go_enter Tryz.func59,Tryz.ntmps59;go_wp2_with fail;refine (CD.out).mono ?_;rintro e w6 ⟨rfl,hr6⟩;have hr7:=Hup6.out w6 (coL N g a { x with counter:=x.counter+1 } n) hr6;have hst7:Star w6 (fun b=>F b∨w₀.heap.size≤b) (plL q p):=zw_get (C:=plC) (Star.get (P:=zwC plC a.ps x.pls) (inner_co hr7) 6 rfl) hq hp
 have hcp7:=(Star.get (P:=plB q p) hst7 0 rfl).2.cell;have hfp7:=(Star.get (P:=plB q p) hst7 0 rfl).2.frozen;have hr8:Run w₀ F (w6.setCell ⟨q.gp,4,none⟩ (.bool false)) [rsqB ga kind 0 0 0,starC (coL N g a (drX x k p) n)] :=
  ((St.placeD (x:=x) hq hp).inn (Ps:=coL N g a { x with counter:=x.counter+1 } n) (i:=6) rfl).run hr7 1 rfl
 have Hr8:=hI hr8;have hq':(drX x k p).pls[k]? = some { p with alive:=false }:=List.getElem?_set_self (List.getElem?_eq_some_iff.1 hp).1;have Hq':=hI hq';clear hr6 hr7 hst7 Hup6 CD hr8 hq';go_wp2;generalize hW8:World.setCell _ _ _=W8;rw [hW8] at Hr8;clear hW8 hcp7 hfp7;have hin8:=inner_co Hr8.out;have hst8:Star W8 (fun b=>F b∨w₀.heap.size≤b) (plL q { p with alive:=false }):=zw_get (C:=plC) (Star.get (P:=zwC plC a.ps (drX x k p).pls) hin8 6 rfl) hq Hq'.out
 have hcp8:=(Star.get (P:=plB q { p with alive:=false }) hst8 0 rfl).2.cell;have hcg8:W8.cell? ⟨g,10,none⟩=some (pV a.gr):=((Star.get (P:=coB g a (drX x k p) n) hin8 0 rfl).2).cell 10;have CK:=hI (key_any p.tenant p.name W8.drew (by unfold maxLen;omega) (by unfold maxLen;omega))
 have hkz:(keyB p.tenant p.name).size≤1000000:=by
  unfold keyB
  split
  ·rw [ByteArray.size_append,ByteArray.size_append]
   have:(⟨#[47]⟩:ByteArray).size=1:=rfl;omega
  ·decide
 obtain ⟨G9,_,hin9,hup9⟩:=Hr8.out.drew.inner 1 rfl;have CR:=hI (hin9.turn1 1 rfl (r:=.bool (remE x.es (keyB p.tenant p.name) k).1) (Q:=rgC (mS x.cf.shards) a.gr (remE x.es (keyB p.tenant p.name) k).2) (fun G hG hp=>rg_rem _ G (mS x.cf.shards) a.gr x.es (keyB p.tenant p.name) k hp hkz));have Hup9:=hI hup9;clear hin8 hst8 hin9 hup9;refine wp_region_seqS (fun y=>y.cell? ⟨g,10,none⟩=some (pV a.gr)) [12,14] [0,1,2,3,13] (by kernel_rfl) (by kernel_rfl) (by kernel_rfl) hcg8 ?_
 refine gz4 ?_;refine gz2 ?_
 with_reducible refine seq_move (by decide) (fun K hK=>?_)
 go_simp;refine up_enter ((CK.out).mono ?_);rintro e w9 ⟨rfl,e9⟩;obtain rfl:=e9;refine ⟨_,rfl,hcg8,hK _ _ ?_⟩;clear hK K CK;refine gz4 ?_;refine gz2 ?_
 with_reducible refine seq_move (by decide) (fun K hK=>?_)
 go_simp;refine up_enter ((CR.out).mono ?_);rintro e w10 ⟨rfl,hr10⟩;have hr11:Run w₀ F w10 [rsqB ga kind 0 0 0,starC (coL N g a { drX x k p with es:=(remE x.es (keyB p.tenant p.name) k).2 } n)]:=Hup9.out w10 _ hr10;have hin11:=inner_co hr11;have hcg11:w10.cell? ⟨g,10,none⟩=some (pV a.gr):=((Star.get (P:=coB g a (drX x k p) n) hin11 0 rfl).2).cell 10;refine ⟨_,rfl,hcg11,hK _ _ ?_⟩;clear hK K CR hcp8 hcg8
 refine gz2 ?_;refine gz13 ?_;have hst11:Star w10 (fun b=>F b∨w₀.heap.size≤b) (plL q { p with alive:=false }):=zw_get (C:=plC) (Star.get (P:=zwC plC a.ps (drX x k p).pls) hin11 6 rfl) hq Hq'.out;have hcp11:=(Star.get (P:=plB q { p with alive:=false }) hst11 0 rfl).2.cell;have hcc11:w10.cell? ⟨q.gp,2,none⟩=some (pV q.gc):=hcp11 2;obtain ⟨G12,_,hin12,hup12⟩:=hr11.drew.inner 1 rfl;have CB:=hI (co_budget w10.drew w10.drew G12 N g n a { drX x k p with es:=(remE x.es (keyB p.tenant p.name) k).2 } p.tenant hin12 (cf_quota hok.cf) (by omega))
 have Hup12:=hI hup12;clear hr10 hr11 hin11 hst11 hin12 hup12 hcg11 Hup9 Hr8;go_wp2;refine wp_region_seqS (fun y=>y.cell? ⟨q.gp,2,none⟩=some (pV q.gc)) [5,10,11] [6,7,8,9] (by kernel_rfl) (by kernel_rfl) (by kernel_rfl) hcc11 ?_
 refine gz2 ?_
 with_reducible refine seq_move (by decide) (fun K hK=>?_)
 go_simp;refine up_enter ((CB.out).mono ?_);rintro e w13 ⟨bl,kb,gk,rfl,hk,hbl,hr13⟩;have hst13:=pl_get (coL_mono (Nat.le_refl _) (co_shut hbl hr13)) hq Hq'.out;have hcc13:w13.cell? ⟨q.gp,2,none⟩=some (pV q.gc):=(Star.get (P:=plB q { p with alive:=false }) hst13 0 rfl).2.cell 2;have CY:=hI (cl_bytes w13 _ q.gc p.col (Star.get (P:=clC q.gc p.col) hst13 1 rfl));have hbb:=hpo.1.bytes_le;have CL:=hI (bd_turn hr13 hbl.ri hk (f:=120) (r:=.tuple #[]) (b:=(x.bg p.tenant).close p.col.bytes) (fun G hG hp=>qu_close _ G gk (x.bg p.tenant) p.col.bytes hp (hok.bd p.tenant).1 (by omega)))
 have Hbl:=hI (hbl.upd hk ((x.bg p.tenant).close p.col.bytes));refine ⟨_,rfl,hcc13,hK _ _ ?_⟩;clear hK K CB hst13 hr13 hcp11 hcc11 hk hbl;refine gz4 ?_;refine gz2 ?_
 with_reducible refine seq_move (by decide) (fun K hK=>?_)
 go_simp;refine up_enter ((CY.out).mono ?_);rintro e w14 ⟨rfl,e14⟩;obtain rfl:=e14.symm;refine ⟨_,rfl,hcc13,hK _ _ ?_⟩;clear hK K CY;refine gz4 ?_;refine gz2 ?_
 with_reducible refine seq_move (by decide) (fun K hK=>?_)
 go_simp;refine up_enter ((CL.out).mono ?_);rintro e w15 ⟨rfl,hr15⟩;have hst15:=pl_get (coL_mono (Nat.le_refl _) (co_shut Hbl.out hr15)) hq Hq'.out;have hcc15:w15.cell? ⟨q.gp,2,none⟩=some (pV q.gc):=(Star.get (P:=plB q { p with alive:=false }) hst15 0 rfl).2.cell 2;have hr16:Run w₀ F w15 [rsqB ga kind 0 0 0,starC (coO g a bl (x.drop k p) n)]:=Hup12.out w15 _ hr15;have hr17:=hr16.map 1 rfl (Q:=starC (coL (N+1) g a (x.drop k p) n)) (fun G h=>shutO Hbl.out h)
 have Hr17:=hI hr17;refine ⟨_,rfl,hcc15,hK _ _ ?_⟩;clear hK K CL hst15 hr15 hr16 hr17 Hup12 hcc13 hcc15;refine gz13 ?_;have hca:=(Hr17.out.blk 0 rfl).cell;have hfa:=(Hr17.out.blk 0 rfl).frozen;have Hr18:=hI (Hr17.out.set 0 rfl 2 (.int .i64 (x.counter+1)));go_wp2
 first|exact bodyPost_ret (results_none Tryz.results59 _ _ _) rfl ⟨rfl,Hr18.out⟩|(go_end0;exact ⟨rfl,Hr18.out⟩)
end
section
open Go.RowKit
def dropRs (x:Co):Rs:=if x.counter=maxTok then rsErr 3 9 else ⟨3,0,x.counter+1,0,⟨#[]⟩,0,false,[]⟩
def dropCo (x:Co) (id:Int) (p:Pl):Co:=if x.counter=maxTok then x else x.drop id p
theorem drop_len (x:Co) (id:Int) (p:Pl):(x.drop id p).pls.length=x.pls.length:=by simp [Co.drop]
theorem co_work_drop0 (w:World) (F:Nat→Prop) (N g:Nat) (a:CA) (x:Co) (id:Int) (p:Pl) (q:Rq) (A:Option Addr) (m cp:Nat) (OC:Ch) (hl:a.ps.length=x.pls.length) (h:Star w F [starC (coL N g a x x.pls.length),OC]) (hx:x.at id=some p) (hp:p.alive=true) (hct:x.counter=maxTok) (hkind:q.kind=3) :
  Calls Tryz.prog 14 #[pV g,.int .i64 id,.agg (q.cells A m cp)] w (WkP N g OC w F q (rsErr 3 9) x):=by
 have hr0:=wk_start w F N g x.pls.length a x q A m cp OC h;obtain ⟨k,pa,rfl,hpk,hq,hv⟩:=at_some hl hx;have HV:=hI hv;have Hr0:=hI hr0;have Hl:=hI hl;obtain ⟨kind,tenant,col,uid,card,⟨ck,cv⟩,ops,token,most,ticks⟩:=q;simp only at *;have Hpk:=hI hpk;have Hq:=hI hq;have Hp:=hI hp;subst hkind;clear hr0 hx hl h hv hpk hq hp;have hc0:=(Hr0.out.blk 1 rfl).cell;go_enter Tryz.func14,Tryz.ntmps14
 go_wp2_with (with_reducible refine stop_store (ty:=45) ?_)
 refine unheld ?_;refine gz14 ?_;intro w1 hb1 hk1;have hr1:=Hr0.out.turn 0 rfl hb1 hk1;have Hr1:Hid (Run w F w1 [rsqB (w.heap.size+1) 3 0 0 0,rqB w.heap.size ⟨3,tenant,col,uid,card,⟨ck,cv⟩,ops,token,most,ticks⟩ A m cp,starC (coL N g a x x.pls.length),OC]):=hI hr1;have hin1:Star w1 (fun b=>F b∨w.heap.size≤b) (coL N g a x x.pls.length):=Hr1.out.get (P:=starC (coL N g a x x.pls.length)) 2 rfl;have CA:=co_at w1 w1 _ N g a x x.pls.length (k:Int) (Run.start hin1) Hl.out
 rw [HV.out] at CA;have CA:=hI CA;clear hr1 hb1 hk1 hc0 hin1;go_wp2_with fail;refine (CA.out).mono ?_;rintro e w2 ⟨rfl,e2⟩;obtain rfl:=e2.symm;have hst1:Star w1 (fun b=>F b∨w.heap.size≤b) (coL N g a x x.pls.length):=Hr1.out.get (P:=starC (coL N g a x x.pls.length)) 2 rfl;have hcp:=(pl_blk (Run.start hst1) Hq.out Hpk.out).cell;rw [Hp.out] at hcp;have hcq:=(Hr1.out.blk 1 rfl).cell;have hr3:=Hr1.out.perm (List.Perm.cons _ (List.Perm.swap _ _ _))
 have hr4:=Run.unflat (Qs:=[rsqB (w.heap.size+1) 3 0 0 0,starC (coL N g a x x.pls.length)]) hr3;obtain ⟨G,_,hin,hup⟩:=hr4.inner 0 rfl;have CW:=hI (co_drop0 _ _ G N g x.pls.length k (w.heap.size+1) a pa x p 3 hin hct);have Hup:=hI hup;clear hr3 hr4 hin hup hst1 hct;go_wp2_with fail;refine (CW.out).mono ?_;rintro e w3 ⟨rfl,hr5⟩;have Hr5:Hid (Run w F w3 [rsqB (w.heap.size+1) 3 9 0 0,rqB w.heap.size ⟨3,tenant,col,uid,card,⟨ck,cv⟩,ops,token,most,ticks⟩ A m cp,starC (coL N g a x x.pls.length),OC]):=hI ((Run.flat (Qs:=[_,_]) (Hup.out w3 _ hr5)).perm (List.Perm.cons _ (List.Perm.swap _ _ _)))
 have hca:=(Hr5.out.blk 0 rfl).cell;have hfa:=(Hr5.out.blk 0 rfl).frozen;clear hr5 Hup CW hcp hcq;go_wp2_with (with_reducible refine stop_store (ty:=45) ?_);refine unheld ?_;refine gz18 ?_;intro w9 hb9 hk9;have hr9:=Hr5.out.turn 0 rfl hb9 hk9;have Hb9:=hI hb9;have Hr9:=hI hr9;clear hb9 hk9 hr9 hca hfa
 repeat go_step
 refine gz16 ?_;exact cz43
theorem co_work_drop1 (w:World) (F:Nat→Prop) (N g:Nat) (a:CA) (x:Co) (id:Int) (p:Pl) (q:Rq) (A:Option Addr) (m cp:Nat) (OC:Ch) (hl:a.ps.length=x.pls.length) (h:Star w F [starC (coL N g a x x.pls.length),OC]) (hx:x.at id=some p) (hp:p.alive=true) (hok:x.Ok) (hN:N≤80000) (hct:x.counter≠maxTok) (hkind:q.kind=3) :
  Calls Tryz.prog 14 #[pV g,.int .i64 id,.agg (q.cells A m cp)] w (WkP N g OC w F q ⟨3,0,x.counter+1,0,⟨#[]⟩,0,false,[]⟩ (x.drop id p)):=by
 have hr0:=wk_start w F N g x.pls.length a x q A m cp OC h;obtain ⟨k,pa,rfl,hpk,hq,hv⟩:=at_some hl hx;have HV:=hI hv;have Hr0:=hI hr0;have Hl:=hI hl;obtain ⟨kind,tenant,col,uid,card,⟨ck,cv⟩,ops,token,most,ticks⟩:=q;simp only at *;have Hpk:=hI hpk;have Hq:=hI hq;have Hp:=hI hp;subst hkind;clear hr0 hx hl h hv hpk hq hp;have hc0:=(Hr0.out.blk 1 rfl).cell;go_enter Tryz.func14,Tryz.ntmps14
 go_wp2_with (with_reducible refine stop_store (ty:=45) ?_)
 refine unheld ?_;refine gz14 ?_;intro w1 hb1 hk1;have hr1:=Hr0.out.turn 0 rfl hb1 hk1;have Hr1:Hid (Run w F w1 [rsqB (w.heap.size+1) 3 0 0 0,rqB w.heap.size ⟨3,tenant,col,uid,card,⟨ck,cv⟩,ops,token,most,ticks⟩ A m cp,starC (coL N g a x x.pls.length),OC]):=hI hr1;have hin1:Star w1 (fun b=>F b∨w.heap.size≤b) (coL N g a x x.pls.length):=Hr1.out.get (P:=starC (coL N g a x x.pls.length)) 2 rfl;have CA:=co_at w1 w1 _ N g a x x.pls.length (k:Int) (Run.start hin1) Hl.out
 rw [HV.out] at CA;have CA:=hI CA;clear hr1 hb1 hk1 hc0 hin1;go_wp2_with fail;refine (CA.out).mono ?_;rintro e w2 ⟨rfl,e2⟩;obtain rfl:=e2.symm;have hst1:Star w1 (fun b=>F b∨w.heap.size≤b) (coL N g a x x.pls.length):=Hr1.out.get (P:=starC (coL N g a x x.pls.length)) 2 rfl;have hcp:=(pl_blk (Run.start hst1) Hq.out Hpk.out).cell;rw [Hp.out] at hcp;have hcq:=(Hr1.out.blk 1 rfl).cell;have hr3:=Hr1.out.perm (List.Perm.cons _ (List.Perm.swap _ _ _))
 have hr4:=Run.unflat (Qs:=[rsqB (w.heap.size+1) 3 0 0 0,starC (coL N g a x x.pls.length)]) hr3;obtain ⟨G,_,hin,hup⟩:=hr4.inner 0 rfl;have CW:=hI (co_drop1 _ _ G N g x.pls.length k (w.heap.size+1) a pa x p 3 hin Hq.out Hpk.out hok hN hct);have Hup:=hI hup;clear hr3 hr4 hin hup hst1 hct;go_wp2_with fail;refine (CW.out).mono ?_;rintro e w3 ⟨rfl,hr5⟩;have Hr5:Hid (Run w F w3 [rsqB (w.heap.size+1) 3 0 (x.counter+1) 0,rqB w.heap.size ⟨3,tenant,col,uid,card,⟨ck,cv⟩,ops,token,most,ticks⟩ A m cp,starC (coL (N+1) g a (x.drop k p) x.pls.length),OC]):=hI ((Run.flat (Qs:=[_,_]) (Hup.out w3 _ hr5)).perm (List.Perm.cons _ (List.Perm.swap _ _ _)))
 have hca:=(Hr5.out.blk 0 rfl).cell;have hfa:=(Hr5.out.blk 0 rfl).frozen;clear hr5 Hup CW hcp hcq;go_wp2_with (with_reducible refine stop_store (ty:=45) ?_);refine unheld ?_;refine gz18 ?_;intro w9 hb9 hk9;have hr9:=Hr5.out.turn 0 rfl hb9 hk9;have Hb9:=hI hb9;have Hr9:=hI hr9;clear hb9 hk9 hr9 hca hfa
 repeat go_step
 refine gz16 ?_;exact ⟨none,0,rfl,wk_close (M:=N+1) (x:=x.drop k p) (by rw [drop_len];exact Hl.out) (by omega) (it_none (by rw [drop_len];exact Hr9.out))⟩
theorem co_work_drop (w:World) (F:Nat→Prop) (N g:Nat) (a:CA) (x:Co) (id:Int) (p:Pl) (q:Rq) (A:Option Addr) (m cp:Nat) (OC:Ch) (hl:a.ps.length=x.pls.length) (h:Star w F [starC (coL N g a x x.pls.length),OC]) (hx:x.at id=some p) (hp:p.alive=true) (hok:x.Ok) (hN:N≤80000) (hkind:q.kind=3) :
  Calls Tryz.prog 14 #[pV g,.int .i64 id,.agg (q.cells A m cp)] w (WkP N g OC w F q (dropRs x) (dropCo x id p)):=by
 unfold dropRs dropCo
 by_cases hct:x.counter=maxTok
 ·rw [if_pos hct,if_pos hct];exact co_work_drop0 w F N g a x id p q A m cp OC hl h hx hp hct hkind
 ·rw [if_neg hct,if_neg hct];exact co_work_drop1 w F N g a x id p q A m cp OC hl h hx hp hok hN hct hkind
theorem co_work_other (w:World) (F:Nat→Prop) (N g:Nat) (a:CA) (x:Co) (id:Int) (p:Pl) (q:Rq) (A:Option Addr) (m cp:Nat) (OC:Ch) (hl:a.ps.length=x.pls.length) (h:Star w F [starC (coL N g a x x.pls.length),OC]) (hx:x.at id=some p) (hp:p.alive=true)
  (h3:(q.kind == 3)=false) (h4:(q.kind == 4)=false) (h5:(q.kind == 5)=false) (h6:(q.kind == 6)=false) (h7:(q.kind == 7)=false) (h8:(q.kind == 8)=false) (h9:(q.kind == 9)=false) :
  Calls Tryz.prog 14 #[pV g,.int .i64 id,.agg (q.cells A m cp)] w (WkP N g OC w F q (rsErr q.kind 10) x):=by
 obtain ⟨kd,hkind⟩:∃ kd,q.kind=kd:=⟨_,rfl⟩;rw [hkind] at h3 h4 h5 h6 h7 h8 h9;have hr0:=wk_start w F N g x.pls.length a x q A m cp OC h;obtain ⟨k,pa,rfl,hpk,hq,hv⟩:=at_some hl hx;have HV:=hI hv;have Hr0:=hI hr0;have Hl:=hI hl;obtain ⟨kind,tenant,col,uid,card,⟨ck,cv⟩,ops,token,most,ticks⟩:=q;simp only at *;have Hpk:=hI hpk;have Hq:=hI hq;have Hp:=hI hp;subst hkind;clear hr0 hx hl h hv hpk hq hp
 have hc0:=(Hr0.out.blk 1 rfl).cell;go_enter Tryz.func14,Tryz.ntmps14;go_wp2_with (with_reducible refine stop_store (ty:=45) ?_);refine unheld ?_;refine gz14 ?_;intro w1 hb1 hk1;have hr1:=Hr0.out.turn 0 rfl hb1 hk1;have Hr1:Hid (Run w F w1 [rsqB (w.heap.size+1) kind 0 0 0,rqB w.heap.size ⟨kind,tenant,col,uid,card,⟨ck,cv⟩,ops,token,most,ticks⟩ A m cp,starC (coL N g a x x.pls.length),OC]):=hI hr1
 have hin1:Star w1 (fun b=>F b∨w.heap.size≤b) (coL N g a x x.pls.length):=Hr1.out.get (P:=starC (coL N g a x x.pls.length)) 2 rfl;have CA:=co_at w1 w1 _ N g a x x.pls.length (k:Int) (Run.start hin1) Hl.out;rw [HV.out] at CA;have CA:=hI CA;clear hr1 hb1 hk1 hc0 hin1;go_wp2_with fail;refine (CA.out).mono ?_;rintro e w2 ⟨rfl,e2⟩;obtain rfl:=e2.symm;have hst1:Star w1 (fun b=>F b∨w.heap.size≤b) (coL N g a x x.pls.length):=Hr1.out.get (P:=starC (coL N g a x x.pls.length)) 2 rfl
 have hcp:=(pl_blk (Run.start hst1) Hq.out Hpk.out).cell;rw [Hp.out] at hcp;have hcq:=(Hr1.out.blk 1 rfl).cell;clear hst1;have hca:=(Hr1.out.blk 0 rfl).cell;have hfa:=(Hr1.out.blk 0 rfl).frozen;have Hr5:Hid (Run w F _ [rsqB (w.heap.size+1) kind 10 0 0,rqB w.heap.size ⟨kind,tenant,col,uid,card,⟨ck,cv⟩,ops,token,most,ticks⟩ A m cp,starC (coL N g a x x.pls.length),OC]):=hI (Hr1.out.set 0 rfl 1 (.int .i64 10))
 go_wp2_with (with_reducible refine stop_store (ty:=45) ?_)
 refine unheld ?_;refine gz18 ?_;intro w9 hb9 hk9;have hr9:=Hr5.out.turn 0 rfl hb9 hk9;have Hb9:=hI hb9;have Hr9:=hI hr9;clear hb9 hk9 hr9 hca hfa hcp hcq
 repeat go_step
 refine gz16 ?_;exact cz43
end
section
structure Co.OkK (x:Co) (k:Nat):Prop where
 cf:x.cf.okB=true
 ct:0≤x.counter∧x.counter≤maxTok
 pl:∀ p∈x.pls,p.col.Ok∧p.lock.size≤k∧p.tenant.size≤1000∧p.name.size≤1000
 bd:∀ t,(x.bg t).Fits∧(x.bg t).q=x.cf.quota
 nw:0≤x.now∧x.now≤1099511627776
 ln:x.pls.length≤k∧x.es.length≤k∧x.wts.length≤k∧x.als.length≤k
section
variable {x:Co} {k:Nat}
theorem Co.OkK.ok (h:x.OkK k) (hk:k≤50000):x.Ok:=⟨h.cf,h.ct,fun p hp=>⟨(h.pl p hp).1,Nat.le_trans (h.pl p hp).2.1 hk,(h.pl p hp).2.2⟩,h.bd,h.nw,by have:=h.ln;omega⟩
theorem Co.OkK.mono (h:x.OkK k) {j:Nat} (hk:k≤j):x.OkK j:=⟨h.cf,h.ct,fun p hp=>⟨(h.pl p hp).1,Nat.le_trans (h.pl p hp).2.1 hk,(h.pl p hp).2.2⟩,h.bd,h.nw,by have:=h.ln;omega⟩
theorem Co.OkK.new {c:Cf} (h:c.okB=true) (hs:c.start≤maxTok):(Co.new c).OkK 0:=by
 have h1:=Co.Ok.new h hs;exact ⟨h1.cf,h1.ct,by simp [Co.new],h1.bd,h1.nw,by simp [Co.new]⟩
theorem Co.OkK.set (h:x.OkK k) (i:Nat) {p:Pl} (hp:p.col.Ok∧p.lock.size≤k∧p.tenant.size≤1000∧p.name.size≤1000):({ x with pls:=x.pls.set i p }:Co).OkK k :=
 ⟨h.cf,h.ct,fun q hq=>(List.mem_or_eq_of_mem_set hq).elim (h.pl q) (fun e=>e ▸ hp),h.bd,h.nw,by simpa using h.ln⟩
theorem Co.at_mem {id:Int} {p:Pl} (h:x.at id=some p):p∈x.pls:=by
 unfold Co.at at h
 split at h
 ·exact List.mem_of_getElem? h
 ·cases h
theorem upd_bd {f:ByteArray→Bg} {q:Qt} {t:ByteArray} {b:Bg} (h:∀ t,(f t).Fits∧(f t).q=q) (hb:b.Fits∧b.q=q):∀ u,(updB f t b u).Fits∧(updB f t b u).q=q:=fun u=>by
 unfold updB
 split
 ·exact hb
 ·exact h u
theorem Bg.open_q (b:Bg):b.open.2.q=b.q:=by unfold Bg.open;split <;> rfl
theorem Bg.move_q (b:Bg) (n:Int):(b.move n).2.q=b.q:=by unfold Bg.move;split <;> rfl
theorem Co.OkK.create (h:x.OkK k) (t n:ByteArray) (ht:t.size≤1000) (hn:n.size≤1000):(x.create t n).2.2.OkK (k+1):=by
 unfold Co.create
 split
 ·exact h.mono (Nat.le_succ _)
 ·rename_i hm
  have hm:x.mayNew t n=0:=Decidable.not_not.1 hm;have hct:x.counter≠maxTok:=by
   intro e;unfold Co.mayNew at hm;rw [if_pos e] at hm
   split at hm
   ·cases hm
   ·split at hm
    ·cases hm
    ·split at hm <;> cases hm
  have hq:=cf_quota h.cf;have h0:=hq;unfold Qt.Ok at h0;have hc:=h.ct;have hl:=h.ln;have ha:=add_len x.es (keyB t n) x.pls.length;refine ⟨h.cf,by simp only;omega,fun p hp=>?_,upd_bd h.bd ⟨Bg.open_fits (h.bd t).1,by rw [Bg.open_q];exact (h.bd t).2⟩,h.nw,?_⟩
  ·simp only [List.mem_append,List.mem_singleton] at hp
   rcases hp with hp|rfl
   ·have:=h.pl p hp
    exact ⟨this.1,by omega,this.2.2⟩
   ·exact ⟨Cl.Ok.new _ (by omega) (by omega),by simp [Lk.size,Lk.none],ht,hn⟩
  ·simp only [List.length_append,List.length_cons,List.length_nil]
   omega
theorem Co.OkK.write (h:x.OkK k) {id:Int} {p:Pl} (hp:p∈x.pls) (ops:List OpR) (now:Bool) (ho:∀ o∈ops,o.card.size≤1000000) (hct:x.counter≠maxTok):(x.write id p ops now).OkK k:=by
 have hpp:=h.pl p hp;have hc:=h.ct;have h1:({ x with counter:=x.counter+1,bg:=updB x.bg p.tenant ((x.bg p.tenant).move (p.col.check ops (x.bg p.tenant).room).2.1).2 }:Co).OkK k :=
  ⟨h.cf,by simp only;omega,h.pl,upd_bd h.bd ⟨Bg.move_fits (h.bd _).1 _,by rw [Bg.move_q];exact (h.bd _).2⟩,h.nw,h.ln⟩
 refine h1.set id.toNat (p:={ p with drawn:=x.counter+1,col:=if now then applyL p.col ops (x.counter+1) else p.col }) ⟨?_,hpp.2⟩
 split
 ·exact applyL_ok ops _ hpp.1 ho
 ·exact hpp.1
theorem wrErr_max {p:Pl} {ops:List OpR} (h:(wrErr x p ops).1=0):x.counter≠maxTok:=by
 unfold wrErr at h
 split at h
 ·rename_i h1;exact absurd h h1
 ·split at h
  ·cases h
  ·assumption
theorem Co.OkK.drop (h:x.OkK k) {id:Int} {p:Pl} (hp:p∈x.pls) (hct:x.counter≠maxTok):(x.drop id p).OkK k:=by
 have hpp:=h.pl p hp;have hc:=h.ct;have hl:=h.ln;have hr:=rem_len x.es (keyB p.tenant p.name) id;have h1:({ x with counter:=x.counter+1,bg:=updB x.bg p.tenant ((x.bg p.tenant).close p.col.bytes),es:=(remE x.es (keyB p.tenant p.name) id).2 }:Co).OkK k :=
  ⟨h.cf,by simp only;omega,h.pl,upd_bd h.bd ⟨Bg.close_fits (h.bd _).1 _,(h.bd _).2⟩,h.nw,by simp only;omega⟩
 exact h1.set id.toNat (p:={ p with alive:=false }) hpp
def Co.apply (x:Co) (id:Int) (o:OpR) (token:Int):Bool×Co:=match x.at id with|some p=>((p.col.apply o token).1,x.setP id { p with col:=(p.col.apply o token).2 })|none=>(false,x)
theorem Co.OkK.apply (h:x.OkK k) (id:Int) (o:OpR) (token:Int) (hc:o.card.size≤1000000):(x.apply id o token).2.OkK k:=by
 unfold Co.apply;cases hx:x.at id with
 | none=>exact h
 | some p =>
  have hpp:=h.pl p (Co.at_mem hx);exact h.set id.toNat (p:={ p with col:=(p.col.apply o token).2 }) ⟨hpp.1.apply o token hc,hpp.2⟩
theorem Co.OkK.lock (h:x.OkK k) (id who:Int) (b:Bool):(x.lock id who b).2.OkK (k+1):=by
 unfold Co.lock;cases hx:x.at id with
 | none=>exact h.mono (Nat.le_succ _)
 | some p =>
  have hpp:=h.pl p (Co.at_mem hx);have:=ask_size p.lock who b;exact (h.mono (Nat.le_succ _)).set id.toNat (p:={ p with lock:=(p.lock.ask who b).2 }) ⟨hpp.1,by simp only;omega,hpp.2.2⟩
theorem Co.OkK.leave (h:x.OkK k) (id who:Int):(x.leave id who).OkK k:=by
 unfold Co.leave;cases hx:x.at id with
 | none=>exact h
 | some p =>
  have hpp:=h.pl p (Co.at_mem hx);have:=leave_size p.lock who;exact h.set id.toNat (p:={ p with lock:=(p.lock.leave who).2 }) ⟨hpp.1,by simp only;omega,hpp.2.2⟩
theorem leave_wts (x:Co) (id who:Int):(x.leave id who).wts=x.wts:=by
 unfold Co.leave
 split <;> rfl
theorem Co.OkK.unlock (h:x.OkK k) (id who:Int) (wk:Bool):(x.unlock id who wk).OkK k:=by
 unfold Co.unlock;have h1:=h.leave id who
 split
 ·exact ⟨h1.cf,h1.ct,h1.pl,h1.bd,h1.nw,by have:=h1.ln;rw [leave_wts] at this;simpa [wakeW] using this⟩
 ·exact h1
end
end
section
open Go.RowKit
theorem co_apply (w:World) (F:Nat→Prop) (N g:Nat) (x:Co) (id token:Int) (o:OpR) (h:CoM N w F g x) (hok:x.Ok) (hcard:o.card.size≤1000000) :
  Turn 18 #[pV g,.int .i64 id,.agg #[.bool o.del,.string o.uid,.string o.card,.int .i64 o.cond.kind,.int .i64 o.cond.version],.int .i64 token] w F (.bool (x.apply id o token).1) (coC N g (x.apply id o token).2):=by
 obtain ⟨a,hl,hs⟩:=h;have hr:=(Run.start hs).addBlk #[.bool o.del,.string o.uid,.string o.card,.int .i64 o.cond.kind,.int .i64 o.cond.version] 58;have hs1:Star _ (fun b=>F b∨w.heap.size≤b) (coL N g a x x.pls.length):=(hr.drop 0).star;have CA:=hI (co_at _ _ _ N g a x x.pls.length id (Run.start hs1) hl);have Hr:=hI hr;have Hl:=hI hl;obtain ⟨del,uid,card,⟨ck,cv⟩⟩:=o;unfold Co.apply Turn
 simp only at *;have hcb:=(hr.blk 0 rfl).cell;cases hx:x.at id with
 | none =>
  rw [at_none hl hx] at CA;clear hr hs hl hx hs1;go_enter Tryz.func18,Tryz.ntmps18;go_wp2_with fail;refine (CA.out).mono ?_;rintro e w1 ⟨rfl,e1⟩;obtain rfl:=e1.symm;go_wp2
  go_quiet (fail)
  go_wp2;go_ret;exact ⟨rfl,co_fin Hl.out ((Hr.out.drop 0).drewN _)⟩
 | some p =>
  obtain ⟨k,q,rfl,hp,hq,hv⟩:=at_some hl hx;rw [hv] at CA;have hcp:World.cell? (w.alloc (.cells #[.bool del,.string uid,.string card,.int .i64 ck,.int .i64 cv] 58)) ⟨q.gp,2,none⟩=some (pV q.gc):=(pl_blk (hr.drop 0) hq hp).cell 2;have CS:=hI (pl_turn (hr.drop 0).drew hq hp { p with col:=(p.col.apply ⟨del,uid,card,⟨ck,cv⟩⟩ token).2 } (r:=.bool (p.col.apply ⟨del,uid,card,⟨ck,cv⟩⟩ token).1) (fun G hG hst=>Star.turn1 hst 1 hG rfl (fun G2 hG2 h2=>cl_apply _ G2 q.gc p.col ⟨del,uid,card,⟨ck,cv⟩⟩ token h2 (hok.pl p (List.mem_of_getElem? hp)).1 hcard)))
  unfold Co.setP;clear hr hs hl hx hp hq hv hs1;go_enter Tryz.func18,Tryz.ntmps18;go_wp2_with fail;refine (CA.out).mono ?_;rintro e w1 ⟨rfl,e1⟩;obtain rfl:=e1.symm;go_wp2;refine wp_region_seq [9] [] (by kernel_rfl) (by kernel_rfl) (by kernel_rfl) ?_
  refine gz2 ?_
  with_reducible refine seq_move (by decide) (fun K hK=>?_)
  go_simp;refine up_enter ((CS.out).mono ?_);rintro e w2 ⟨rfl,hr2⟩;have Hr2:=hI hr2;refine ⟨_,rfl,hK _ _ ?_⟩;clear hK K hr2 CS hcp hcb;refine gz2 ?_;refine gz13 ?_;go_wp2;go_ret;exact ⟨rfl,co_fin (Hl.out.trans set_len.symm) (by rw [set_len];exact Hr2.out)⟩
end
section
open Go.RowKit
def liIt (x:Co) (key:ByteArray):It:=match x.at (fdE x.es key) with|some p=>⟨p.name,p.drawn,false,⟨#[]⟩⟩|none=>⟨⟨#[]⟩,0,false,⟨#[]⟩⟩
def Co.list (x:Co) (t:ByteArray):Rs:=if nameB t=true then ⟨10,0,0,0,⟨#[]⟩,0,false,(unE x.es (t++⟨#[47]⟩)).map (liIt x)⟩ else rsErr 10 3
theorem fd_mem {es:Es} (hr:Rises es) {e:En Int} (he:e∈es):fdE es e.1=e.2:=by
 unfold fdE;rw [(val_iff hr e.1 e.2).2 he];rfl
theorem un_mem {es:Es} {p key:ByteArray} (h:key∈unE es p):∃ e∈es,e.1=key:=by
 unfold unE at h;obtain ⟨e,he,rfl⟩:=List.mem_map.1 h;exact ⟨e,(List.mem_filter.1 he).1,rfl⟩
theorem info_li:(Tryz.prog.info? 55).map (fun i=>(i.zero,i.size,i.bytes))=some (some (.agg #[.string ⟨#[]⟩,.int .i64 0,.bool false,.string ⟨#[]⟩]),4,48):=by kernel_rfl
def Co.Ix (x:Co):Prop:=∀ e∈x.es,∃ p,x.at e.2=some p
def LiP (w:World) (r:Rs) (e:Ending) (w':World):Prop :=
 ∃ (B:Option Addr) (c:Nat),e = .returned (.agg (rspA r.kind r.err r.token r.version r.card r.index r.more B r.items.length c))∧Sl w' (fun b=>w.heap.size≤b) 4 B r.items.length (itc r.items)∧Pure w w'
def rz:Array Value:=#[.int .i64 0,.int .i64 0,.int .i64 0,.int .i64 0,.string ⟨#[]⟩,.int .i64 0,.bool false,.slice none 0 0]
theorem co_list0 (w:World) (g:Nat) (t:ByteArray) (hn:nameB t=false) (ht:t.size≤1000) :
  Calls Tryz.prog 17 #[pV g,.string t] w (LiP w (rsErr 10 3)):=by
 have hr0:Run w (fun _=>False) ((w.alloc (.cells rz 45)).alloc (.cells rz 45)) [blkC (w.heap.size+1) 45 rz,blkC w.heap.size 45 rz]:=by
  have h1:=((Run.start (F:=fun _=>False) (w:=w) (Ps:=[]) trivial).addBlk rz 45).addBlk rz 45;rw [World.size_alloc] at h1;exact h1
 have CN:=fun w=>name_any t w (by unfold maxLen;omega)
 rw [hn] at CN;have CN:=hI CN;have Hr0:=hI hr0;clear hr0 hn;go_enter Tryz.func17,Tryz.ntmps17;go_wp2_with (with_reducible refine stop_store (ty:=45) ?_);refine unheld ?_;refine gz14 ?_;intro w1 hb1 hk1;have hr1:=Hr0.out.turn 0 rfl hb1 hk1;have Hr1:Hid (Run w (fun _=>False) w1 [blkC (w.heap.size+1) 45 (rspA 10 0 0 0 ⟨#[]⟩ 0 false none 0 0),blkC w.heap.size 45 rz]):=hI hr1;clear hr1 hb1 hk1
 go_wp2_with fail
 refine (CN.out _).mono ?_;rintro e w2 ⟨rfl,e2⟩;obtain rfl:=e2;have hca:=(Hr1.out.blk 0 rfl).cell;have hfa:=(Hr1.out.blk 0 rfl).frozen;have Hr5:Hid (Run w (fun _=>False) _ [blkC (w.heap.size+1) 45 (rspA 10 3 0 0 ⟨#[]⟩ 0 false none 0 0),blkC w.heap.size 45 rz]):=hI (Hr1.out.set 0 rfl 1 (.int .i64 3));go_wp2_with (with_reducible refine stop_store (ty:=45) ?_);refine unheld ?_;refine wp_store_blk rfl _ _ _ rfl rfl rfl (Hr5.out.blk 1 rfl) rfl (by kernel_rfl) (by kernel_rfl) rfl ?_
 intro w9 hb9 hk9;have hr9:=Hr5.out.turn 1 rfl hb9 hk9;have Hb9:=hI hb9;have Hr9:=hI hr9;clear hb9 hk9 hr9
 repeat go_step
 refine bodyPost_ret (results_cell Tryz.results17 rfl Hb9.out Tryz.underlying45 rfl (by kernel_rfl)) rfl ?_
 exact ⟨none,0,rfl,Sl.nil _ _ _ _,Hr9.out.pureOf⟩
theorem co_list1 (w:World) (F:Nat→Prop) (N g:Nat) (x:Co) (t:ByteArray) (h:CoM N w F g x) (hn:nameB t=true) (ht:t.size≤1000) (hes:x.es.length≤1000) (hix:x.Ix) (hri:Rises x.es) (hks:∀ e∈x.es,e.1.size≤1000) :
  Calls Tryz.prog 17 #[pV g,.string t] w (LiP w ⟨10,0,0,0,⟨#[]⟩,0,false,(unE x.es (t++⟨#[47]⟩)).map (liIt x)⟩):=by
 have hr0:Run w (fun _=>False) ((w.alloc (.cells rz 45)).alloc (.cells rz 45)) [blkC (w.heap.size+1) 45 rz,blkC w.heap.size 45 rz]:=by
  have h1:=((Run.start (F:=fun _=>False) (w:=w) (Ps:=[]) trivial).addBlk rz 45).addBlk rz 45;rw [World.size_alloc] at h1;exact h1
 have CN:=fun w=>name_any t w (by unfold maxLen;omega)
 rw [hn] at CN;have CN:=hI CN;have Hr0:=hI hr0;obtain ⟨a,hl,hs⟩:=h;have HS:=hI (fun (w':World) (hp:Pure w w')=>Star.pure hs hp);have Hl:=hI hl;clear hr0 hn hs hl;go_enter Tryz.func17,Tryz.ntmps17;go_wp2_with (with_reducible refine stop_store (ty:=45) ?_);refine unheld ?_;refine gz14 ?_;intro w1 hb1 hk1;have hr1:=Hr0.out.turn 0 rfl hb1 hk1;have Hr1:Hid (Run w (fun _=>False) w1 [blkC (w.heap.size+1) 45 (rspA 10 0 0 0 ⟨#[]⟩ 0 false none 0 0),blkC w.heap.size 45 rz]):=hI hr1
 clear hr1 hb1 hk1;go_wp2_with fail;refine (CN.out _).mono ?_;rintro e w2 ⟨rfl,e2⟩;obtain rfl:=e2;have hin:=Run.start (HS.out _ Hr1.out.pureOf);have hcg:=(hin.blk 0 rfl).cell;have hsz:(t++⟨#[47]⟩:ByteArray).size=t.size+1:=by rw [ByteArray.size_append];rfl
 have hb1:(9223372036854775807<(t++⟨#[47]⟩:ByteArray).size)=False:=by simp only [eq_iff_iff,iff_false];omega
 have CU:=hI (rg_under w1 _ (mS x.cf.shards) a.gr x.es (t++⟨#[47]⟩) (hin.get (P:=rgC (mS x.cf.shards) a.gr x.es) 1 rfl) hes);clear hin hsz;go_wp2_with fail;refine (CU.out).mono ?_;rintro e w3 ⟨A3,c3,rfl,ho3,hk3⟩;obtain ⟨ks,hks2⟩:∃ ks,unE x.es (t++⟨#[47]⟩)=ks:=⟨_,rfl⟩;rw [hks2] at ho3;have hmem:∀ key∈ks,key.size≤1000∧∃ p,x.at (fdE x.es key)=some p:=fun key hk=>by
  rw [←hks2] at hk;obtain ⟨e,he,rfl⟩:=un_mem hk;rw [fd_mem hri he];exact ⟨hks e he,hix e he⟩
 have hnk:ks.length≤1000:=by
  rw [←hks2];unfold unE;rw [List.length_map];exact Nat.le_trans (List.length_filter_le _ _) hes
 have Hks:=hI hks2;have Hmem:=hI hmem;have hr4:=((Hr1.out.add (Q:=ownC 9 1 (.slice A3 ks.length c3) ks.length (ks.map Value.string)) hk3 ho3).addNil 55 4).perm (List.Perm.cons _ ((List.Perm.swap _ _ _).trans (List.Perm.cons _ (List.Perm.swap _ _ _))));have Hr4:Hid (Run w (fun _=>False) w3 [ownC 55 4 (.slice none 0 0) 0 (itc ((ks.take 0).map (liIt x))),blkC (w.heap.size+1) 45 (rspA 10 0 0 0 ⟨#[]⟩ 0 false none 0 0),blkC w.heap.size 45 rz,ownC 9 1 (.slice A3 ks.length c3) ks.length (ks.map Value.string)]):=hI hr4
 rw [hks2];obtain ⟨n,hn⟩:∃ n,ks.length=n:=⟨_,rfl⟩;rw [hn] at Hr4 hnk ⊢;have Hn:=hI hn;clear ho3 hk3 CU hks2 hmem hr4 hcg hb1 hn CN Hr1 Hr0 hri hix hks hes;go_wp2
 go_loopw [23] (fun vi wr=>∃ (kk:Nat) (B:Option Addr) (c:Nat),vi = .int .i64 kk∧kk≤n∧Hid (Run w (fun _=>False) wr [ownC 55 4 (.slice B kk c) kk (itc ((ks.take kk).map (liIt x))),blkC (w.heap.size+1) 45 (rspA 10 0 0 0 ⟨#[]⟩ 0 false B kk c),blkC w.heap.size 45 rz,ownC 9 1 (.slice A3 n c3) n (ks.map Value.string)])) (fun vi _=>n-(intOf vi).toNat)
 case atStart=>exact ⟨0,none,0,rfl,Nat.zero_le _,Hr4⟩
 case round =>
  obtain ⟨kk,B,c,rfl,hkn,hrr⟩:=hrel
  by_cases hlt:kk<n
  ·obtain ⟨key,hkey⟩:∃ key,ks[kk]? = some key:=⟨_,List.getElem?_eq_getElem (by rw [Hn.out];exact hlt)⟩
   obtain ⟨hkz,p,hp⟩:=Hmem.out key (List.mem_of_getElem? hkey);obtain ⟨j,q,hj,hpj,hq,hv⟩:=at_some Hl.out hp;have hko:=hrr.out.own 3 rfl;obtain ⟨gk,hA3⟩:=hko.head (by omega)
   rw [hA3] at hko;have hck:=sl_one1 hko.sl (i:=kk) (x:=Value.string key) (by rw [List.getElem?_map,hkey];rfl)
   rw [Nat.zero_add] at hck;have hin:=Run.start (HS.out _ hrr.out.pureOf);have hcg:wr.cell? ⟨g,9,none⟩=some (.slice a.A x.pls.length a.c):=(hin.blk 0 rfl).cell 9;have hpo:=hin.own 5 rfl;obtain ⟨gp,hAp⟩:=hpo.head (by have:=(List.getElem?_eq_some_iff.1 hpj).1;omega)
   have CF:=rg_find wr.drew _ (mS x.cf.shards) a.gr x.es key (hin.drew.get (P:=rgC (mS x.cf.shards) a.gr x.es) 1 rfl) (by omega)
   rw [hj] at CF;have CF:=hI CF;have hgr:wr.cell? ⟨g,10,none⟩=some (pV a.gr):=(hin.blk 0 rfl).cell 10;have hki:(kk:Int)<(n:Int):=by omega
   have hji:(j:Int)<(x.pls.length:Int):=by have:=(List.getElem?_eq_some_iff.1 hpj).1;omega
   have HA3:=hI hA3;have HAp:=hI hAp;have Hpj:=hI hpj;have Hq:=hI hq;have Hkey:=hI hkey;have Hp:=hI hp;rw [hAp] at hcg;rw [hA3];clear hko hin hpo hA3 hAp hpj hq hkey hp hv hkz hj;go_wp2;refine wp_region_seqS (fun y=>y.cell? ⟨g,9,none⟩=some (.slice (some ⟨gp,0,none⟩) x.pls.length a.c)) [9] [0,1,2,3] (by kernel_rfl) (by kernel_rfl) (by kernel_rfl) hcg ?_
   refine gz4 ?_;refine gz2 ?_
   with_reducible refine seq_move (by decide) (fun K hK=>?_)
   go_simp;refine up_enter ((CF.out).mono ?_);rintro e w4 ⟨rfl,hk4⟩;have hr5:=hrr.out.drew.pure hk4;have hin4:=Run.start (HS.out _ hr5.pureOf);have hcg4:w4.cell? ⟨g,9,none⟩=some (.slice a.A x.pls.length a.c):=(hin4.blk 0 rfl).cell 9;have hpo4:=hin4.own 5 rfl;rw [HAp.out] at hcg4 hpo4;have hcp4:=sl_one1 hpo4.sl (i:=j) (x:=pV q.gp) (by rw [List.getElem?_map,Hq.out];rfl)
   rw [Nat.zero_add] at hcp4;have hpl:=(pl_blk hin4 Hq.out Hpj.out).cell;have hS4:w4.cell? ⟨w.heap.size+1,7,none⟩=some (.slice B kk c):=(hr5.blk 1 rfl).cell 7;have Hr5:=hI hr5;refine ⟨_,rfl,hcg4,hK _ _ ?_⟩;clear hK K CF hk4 hr5 hin4 hpo4 hck hgr hcg;refine gz2 ?_;refine gz13 ?_;go_wp2;refine wp_region_late (fun y=>y.cell? ⟨w.heap.size+1,7,none⟩=some (.slice B kk c)) [11,12,14] [0,1,13] [14] (by kernel_rfl) (by kernel_rfl) (by kernel_rfl) (by kernel_rfl) hS4 ?_
   repeat (with_reducible refine late_free (by decide) (by decide) (fun K hK=>?_);go_simp;first|(refine ex_steadyF ?_ (fun w' hw'=>?_) ?_;rotate_left;(skip;go_simp;first|done|rfl);(refine hK _ _ ?_;clear hK K))|(refine hK _ _ ?_;clear hK K))
   repeat (with_reducible refine late_step (by decide) (by decide) (fun K hK=>?_);go_simp;refine hK _ _ ?_;clear hK K)
   clear hpl hcp4 hcg4 hS4;have hrD:=(Hr5.out.alloc (.cells #[.string p.name,.int .i64 p.drawn,.bool false,.string ⟨#[]⟩] 55)).drew;have hsD:=(hrD.blk 1 rfl).cell 7
   with_reducible refine late_move (by decide) (fun K hK=>?_)
   go_simp;refine up_value ⟨hsD,hK _ _ ?_⟩;clear hK K hsD;obtain ⟨GE,_,hpE,hupE⟩:=hrD.at 0 rfl;have hlit:Sl (w4.alloc (.cells #[.string p.name,.int .i64 p.drawn,.bool false,.string ⟨#[]⟩] 55)).drew (fun b=>b=w4.heap.size) 4 (some ⟨w4.heap.size,0,none⟩) 1 [.string p.name,.int .i64 p.drawn,.bool false,.string ⟨#[]⟩]:=Sl.lit w4 #[.string p.name,.int .i64 p.drawn,.bool false,.string ⟨#[]⟩] 55 4 1 _ rfl rfl
   refine late_move0 (by decide) rfl ?_
   refine up_app Tryz.underlying43 info_li rfl (by omega) hpE hlit (fun u hu=>by simp at hu;rcases hu with rfl|rfl|rfl|rfl <;> rfl) (by omega) (by omega) _ _ rfl rfl rfl (fun vE wE hoE hkE=>?_)
   obtain ⟨AE,cE,rfl,_⟩:=hoE.form;have hli:itc ((ks.take (kk+1)).map (liIt x))=itc ((ks.take kk).map (liIt x))++[.string p.name,.int .i64 p.drawn,.bool false,.string ⟨#[]⟩]:=by
    have h1:liIt x key=⟨p.name,p.drawn,false,⟨#[]⟩⟩:=by unfold liIt;rw [Hp.out]
    rw [List.take_add_one,Hkey.out,Option.toList_some,List.map_append,List.map_singleton,h1];simp [itc,It.cells]
   have hrE:Run w (fun _=>False) wE [ownC 55 4 (.slice AE (kk+1) cE) (kk+1) (itc ((ks.take (kk+1)).map (liIt x))),blkC (w.heap.size+1) 45 (rspA 10 0 0 0 ⟨#[]⟩ 0 false B kk c),blkC w.heap.size 45 rz,ownC 9 1 (.slice A3 n c3) n (ks.map Value.string)]:=by
    rw [hli];exact hupE wE (ownC 55 4 (.slice AE (kk+1) cE) (kk+1) _) (hoE.imp (fun b _ h=>h.elim .inl (fun h=>.inr (by rw [h];exact Nat.le_refl _)))) hkE
   refine ⟨fun _=>(hrE.blk 1 rfl).cell 7,?_⟩;have hcE:=(hrE.blk 1 rfl).cell;have hfE:=(hrE.blk 1 rfl).frozen;have HrF:Hid (Run w (fun _=>False) (wE.setCell ⟨w.heap.size+1,7,none⟩ (.slice AE (kk+1) cE)) [ownC 55 4 (.slice AE (kk+1) cE) (kk+1) (itc ((ks.take (kk+1)).map (liIt x))),blkC (w.heap.size+1) 45 (rspA 10 0 0 0 ⟨#[]⟩ 0 false AE (kk+1) cE),blkC w.heap.size 45 rz,ownC 9 1 (.slice A3 n c3) n (ks.map Value.string)]):=hI (hrE.set 1 rfl 7 (.slice AE (kk+1) cE))
   clear hrD hpE hupE hoE hkE hrE hlit hli
   repeat (with_reducible refine late_free (by decide) (by decide) (fun K hK=>?_);go_simp;first|(refine ex_steadyF ?_ (fun w' hw'=>?_) ?_;rotate_left;(skip;go_simp;first|done|rfl);(refine hK _ _ ?_;clear hK K))|(refine hK _ _ ?_;clear hK K))
   repeat (with_reducible refine late_step (by decide) (by decide) (fun K hK=>?_);go_simp;refine hK _ _ ?_;clear hK K)
   with_reducible refine late_move (by decide) (fun K hK=>?_)
   go_simp;refine up_skip (hK _ _ ?_);clear hK K hcE hfE
   with_reducible refine late_nil ?_
   go_wp2
   go_roundw
   case measure=>simp [intOf];omega
   case rel =>
    rw [HA3.out] at HrF;exact ⟨kk+1,AE,cE,by first|rfl|go_num,by omega,HrF⟩
  ·obtain rfl:kk=n:=by omega
   have hca:=(hrr.out.blk 1 rfl).cell;have hfa:=(hrr.out.blk 2 rfl).frozen;have Hr5:=hrr;go_wp2_with (with_reducible refine stop_store (ty:=45) ?_);refine unheld ?_;refine wp_store_blk rfl _ _ _ rfl rfl rfl (Hr5.out.blk 2 rfl) rfl (by kernel_rfl) (by kernel_rfl) rfl ?_
   intro w9 hb9 hk9;have hr9:=Hr5.out.turn 2 rfl hb9 hk9;have Hb9:=hI hb9;have Hr9:=hI hr9;clear hb9 hk9 hr9
   repeat go_step
   refine bodyPost_ret (results_cell Tryz.results17 rfl Hb9.out Tryz.underlying45 rfl (by kernel_rfl)) rfl ?_
   have h1:=Hr9.out.own 0 rfl;rw [←Hn.out,List.take_length] at h1;refine ⟨B,c,?_,?_,Hr9.out.pureOf⟩
   ·simp only [List.length_map]
    rw [Hks.out,Hn.out]
   ·simp only [List.length_map]
    rw [Hks.out];exact h1.sl.imp (fun b _ h=>h.elim False.elim id)
theorem co_list (w:World) (F:Nat→Prop) (N g:Nat) (x:Co) (t:ByteArray) (h:CoM N w F g x) (ht:t.size≤1000) (hes:x.es.length≤1000) (hix:x.Ix) (hri:Rises x.es) (hks:∀ e∈x.es,e.1.size≤1000) :
  Calls Tryz.prog 17 #[pV g,.string t] w (LiP w (x.list t)):=by
 unfold Co.list;cases hn:nameB t with
 | true=>rw [if_pos rfl];exact co_list1 w F N g x t h hn ht hes hix hri hks
 | false=>rw [if_neg (by decide)];exact co_list0 w g t hn ht
end
section
open Go.RowKit
theorem Run.work {w₀ w:World} {F:Nat→Prop} {N g f:Nat} {x x':Co} {q:Rq} {r:Rs} {OC:Ch} {Ps:List Ch} {args:Array Value} (hr:Run w₀ F w (coC N g x::OC::Ps))
  (hc:∀ G a,a.ps.length=x.pls.length→Star w G [starC (coL N g a x x.pls.length),OC]→Calls Tryz.prog f args w (WkP N g OC w G q r x')) :
  Calls Tryz.prog f args w fun e w'=>∃ (B:Option Addr) (c:Nat),e = .returned (.tuple #[.agg (rspA q.kind r.err r.token r.version r.card r.index r.more none 0 0),.slice B r.items.length c])∧Run w₀ F w' (coC (N+2) g x'::OC::itC B r.items.length r.items::Ps):=by
 obtain ⟨G,hG,hp,hup⟩:=(Run.unflat (Qs:=[coC N g x,OC]) hr).at 0 rfl;obtain ⟨G1,h1,⟨a,hl,hs⟩,h3⟩:=(show Star w G [coC N g x,OC] from hp);refine (hc G a hl ⟨G1,h1,hs,h3⟩).mono ?_;rintro e w' ⟨B,c,he,hst,hk⟩;exact ⟨B,c,he,Run.flat (Qs:=[coC (N+2) g x',OC,itC B r.items.length r.items]) (hup w' (starC [coC (N+2) g x',OC,itC B r.items.length r.items]) hst hk)⟩
def cf1:Cf:=⟨2,0,20006,2,⟨2,4,100,5⟩⟩
theorem conf_any (w:World):Calls Tryz.prog 47 #[] w fun e w'=>e = .returned cf1.val∧Pure w w':=by
 have hb:=Blk.new w 25 #[.int .i64 0,.int .i64 0,.int .i64 0,.int .i64 0,.int .i64 0,.int .i64 0,.int .i64 0,.int .i64 0];have hk:Pure w (w.alloc (.cells #[.int .i64 0,.int .i64 0,.int .i64 0,.int .i64 0,.int .i64 0,.int .i64 0,.int .i64 0,.int .i64 0] 25)):=(Kept.refl _ _).alloc _;go_enter Tryz.func47,Tryz.ntmps47;go_wp2_with (with_reducible refine stop_store (ty:=25) ?_);refine unheld ?_;refine wp_store_blk rfl _ _ _ rfl rfl rfl hb rfl (by kernel_rfl) (by kernel_rfl) rfl ?_
 intro w9 hb9 hk9
 repeat go_step
 refine bodyPost_ret (results_cell Tryz.results47 rfl hb9 Tryz.underlying25 rfl (by kernel_rfl)) rfl ⟨rfl,hk.trans hk9 (fun i hi h=>by omega)⟩
def annB:ByteArray:=⟨#[97,110,110]⟩
def homeB:ByteArray:=⟨#[104,111,109,101]⟩
def fx1:Co:=((Co.new cf1).create annB homeB).2.2
def fop:OpR:=⟨false,⟨#[97]⟩,⟨#[110,97,109,101,58,65,110,110,10]⟩,⟨0,0⟩⟩
def fpl:Pl:=⟨annB,homeB,Cl.new 1 4 5,Lk.none,true,1⟩
theorem f1a:((Co.new cf1).create annB homeB).1=0:=by decide +kernel
theorem f1b:((Co.new cf1).create annB homeB).2.1=1:=by decide +kernel
theorem f2:fx1.find annB homeB=0:=by decide +kernel
theorem f3:fx1.at 0=some fpl:=by kernel_rfl
theorem f4:wrErr fx1 fpl [fop]=(0,0):=by decide +kernel
theorem f5:fx1.counter=1:=by decide +kernel
theorem f6:wrRs 4 fx1 fpl [fop] true=⟨4,0,2,2,⟨#[]⟩,0,false,[]⟩:=by unfold wrRs;rw [f4,f5];rfl
def fx2:Co:=wrCo fx1 0 fpl [fop] true
theorem f7:fx2.counter=2:=by decide +kernel
theorem f8:fx2.alive 0=true:=by decide +kernel
def zR:Array Value:=#[.int .i64 0,.int .i64 0,.int .i64 0,.int .i64 0,.string ⟨#[]⟩,.int .i64 0,.bool false,.slice none 0 0]
def frq:Rq:=⟨4,⟨#[]⟩,homeB,⟨#[97]⟩,fop.card,⟨0,0⟩,[],0,0,0⟩
theorem first27 (w:World):Calls Tryz.prog 6 #[] w fun e w'=>e = .returned (.bool true)∧Pure w w':=by
 have hcf:cf1.okB=true:=by decide
 have hk0:=Co.OkK.new (c:=cf1) hcf (by decide)
 have hk1:=hk0.create annB homeB (by decide) (by decide)
 have H0:=hI hk0;have H1:=hI hk1;clear hk0 hk1;go_enter Tryz.func6,Tryz.ntmps6;go_wp2_with fail;refine (conf_any w).mono ?_;rintro e w1 ⟨rfl,hp1⟩;go_wp2_with fail;refine (co_new1 cf1 w1 hcf).mono ?_;rintro e w2 ⟨g,rfl,hm2,hp2⟩;have hr2:Run w (fun _=>False) w2 [coC 0 g (Co.new cf1)]:=((Run.start (F:=fun _=>False) (w:=w) (Ps:=[]) trivial).pure hp1).add hp2 hm2;have CC:=hr2.turn1 0 rfl (fun G hG hp=>co_create w2 G 0 g (Co.new cf1) annB homeB hp (H0.out.ok (by omega)) (by omega) (by decide) (by decide))
 rw [f1a,f1b] at CC;have CC:=hI CC;clear hr2 hm2 hp1 hp2;go_wp2_with fail;refine (CC.out).mono ?_;rintro e w3 ⟨rfl,hr3⟩;have Hr4:=hI (Run.addBlk (show Run w (fun _=>False) w3 [coC 2 g fx1] from hr3) zR 45);clear hr3 CC;go_wp2_with (with_reducible refine stop_store (ty:=45) ?_);refine unheld ?_;refine wp_store_blk rfl _ _ _ rfl rfl rfl (Hr4.out.blk 0 rfl) rfl (by kernel_rfl) (by kernel_rfl) rfl ?_
 intro w5 hb5 hk5;have Hr5:=hI (Hr4.out.turn 0 rfl hb5 hk5);clear hb5 hk5 Hr4;have CF:=(co_find w5 _ 2 g fx1 annB homeB (Hr5.out.get (P:=coC 2 g fx1) 1 rfl) (by decide) (by decide))
 unfold Reads at CF;rw [f2] at CF;have CF:=hI CF;go_wp2_with fail;refine (CF.out).mono ?_;rintro e w6 ⟨rfl,hk6⟩;have hr6:=((Hr5.out.pure hk6).add (Q:=opsC none 0 []) (Kept.refl _ _) (Sl.nil _ _ _ _)).perm (List.perm_middle (l₁:=[opsC none 0 [],_]) (l₂:=[]));have CW:=Run.work (q:=frq) (r:=wrRs 4 fx1 fpl [fop] true) (x':=fx2) hr6 (fun G a hl h=>co_work_put w6 G 2 g a fx1 0 fpl frq none 0 0 _ hl h f3 rfl (H1.out.ok (by omega)) (by omega) (by decide) rfl)
 rw [f6] at CW;have CW:=hI CW;clear hr6 hk6 CF;go_wp2_with fail;refine (CW.out).mono ?_;rintro e w7 ⟨B,c,rfl,hr7⟩;have Hr8:=hI (Run.addBlk hr7 zR 45);clear hr7 CW;go_wp2_with (with_reducible refine stop_store (ty:=45) ?_);refine unheld ?_;refine wp_store_blk rfl _ _ _ rfl rfl rfl (Hr8.out.blk 0 rfl) rfl (by kernel_rfl) (by kernel_rfl) rfl ?_
 intro w9 hb9 hk9;have hr9:=Hr8.out.turn 0 rfl hb9 hk9;have hc9:=(hr9.blk 0 rfl).cell;have hc8:=(hr9.blk 4 rfl).cell;have CN:=co_counter w9 _ 4 g fx2 (hr9.get (P:=coC 4 g fx2) 1 rfl);rw [f7] at CN;have CL:=co_alive w9 _ 4 g fx2 0 (hr9.get (P:=coC 4 g fx2) 1 rfl);rw [f8] at CL;have CN:=hI CN;have CL:=hI CL;have Hp:=hI hr9.pureOf;clear hb9 hk9 Hr8 hr9;go_wp2_with fail;refine (CN.out).mono ?_
 rintro e w10 ⟨rfl,e10⟩;obtain rfl:=e10.symm;go_wp2_with fail;refine (CL.out).mono ?_;rintro e w11 ⟨rfl,e11⟩;obtain rfl:=e11.symm;go_wp2;go_ret;exact ⟨rfl,Hp.out⟩
end
end Go.Proofs.YtjfpfeapbcjioaaGreat
