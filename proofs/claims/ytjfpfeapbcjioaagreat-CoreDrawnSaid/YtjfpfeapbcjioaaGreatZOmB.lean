/-
  The texts of this claim, put together: OmB, RgP.
-/
import Derived.Sort.Walk0
import Derived.RangeFuncCalls
import Derived.Test.YtjfpfeapbcjioaaGreatZOmP
import Derived.Test.YtjfpfeapbcjioaaGreatZStr
set_option linter.unusedSimpArgs false
set_option linter.unusedVariables false
set_option maxHeartbeats 12800000
set_option maxRecDepth 100000
namespace Go.Proofs.YtjfpfeapbcjioaaGreat
section
def valAt {α:Type} (es:List (En α)) (t:List UInt8):Option α:=match es[low es t]? with|some e=>if kb e.1=t then some e.2 else none|none=>none
theorem has_val {α:Type} (es:List (En α)) (t:List UInt8):has es t=(valAt es t).isSome:=by
 unfold has valAt;cases es[low es t]? with
 | none=>rfl
 | some e =>
  simp only
  by_cases h:kb e.1=t
  ·rw [if_pos h];simp [h]
  ·rw [if_neg h];simp [h]
section
variable {α:Type}
def underE (es:List (En α)) (t:List UInt8):List (En α):=(es.drop (low es t)).takeWhile (fun e=>Lib.hasPrefix (kb e.1) t)
def encE (enc:α→Value) (e:En α):Array Value:=#[.string e.1,enc e.2]
theorem takeWhile_all {α:Type} {p:α→Bool}:∀ (l:List α) (m:Nat),m≤l.length→(∀ j e,j<m→l[j]? = some e→p e=true)→(∀ e,l[m]? = some e→p e=false)→l.takeWhile p=l.take m
 | [],m,h,_,_=>by simp
 | x::l,0,_,_,h2=>by
  rw [List.takeWhile_cons_of_neg (by rw [h2 x rfl];simp)]
  rfl
 | x::l,m+1,h,h1,h2=>by
  rw [List.takeWhile_cons_of_pos (h1 0 x (by omega) rfl),List.take_succ_cons,takeWhile_all l m (by simpa using h) (fun j e hj he=>h1 (j+1) e (by omega) (by simpa using he)) (fun e he=>h2 e (by simpa using he))]
theorem take_prefix {α:Type} {p:α→Bool}:∀ (l:List α) (m:Nat),(∀ j e,j<m→l[j]? = some e→p e=true)→l.take m <+: l.takeWhile p
 | [],m,_=>by simp
 | x::l,0,_=>by simp
 | x::l,m+1,h1=>by
  rw [List.takeWhile_cons_of_pos (h1 0 x (by omega) rfl),List.take_succ_cons,List.prefix_cons_inj]
  exact take_prefix l m (fun j e hj he=>h1 (j+1) e (by omega) (by simpa using he))
end
section
variable {α:Type}
theorem low_mem {es:List (En α)} (hr:Rises es) {i:Nat} {e:En α} (h:es[i]? = some e):low es (kb e.1)=i :=
 low_of es i (Nat.le_of_lt (List.getElem?_eq_some_iff.1 h).1) (fun _ _ hp hx=>hr.get hp hx h) (fun e' he'=>by rw [h] at he';injection he' with he';subst he';exact lt_irr _)
theorem has_iff {es:List (En α)} (hr:Rises es) (t:List UInt8):has es t=true ↔ ∃ e∈es,kb e.1=t:=by
 constructor
 ·intro h
  unfold has at h;cases hl:es[low es t]? with
  | none=>rw [hl] at h;cases h
  | some e=>rw [hl] at h;exact ⟨e,List.mem_of_getElem? hl,by simpa using h⟩
 ·rintro ⟨e,he,rfl⟩
  obtain ⟨i,hi⟩:=List.getElem?_of_mem he;unfold has;rw [low_mem hr hi,hi];simp
theorem val_mem {es:List (En α)} (hr:Rises es) {i:Nat} {e:En α} (h:es[i]? = some e):valAt es (kb e.1)=some e.2:=by
 unfold valAt;rw [low_mem hr h,h];simp
end
def plc (ks:List ByteArray) (t:ByteArray):Nat:=(ks.takeWhile fun x=>decide (kb x<kb t)).length
def inn (ks:List ByteArray) (t:ByteArray):Bool:=match ks[plc ks t]? with|some x=>decide (x=t)|none=>false
theorem hp_cons (x y:UInt8) (p b:List UInt8):Lib.hasPrefix (y::b) (x::p)=(x == y&&Lib.hasPrefix b p):=by
 simp [Lib.hasPrefix,List.isPrefixOf]
theorem hp_nil (b:List UInt8):Lib.hasPrefix b []=true:=by simp [Lib.hasPrefix]
section
variable {α:Type}
theorem pre_mid:∀ p a b:List UInt8,¬a<p→a<b→Lib.hasPrefix b p=true→Lib.hasPrefix a p=true
 | [],a,b,_,_,_=>hp_nil a
 | x::p,a,[],_,_,hb=>by simp [Lib.hasPrefix] at hb
 | x::p,[],y::b,h,_,_=>absurd (by simp) h
 | x::p,z::a,y::b,h1,h2,hb=>by
  simp only [hp_cons,Bool.and_eq_true,beq_iff_eq] at hb ⊢;rw [List.cons_lt_cons_iff] at h1 h2;obtain ⟨rfl,hb⟩:=hb;have hz:z=x:=by
   rcases h2 with h2|⟨h2,_⟩
   ·exact absurd (.inl h2) h1
   ·exact h2
  subst hz;refine ⟨rfl,pre_mid p a b (fun h=>h1 (.inr ⟨rfl,h⟩)) ?_ hb⟩;rcases h2 with h2|⟨_,h2⟩
  ·exact absurd h2 (by rw [UInt8.lt_iff_toNat_lt];omega)
  ·exact h2
theorem pre_not:∀ p a:List UInt8,a<p→Lib.hasPrefix a p=false
 | [],a,h=>by cases a <;> simp at h
 | x::p,[],_=>by simp [Lib.hasPrefix]
 | x::p,z::a,h=>by
  rw [List.cons_lt_cons_iff] at h;simp only [hp_cons,Bool.and_eq_false_iff];rcases h with h|⟨rfl,h⟩
  ·left
   simp only [beq_eq_false_iff_ne,ne_eq];rintro rfl;rw [UInt8.lt_iff_toNat_lt] at h;omega
  ·exact .inr (pre_not p a h)
theorem takeWhile_filter {β:Type} (q:β→Bool):∀ l:List β,(l.Pairwise fun a b=>q b=true→q a=true)→l.takeWhile q=l.filter q
 | [],_=>rfl
 | a::l,h=>by
  rw [List.pairwise_cons] at h;cases ha:q a with
  | true=>rw [List.takeWhile_cons_of_pos ha,List.filter_cons_of_pos ha,takeWhile_filter q l h.2]
  | false =>
   rw [List.takeWhile_cons_of_neg (by simp [ha]),List.filter_cons_of_neg (by simp [ha])]
   symm
   rw [List.filter_eq_nil_iff];intro b hb hq;rw [h.1 b hb hq] at ha;cases ha
theorem under_filter {es:List (En α)} (hr:Rises es) (t:List UInt8):underE es t=es.filter (fun e=>Lib.hasPrefix (kb e.1) t):=by
 have h0:es.filter (fun e=>Lib.hasPrefix (kb e.1) t)=(es.take (low es t)).filter (fun e=>Lib.hasPrefix (kb e.1) t)++(es.drop (low es t)).filter (fun e=>Lib.hasPrefix (kb e.1) t):=by
  rw [←List.filter_append,List.take_append_drop]
 have h1:(es.take (low es t)).filter (fun e=>Lib.hasPrefix (kb e.1) t)=[]:=by
  rw [List.filter_eq_nil_iff];intro e he;obtain ⟨j,hj⟩:=List.getElem?_of_mem he;rw [List.getElem?_take] at hj
  split at hj
  ·rw [pre_not _ _ (low_before (by assumption) hj)];simp
  ·cases hj
 rw [h0,h1,List.nil_append];unfold underE;refine takeWhile_filter _ _ ?_;rw [List.pairwise_iff_getElem];intro i j hi hj hij hq;have hgi:es[low es t+i]? = some (es.drop (low es t))[i]:=by rw [←List.getElem?_drop,List.getElem?_eq_getElem hi]
 have hgj:es[low es t+j]? = some (es.drop (low es t))[j]:=by rw [←List.getElem?_drop,List.getElem?_eq_getElem hj]
 refine pre_mid _ _ _ ?_ (hr.get (by omega) hgi hgj) hq
 intro hlt;cases hl:es[low es t]? with
 | none =>
  have:=List.getElem?_eq_none_iff.1 hl;rw [List.getElem?_eq_none (by omega)] at hgi
  cases hgi
 | some e0 =>
  exact hr.above hl (low_at hl) _ _ (by omega) hgi hlt
end
end
section
abbrev Es:=List (En Int)
theorem val_iff {α:Type} {es:List (En α)} (hr:Rises es) (k:ByteArray) (v:α):valAt es (kb k)=some v↔(k,v)∈es:=by
 constructor
 ·intro h
  unfold valAt at h;cases hl:es[low es (kb k)]? with
  | none=>rw [hl] at h;cases h
  | some e =>
   rw [hl] at h;simp only at h
   split at h
   ·rename_i he
    injection h with h
    have:e=(k,v):=by rw [←h,←kb_inj.1 he]
    rw [←this];exact List.mem_of_getElem? hl
   ·cases h
 ·intro h
  obtain ⟨i,hi⟩:=List.getElem?_of_mem h;exact val_mem hr hi
theorem put_perm {α:Type} {es:List (En α)} {k:ByteArray} (v:α) (h:has es (kb k)=false):(putE es k v).Perm ((k,v)::es):=by
 unfold putE;rw [if_neg (by rw [h];simp)]
 unfold insE;have h1:(es.take (low es (kb k))++[(k,v)]++es.drop (low es (kb k))).Perm ((k,v)::(es.take (low es (kb k))++es.drop (low es (kb k)))):=by
  rw [List.append_assoc];exact List.perm_middle
 rwa [List.take_append_drop] at h1
theorem del_perm {α:Type} {es:List (En α)} {k:ByteArray} {v:α} (h:valAt es (kb k)=some v):es.Perm ((k,v)::delE es (kb k)):=by
 have hh:has es (kb k)=true:=by rw [has_val,h];rfl
 unfold delE;rw [if_pos hh];unfold valAt at h;cases hl:es[low es (kb k)]? with
 | none=>rw [hl] at h;cases h
 | some e =>
  rw [hl] at h;simp only at h
  split at h
  ·rename_i he
   injection h with h
   have he':e=(k,v):=by rw [←h,←kb_inj.1 he]
   obtain ⟨h1,h2⟩:=List.getElem?_eq_some_iff.1 hl;have h3:es=es.take (low es (kb k))++(k,v)::es.drop (low es (kb k)+1):=by
    rw [←he',←h2,←List.drop_eq_getElem_cons h1,List.take_append_drop]
   rw [List.eraseIdx_eq_take_drop_succ];have h4:(es.take (low es (kb k))++(k,v)::es.drop (low es (kb k)+1)).Perm ((k,v)::(es.take (low es (kb k))++es.drop (low es (kb k)+1))):=List.perm_middle
   rwa [←h3] at h4
  ·cases h
theorem flat_set {α:Type} {f f':List α} {x:α} (hp:f'.Perm (x::f)):∀ {ms:List (List α)} {i:Nat},ms[i]? = some f→(ms.set i f').flatten.Perm (x::ms.flatten)
 | [],i,h=>by simp at h
 | g::ms,0,h=>by
  simp at h;subst h;simpa using hp.append_right ms.flatten
 | g::ms,i+1,h=>by
  have ih:=flat_set hp (ms:=ms) (i:=i) (by simpa using h)
  simp only [List.set_cons_succ,List.flatten_cons];exact (ih.append_left g).trans List.perm_middle
structure Shd (sh:ByteArray→Nat) (ms:List Es) (es:Es):Prop where
 rise:Rises es
 each:∀ f∈ms,Rises f
 home:∀ (i:Nat) f,ms[i]? = some f→∀ e∈f,sh e.1=i
 lt:∀ k,sh k<ms.length
 perm:ms.flatten.Perm es
 nn:∀ e∈es,0≤e.2
def fdV:Option Int→Int|some v=>v|none=>-1
def fdE (es:Es) (k:ByteArray):Int:=fdV (valAt es (kb k))
section
variable {sh:ByteArray→Nat} {ms:List Es} {es:Es} {f:Es} {k:ByteArray}
theorem Shd.get (h:Shd sh ms es) (k:ByteArray):∃ f,ms[sh k]? = some f:=⟨_,List.getElem?_eq_getElem (h.lt k)⟩
theorem Shd.val (h:Shd sh ms es) (hf:ms[sh k]? = some f):valAt f (kb k)=valAt es (kb k):=by
 have hrf:=h.each f (List.mem_of_getElem? hf);apply Option.ext;intro v;rw [val_iff hrf,val_iff h.rise,←h.perm.mem_iff,List.mem_flatten];constructor
 ·intro hm
  exact ⟨f,List.mem_of_getElem? hf,hm⟩
 ·rintro ⟨g,hg,hm⟩
  obtain ⟨i,hi⟩:=List.getElem?_of_mem hg;have hs:=h.home i g hi _ hm;simp only at hs;subst hs;rw [hf] at hi;injection hi with hi;subst hi;exact hm
theorem Shd.has (h:Shd sh ms es) (hf:ms[sh k]? = some f):has f (kb k)=has es (kb k):=by rw [has_val,has_val,h.val hf]
theorem Shd.len (h:Shd sh ms es) (hf:ms[sh k]? = some f):f.length≤es.length:=by
 rw [←h.perm.length_eq];have:f.Sublist ms.flatten:=List.sublist_flatten_of_mem (List.mem_of_getElem? hf);exact this.length_le
theorem fd_pos (h:Shd sh ms es) (k:ByteArray):0≤fdE es k↔Go.Proofs.YtjfpfeapbcjioaaGreat.has es (kb k)=true:=by
 rw [has_val];unfold fdE fdV;cases hv:valAt es (kb k) with
 | none=>simp
 | some v=>simpa using h.nn _ ((val_iff h.rise k v).1 hv)
theorem Shd.put (h:Shd sh ms es) (hf:ms[sh k]? = some f) {v:Int} (hv:0≤v) (hh:Go.Proofs.YtjfpfeapbcjioaaGreat.has es (kb k)=false):Shd sh (ms.set (sh k) (putE f k v)) (putE es k v):=by
 have hrf:=h.each f (List.mem_of_getElem? hf);have hpf:=put_perm v (h.has hf ▸ hh:Go.Proofs.YtjfpfeapbcjioaaGreat.has f (kb k)=false);have hpe:=put_perm v hh;refine ⟨rises_put h.rise k v,fun g hg=>?_,fun i g hi e he=>?_,fun x=>by rw [List.length_set];exact h.lt x,?_,fun e he=>?_⟩
 ·rcases List.mem_or_eq_of_mem_set hg with hg|rfl
  ·exact h.each g hg
  ·exact rises_put hrf k v
 ·rw [List.getElem?_set] at hi
  split at hi
  ·rename_i hk
   subst hk;rw [if_pos (h.lt k)] at hi;injection hi with hi;subst hi;rcases List.mem_cons.1 (hpf.mem_iff.1 he) with rfl|he
   ·rfl
   ·exact h.home _ f hf e he
  ·exact h.home i g hi e he
 ·exact (flat_set hpf hf).trans ((h.perm.cons _).trans hpe.symm)
 ·rcases List.mem_cons.1 (hpe.mem_iff.1 he) with rfl|he
  ·exact hv
  ·exact h.nn e he
theorem Shd.del (h:Shd sh ms es) (hf:ms[sh k]? = some f):Shd sh (ms.set (sh k) (delE f (kb k))) (delE es (kb k)):=by
 have hrf:=h.each f (List.mem_of_getElem? hf);cases hv:valAt es (kb k) with
 | none =>
  have h1:Go.Proofs.YtjfpfeapbcjioaaGreat.has es (kb k)=false:=by rw [has_val,hv];rfl
  have h2:Go.Proofs.YtjfpfeapbcjioaaGreat.has f (kb k)=false:=by rw [h.has hf];exact h1
  have e1:delE es (kb k)=es:=by unfold delE;rw [if_neg (by rw [h1];simp)]
  have e2:delE f (kb k)=f:=by unfold delE;rw [if_neg (by rw [h2];simp)]
  have e3:ms.set (sh k) f=ms:=by
   obtain ⟨hl,rfl⟩:=List.getElem?_eq_some_iff.1 hf;exact List.set_getElem_self hl
  rw [e1,e2,e3];exact h
 | some v =>
  have hpe:=del_perm hv;have hpf:=del_perm (h.val hf ▸ hv:valAt f (kb k)=some v);have hsub:∀ e∈delE es (kb k),e∈es:=fun e he=>hpe.mem_iff.2 (List.mem_cons_of_mem _ he);refine ⟨rises_del h.rise _,fun g hg=>?_,fun i g hi e he=>?_,fun x=>by rw [List.length_set];exact h.lt x,?_,fun e he=>h.nn e (hsub e he)⟩
  ·rcases List.mem_or_eq_of_mem_set hg with hg|rfl
   ·exact h.each g hg
   ·exact rises_del hrf _
  ·rw [List.getElem?_set] at hi
   split at hi
   ·rename_i hk
    subst hk;rw [if_pos (h.lt k)] at hi;injection hi with hi;subst hi;exact h.home _ f hf e (hpf.mem_iff.2 (List.mem_cons_of_mem _ he))
   ·exact h.home i g hi e he
  ·have h1:=flat_set hpf (ms:=ms.set (sh k) (delE f (kb k))) (i:=sh k) (by rw [List.getElem?_set,if_pos rfl,if_pos (h.lt k)])
   rw [List.set_set,show ms.set (sh k) f=ms from by
    obtain ⟨hl,rfl⟩:=List.getElem?_eq_some_iff.1 hf;exact List.set_getElem_self hl] at h1
   exact (h1.symm.trans (h.perm.trans hpe)).cons_inv
def addE (es:Es) (k:ByteArray) (id:Int):Bool×Es:=if id<0∨0≤fdE es k then (false,es) else (true,putE es k id)
def remE (es:Es) (k:ByteArray) (id:Int):Bool×Es:=if id<0∨¬fdE es k=id then (false,es) else (true,delE es (kb k))
theorem add_len (es:Es) (k:ByteArray) (id:Int):(addE es k id).2.length≤es.length+1:=by
 unfold addE
 split
 ·exact Nat.le_succ _
 ·exact putE_le es k id
theorem rem_len (es:Es) (k:ByteArray) (id:Int):(remE es k id).2.length≤es.length:=by
 unfold remE
 split
 ·exact Nat.le_refl _
 ·simp only
  unfold delE
  split
  ·rw [List.length_eraseIdx];split <;> omega
  ·exact Nat.le_refl _
def unE (es:Es) (p:ByteArray):List ByteArray:=(es.filter fun e=>Lib.hasPrefix (kb e.1) (kb p)).map Prod.fst
theorem flat_filter {α:Type} (q:α→Bool) (ms:List (List α)):(ms.map (fun f=>f.filter q)).flatten=ms.flatten.filter q:=by
 induction ms with
 | nil=>rfl
 | cons f ms ih=>rw [List.map_cons,List.flatten_cons,ih,List.flatten_cons,List.filter_append]
theorem Shd.under (h:Shd sh ms es) (p:ByteArray):((ms.map fun f=>underE f (kb p)).flatten.map Prod.fst).Perm (unE es p):=by
 have e1:(ms.map fun f=>underE f (kb p))=ms.map (fun f=>f.filter fun e=>Lib.hasPrefix (kb e.1) (kb p)):=List.map_congr_left (fun f hf=>under_filter (h.each f hf) _);rw [e1,flat_filter];exact (h.perm.filter _).map _
theorem unE_rise (hr:Rises es) (p:ByteArray):(unE es p).Pairwise fun a b=>kb a<kb b:=by
 unfold unE;rw [List.pairwise_map];exact List.Pairwise.filter _ hr
theorem Shd.nil (sh:ByteArray→Nat) (m:Nat) (h:∀ k,sh k<m):Shd sh (List.replicate m []) [] :=
 ⟨List.Pairwise.nil,fun f hf=>by rw [(List.mem_replicate.1 hf).2];exact List.Pairwise.nil,fun i f hf e he=>by
  have:=List.mem_of_getElem? hf;rw [(List.mem_replicate.1 this).2] at he;exact absurd he (by simp),fun k=>by rw [List.length_replicate];exact h k,by simp,fun e he=>by cases he⟩
end
end
end Go.Proofs.YtjfpfeapbcjioaaGreat
