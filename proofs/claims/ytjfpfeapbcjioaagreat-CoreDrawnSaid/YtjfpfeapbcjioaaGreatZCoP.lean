/-
  The texts of this claim, put together: CoP.
-/
import Derived.Test.YtjfpfeapbcjioaaGreatZOmB
import Derived.Test.YtjfpfeapbcjioaaGreatZOmP
import Derived.Test.YtjfpfeapbcjioaaGreatZRwP
import Derived.Test.YtjfpfeapbcjioaaGreatZLib
import Derived.Test.YtjfpfeapbcjioaaGreatZId
set_option linter.unusedSimpArgs false
set_option linter.unusedVariables false
set_option maxHeartbeats 12800000
set_option maxRecDepth 100000
namespace Go.Proofs.YtjfpfeapbcjioaaGreat
section
structure Cn where
 kind:Int
 version:Int
deriving DecidableEq
def Cn.val (c:Cn):Value:=.agg #[.int .i64 c.kind,.int .i64 c.version]
def Cn.may (c:Cn):Bool:=if c.kind=0∨c.kind=1∨c.kind=2 then decide (c.version=0) else if c.kind=3 then decide (1≤c.version) else false
def Cn.holds (c:Cn) (there:Bool) (version:Int):Bool:=if c.may=true then (if c.kind=1 then !there else if c.kind=2 then there else if c.kind=3 then there&&decide (version=c.version) else true) else false
structure Qt where
 cols:Int
 cards:Int
 bytes:Int
 log:Int
def Qt.Ok (q:Qt):Prop:=(1≤q.cols∧q.cols≤8)∧(1≤q.cards∧q.cards≤16)∧(1≤q.bytes∧q.bytes≤1048576)∧(1≤q.log∧q.log≤64)
instance (q:Qt):Decidable q.Ok:=by unfold Qt.Ok;infer_instance
def Qt.val (q:Qt):Value:=.agg #[.int .i64 q.cols,.int .i64 q.cards,.int .i64 q.bytes,.int .i64 q.log]
def Qt.okB (q:Qt):Bool:=(decide (1≤q.cols)&&decide (q.cols≤8))&&((decide (1≤q.cards)&&decide (q.cards≤16))&&((decide (1≤q.bytes)&&decide (q.bytes≤1048576))&&(decide (1≤q.log)&&decide (q.log≤64))))
theorem Qt.okB_iff (q:Qt):q.okB=true↔q.Ok:=by
 unfold Qt.okB Qt.Ok;simp only [Bool.and_eq_true,decide_eq_true_eq]
structure Bg where
 q:Qt
 cols:Int
 bytes:Int
def Bg.Fits (b:Bg):Prop:=b.q.Ok∧(0≤b.cols∧b.cols≤b.q.cols)∧(0≤b.bytes∧b.bytes≤b.q.bytes)
def Bg.open (b:Bg):Bool×Bg:=if b.q.cols≤b.cols then (false,b) else (true,{ b with cols:=b.cols+1 })
def Bg.close (b:Bg) (n:Int):Bg:={ b with cols:=max (b.cols-1) 0,bytes:=b.bytes-min (max n 0) b.bytes }
def Bg.move (b:Bg) (n:Int):Bool×Bg:=if b.q.bytes-b.bytes<n then (false,b) else (true,{ b with bytes:=max (b.bytes+n) 0 })
def Bg.room (b:Bg):Int:=b.q.bytes-b.bytes
theorem Bg.open_fits {b:Bg} (h:b.Fits):b.open.2.Fits:=by
 unfold Bg.open;obtain ⟨h1,h2,h3⟩:=h
 split
 ·exact ⟨h1,h2,h3⟩
 ·exact ⟨h1,by simp only;omega,h3⟩
theorem Bg.close_fits {b:Bg} (h:b.Fits) (n:Int):(b.close n).Fits:=by
 obtain ⟨h1,h2,h3⟩:=h;have h4:=h1;unfold Qt.Ok at h4;exact ⟨h1,by simp only [Bg.close];omega,by simp only [Bg.close];omega⟩
theorem Bg.move_fits {b:Bg} (h:b.Fits) (n:Int):(b.move n).2.Fits:=by
 obtain ⟨h1,h2,h3⟩:=h;have h4:=h1;unfold Qt.Ok at h4;unfold Bg.move
 split
 ·exact ⟨h1,h2,h3⟩
 ·exact ⟨h1,h2,by simp only;omega⟩
structure Wt where
 who:Int
 place:Int
 woken:Bool
deriving DecidableEq
def idW (l:List Wt) (who:Int):Int:=idx (fun a=>decide (a.who=who)) l
def addW (l:List Wt) (who place:Int):Bool×List Wt:=if 0≤idW l who then (false,l) else (true,l++[⟨who,place,false⟩])
def wakeW (l:List Wt) (place:Int):List Wt:=l.map fun a=>if a.place=place then { a with woken:=true } else a
structure Al where
 who:Int
 tm:Int
deriving DecidableEq
structure Crd where
 version:Int
 text:ByteArray
structure Cg where
 token:Int
 uid:ByteArray
structure Cl where
 cards:List (En Crd)
 log:List Cg
 lmost:Int
 most:Int
 bytes:Int
 latest:Int
 horizon:Int
structure OpR where
 del:Bool
 uid:ByteArray
 card:ByteArray
 cond:Cn
def Cl.get (c:Cl) (u:ByteArray):Option Crd:=valAt c.cards (kb u)
def tsz:Option Crd→Int|some v=>v.text.size|none=>0
def tvr:Option Crd→Int|some v=>v.version|none=>0
def csz (o:OpR):Int:=if o.del then 0 else o.card.size
def stepMany (c:Cl) (o:OpR) (many:Int):Int:=(if (c.get o.uid).isSome then many-1 else many)+(if o.del then 0 else 1)
def stepGrow (c:Cl) (o:OpR) (grow:Int):Int:=grow-tsz (c.get o.uid)+csz o
def chk1 (c:Cl) (room:Int) (seen:List OpR) (many grow:Int) (o:OpR):Int :=
 if seen.any (fun p=>decide (p.uid=o.uid))=true then 11
 else if o.cond.holds (c.get o.uid).isSome (tvr (c.get o.uid))=false then 6
 else if o.del=true∧(c.get o.uid).isSome=false then 4
 else if c.most<stepMany c o many∨room<stepGrow c o grow then 7 else 0
def chkL (c:Cl) (room:Int):List OpR→Int→Int→List OpR→Int×Int×Int
 | _,_,grow,[]=>(0,grow,0)
 | seen,many,grow,o::l=>if chk1 c room seen many grow o≠0 then (seen.length,0,chk1 c room seen many grow o) else chkL c room (seen++[o]) (stepMany c o many) (stepGrow c o grow) l
def Cl.check (c:Cl) (ops:List OpR) (room:Int):Int×Int×Int:=chkL c room [] c.cards.length 0 ops
def pushL (l:List Cg) (most:Int) (x:Cg):List Cg×Option Cg:=if (l.length:Int)=most then (l.drop 1++[x],l.head?) else (l++[x],none)
def Cl.no (c:Cl) (o:OpR) (token:Int):Bool:=decide (token<c.latest)||((o.del && !(c.get o.uid).isSome)||(!o.del && !(c.get o.uid).isSome&&decide (c.most≤c.cards.length)))
def hzn (h:Int):Option Cg→Int|some g=>max h g.token|none=>h
def Cl.done (c:Cl) (o:OpR) (token:Int):Cl :=
 { c with cards:=(if o.del then delE c.cards (kb o.uid) else putE c.cards o.uid ⟨token,o.card⟩),bytes:=c.bytes-tsz (c.get o.uid)+csz o,log:=(pushL c.log c.lmost ⟨token,o.uid⟩).1,horizon:=hzn c.horizon (pushL c.log c.lmost ⟨token,o.uid⟩).2,latest:=token }
def Cl.apply (c:Cl) (o:OpR) (token:Int):Bool×Cl:=if c.no o token=true then (false,c) else (true,c.done o token)
def sumB (es:List (En Crd)):Int:=(es.map fun e=>(e.2.text.size:Int)).sum
structure Cl.Ok (c:Cl):Prop where
 ri:Rises c.cards
 cm:(c.cards.length:Int)≤c.most∧1≤c.most∧c.most≤1000
 lg:(c.log.length:Int)≤c.lmost∧1≤c.lmost∧c.lmost≤1000
 bt:c.bytes=sumB c.cards
 tx:∀ e∈c.cards,e.2.text.size≤1000000
def Cl.new (birth cards log:Int):Cl:=⟨[],[],max log 1,max cards 1,0,birth,birth⟩
theorem sumB_le:∀ (es:List (En Crd)),(∀ e∈es,e.2.text.size≤1000000)→0≤sumB es∧sumB es≤1000000*es.length
 | [],_=>by simp [sumB]
 | e::es,h=>by
  have h1:=sumB_le es (fun e he=>h e (List.mem_cons_of_mem _ he));have h2:=h e List.mem_cons_self;simp only [sumB,List.map_cons,List.sum_cons,List.length_cons] at h1 ⊢;omega
theorem Cl.Ok.new (birth:Int) {cards log:Int} (h1:cards≤1000) (h2:log≤1000):(Cl.new birth cards log).Ok :=
 ⟨List.Pairwise.nil,by simp [Cl.new];omega,by simp [Cl.new];omega,by simp [Cl.new,sumB],by simp [Cl.new]⟩
theorem Cl.Ok.bytes_le {c:Cl} (h:c.Ok):0≤c.bytes∧c.bytes≤1000000000:=by
 have h1:=sumB_le c.cards h.tx;rw [h.bt];have:=h.cm;omega
theorem sumB_perm {a b:List (En Crd)} (h:a.Perm b):sumB a=sumB b:=by
 induction h with
 | nil=>rfl
 | cons x _ ih=>simp only [sumB,List.map_cons,List.sum_cons] at ih ⊢;rw [ih]
 | swap x y l=>simp only [sumB,List.map_cons,List.sum_cons];omega
 | trans _ _ h1 h2=>exact h1.trans h2
theorem val_mem' {α:Type} {es:List (En α)} {k:ByteArray} {v:α} (h:valAt es (kb k)=some v):(k,v)∈es:=(del_perm h).mem_iff.2 List.mem_cons_self
theorem get_tsz {c:Cl} (h:c.Ok) (u:ByteArray):0≤tsz (c.get u)∧tsz (c.get u)≤1000000:=by
 cases hv:c.get u with
 | none=>simp [tsz]
 | some v =>
  have:=h.tx _ (val_mem' hv);simp only [tsz];simp only at this;omega
theorem sumB_del {es:List (En Crd)} (k:ByteArray):sumB (delE es (kb k))=sumB es-tsz (valAt es (kb k)):=by
 cases hv:valAt es (kb k) with
 | none =>
  have hh:has es (kb k)=false:=by rw [has_val,hv];rfl
  unfold delE;rw [if_neg (by rw [hh];simp)]
  simp [tsz]
 | some v =>
  have:=sumB_perm (del_perm hv);rw [this];simp only [sumB,List.map_cons,List.sum_cons,tsz];omega
theorem put_perm2 {α:Type} {es:List (En α)} {k:ByteArray} (v:α) (hr:Rises es):(putE es k v).Perm ((k,v)::delE es (kb k)):=by
 cases hh:has es (kb k) with
 | false =>
  have:delE es (kb k)=es:=by unfold delE;rw [if_neg (by rw [hh];simp)]
  rw [this];exact put_perm v hh
 | true =>
  have hr2:=rises_put hr k v;have hm:valAt (putE es k v) (kb k)=some v:=by
   have he:putE es k v=es.modify (low es (kb k)) (fun e=>(e.1,v)):=by unfold putE;rw [if_pos hh]
   unfold has at hh;cases hl:es[low es (kb k)]? with
   | none=>rw [hl] at hh;cases hh
   | some e =>
    rw [hl] at hh;have hek:e.1=k:=by simpa [kb_inj] using hh
    refine (val_iff hr2 k v).2 ?_;rw [he];refine List.mem_of_getElem? (i:=low es (kb k)) ?_;rw [List.getElem?_modify,hl];simp [hek]
  have h1:=del_perm hm;refine h1.trans (List.Perm.cons _ ?_);have he:putE es k v=es.modify (low es (kb k)) (fun e=>(e.1,v)):=by unfold putE;rw [if_pos hh]
  have hk:(putE es k v).map (fun e=>kb e.1)=es.map (fun e=>kb e.1):=by
   rw [he];apply List.ext_getElem?;intro i;simp only [List.getElem?_map,List.getElem?_modify];cases es[i]? with
   | none=>rfl
   | some x=>simp only [Option.map_some];split <;> rfl
  have hlow:low (putE es k v) (kb k)=low es (kb k):=by
   unfold low;have:∀ (a b:List (En α)),a.map (fun e=>kb e.1)=b.map (fun e=>kb e.1)→(a.takeWhile fun e=>decide (kb e.1<kb k)).length=(b.takeWhile fun e=>decide (kb e.1<kb k)).length:=by
    intro a
    induction a with
    | nil=>intro b h;cases b with|nil=>rfl|cons _ _=>simp at h
    | cons x a ih =>
     intro b h;cases b with
     | nil=>simp at h
     | cons y b =>
      simp only [List.map_cons,List.cons.injEq] at h;simp only [List.takeWhile_cons,h.1]
      split
      ·simp only [List.length_cons];rw [ih b h.2]
      ·rfl
   exact this _ _ hk
  have hh2:has (putE es k v) (kb k)=true:=by rw [has_val,hm];rfl
  unfold delE;rw [if_pos hh2,if_pos hh,hlow,he];have:∀ (l:List (En α)) (i:Nat),(l.modify i (fun e=>(e.1,v))).eraseIdx i=l.eraseIdx i:=by
   intro l
   induction l with
   | nil=>intro i;simp
   | cons x l ih =>
    intro i;cases i with
    | zero=>simp
    | succ i=>simp [ih]
  rw [this]
theorem delE_len {α:Type} {es:List (En α)} {k:ByteArray}:((delE es (kb k)).length:Int)=es.length-(if (valAt es (kb k)).isSome then 1 else 0):=by
 cases hv:valAt es (kb k) with
 | none =>
  have hh:has es (kb k)=false:=by rw [has_val,hv];rfl
  unfold delE;rw [if_neg (by rw [hh];simp)]
  simp
 | some v =>
  have:=(del_perm hv).length_eq;simp only [List.length_cons] at this;simp;omega
theorem putE_len {α:Type} {es:List (En α)} {k:ByteArray} (v:α) (hr:Rises es):((putE es k v).length:Int)=es.length+1-(if (valAt es (kb k)).isSome then 1 else 0):=by
 have h1:=(put_perm2 (k:=k) v hr).length_eq;have h2:=delE_len (es:=es) (k:=k);simp only [List.length_cons] at h1;omega
theorem pushL_len {l:List Cg} {most:Int} (x:Cg) (h:(l.length:Int)≤most) (h1:1≤most):((pushL l most x).1.length:Int)≤most:=by
 unfold pushL
 split
 ·simp;omega
 ·simp;omega
theorem Cl.Ok.apply {c:Cl} (h:c.Ok) (o:OpR) (token:Int) (hc:o.card.size≤1000000):(c.apply o token).2.Ok:=by
 unfold Cl.apply
 split
 ·exact h
 ·rename_i hn
  have hn':c.no o token=false:=by simpa using hn
  unfold Cl.no at hn';simp only [Bool.or_eq_false_iff,decide_eq_false_iff_not] at hn';obtain ⟨n1,n2,n3⟩:=hn';have hcm:=h.cm;have hsub:∀ e∈delE c.cards (kb o.uid),e∈c.cards:=fun e he=>by
   cases hv:valAt c.cards (kb o.uid) with
   | none =>
    have hh:has c.cards (kb o.uid)=false:=by rw [has_val,hv];rfl
    unfold delE at he
    rwa [if_neg (by rw [hh];simp)] at he
   | some v=>exact (del_perm hv).mem_iff.2 (List.mem_cons_of_mem _ he)
  have hdl:=delE_len (es:=c.cards) (k:=o.uid);have hpl:=putE_len (es:=c.cards) (k:=o.uid) (⟨token,o.card⟩:Crd) h.ri;have hpp:=put_perm2 (es:=c.cards) (k:=o.uid) (⟨token,o.card⟩:Crd) h.ri;cases hd:o.del with
  | true =>
   refine ⟨?_,?_,?_,?_,?_⟩
   ·simp only [Cl.done,hd,if_true];exact rises_del h.ri _
   ·simp only [Cl.done,hd,if_true]
    split at hdl <;> omega
   ·simp only [Cl.done];exact ⟨pushL_len _ h.lg.1 h.lg.2.1,h.lg.2⟩
   ·simp only [Cl.done,hd,if_true,csz,sumB_del,h.bt,Cl.get];omega
   ·simp only [Cl.done,hd,if_true]
    exact fun e he=>h.tx e (hsub e he)
  | false =>
   rw [hd] at n3;refine ⟨?_,?_,?_,?_,?_⟩
   ·simp only [Cl.done,hd];exact rises_put h.ri _ _
   ·simp only [Cl.done,hd]
    simp only [Bool.not_false,Bool.true_and,Bool.and_eq_false_iff,Bool.not_eq_false',decide_eq_false_iff_not] at n3;have:(c.get o.uid).isSome=(valAt c.cards (kb o.uid)).isSome:=rfl;simp only [if_false,Bool.false_eq_true];rw [this] at n3;rcases n3 with n3|n3
    ·rw [n3] at hpl;simp only [if_true] at hpl;omega
    ·split at hpl <;> omega
   ·simp only [Cl.done];exact ⟨pushL_len _ h.lg.1 h.lg.2.1,h.lg.2⟩
   ·simp only [Cl.done,hd,csz,h.bt,Cl.get,if_false,Bool.false_eq_true]
    rw [sumB_perm hpp];have:=sumB_del (es:=c.cards) o.uid;simp only [sumB,List.map_cons,List.sum_cons] at this ⊢;omega
   ·simp only [Cl.done,hd,if_false,Bool.false_eq_true]
    intro e he;rcases List.mem_cons.1 (hpp.mem_iff.1 he) with rfl|he
    ·exact hc
    ·exact h.tx e (hsub e he)
structure Cf where
 conns:Int
 start:Int
 room:Int
 shards:Int
 quota:Qt
def Cf.cells (c:Cf):Array Value:=#[.int .i64 c.conns,.int .i64 c.start,.int .i64 c.room,.int .i64 c.shards,.int .i64 c.quota.cols,.int .i64 c.quota.cards,.int .i64 c.quota.bytes,.int .i64 c.quota.log]
def Cf.val (c:Cf):Value:=.agg c.cells
def Cf.okB (c:Cf):Bool:=(decide (1≤c.conns)&&decide (c.conns≤12)&&decide (0≤c.start)&&decide (20006≤c.room)&&decide (c.room≤40000)&&decide (1≤c.shards)&&decide (c.shards≤16))&&c.quota.okB
structure Pl where
 tenant:ByteArray
 name:ByteArray
 col:Cl
 lock:Lk
 alive:Bool
 drawn:Int
structure Co where
 cf:Cf
 counter:Int
 pls:List Pl
 es:Es
 bg:ByteArray→Bg
 wts:List Wt
 now:Int
 als:List Al
def Co.new (c:Cf):Co:=⟨c,c.start,[],[],fun _=>⟨c.quota,0,0⟩,[],0,[]⟩
def Co.at (x:Co) (id:Int):Option Pl:=if 0≤id then x.pls[id.toNat]? else none
def Co.find (x:Co) (t n:ByteArray):Int:=if (nameB t&&nameB n)=true then fdE x.es (keyB t n) else -1
def Co.alive (x:Co) (id:Int):Bool:=match x.at id with|some p=>p.alive|none=>false
def Co.held (x:Co) (id who:Int):Int:=match x.at id with|some p=>p.lock.st who|none=>0
def updB (f:ByteArray→Bg) (t:ByteArray) (b:Bg):ByteArray→Bg:=fun u=>if u=t then b else f u
def maxTok:Int:=9223372036854775807
def Co.setP (x:Co) (id:Int) (p:Pl):Co:={ x with pls:=x.pls.set id.toNat p }
def Co.lock (x:Co) (id who:Int) (w:Bool):Bool×Co:=match x.at id with|some p=>((p.lock.ask who w).1,x.setP id { p with lock:=(p.lock.ask who w).2 })|none=>(false,x)
def Co.leave (x:Co) (id who:Int):Co:=match x.at id with|some p=>x.setP id { p with lock:=(p.lock.leave who).2 }|none=>x
def Co.unlock (x:Co) (id who:Int) (wake:Bool):Co:=if wake=true then { x.leave id who with wts:=wakeW x.wts id } else x.leave id who
def Co.mayNew (x:Co) (t n:ByteArray):Int:=if ¬(nameB t&&nameB n)=true then 3 else if 0≤fdE x.es (keyB t n) then 5 else if x.cf.quota.cols≤(x.bg t).cols then 7 else if x.counter=maxTok then 9 else 0
def Co.create (x:Co) (t n:ByteArray):Int×Int×Co :=
 if x.mayNew t n≠0 then (x.mayNew t n,0,x) else
  (0,x.counter+1,{ x with counter:=x.counter+1,bg:=updB x.bg t (x.bg t).open.2,es:=(addE x.es (keyB t n) x.pls.length).2,pls:=x.pls++[⟨t,n,Cl.new (x.counter+1) x.cf.quota.cards x.cf.quota.log,Lk.none,true,x.counter+1⟩] })
def applyL (c:Cl) (ops:List OpR) (token:Int):Cl:=ops.foldl (fun c o=>(c.apply o token).2) c
def Co.write (x:Co) (id:Int) (p:Pl) (ops:List OpR) (now:Bool):Co :=
 { x with counter:=x.counter+1,bg:=updB x.bg p.tenant ((x.bg p.tenant).move (p.col.check ops (x.bg p.tenant).room).2.1).2,pls:=x.pls.set id.toNat { p with drawn:=x.counter+1,col:=if now then applyL p.col ops (x.counter+1) else p.col } }
def Co.drop (x:Co) (id:Int) (p:Pl):Co :=
 { x with counter:=x.counter+1,bg:=updB x.bg p.tenant ((x.bg p.tenant).close p.col.bytes),es:=(remE x.es (keyB p.tenant p.name) id).2,pls:=x.pls.set id.toNat { p with alive:=false } }
structure Co.Ok (x:Co):Prop where
 cf:x.cf.okB=true
 ct:0≤x.counter∧x.counter≤maxTok
 pl:∀ p∈x.pls,p.col.Ok∧p.lock.size≤50000∧p.tenant.size≤1000∧p.name.size≤1000
 bd:∀ t,(x.bg t).Fits∧(x.bg t).q=x.cf.quota
 nw:0≤x.now∧x.now≤1099511627776
 ln:x.pls.length≤50000∧x.es.length≤50000∧x.wts.length≤50000∧x.als.length≤50000
theorem cf_quota {c:Cf} (h:c.okB=true):c.quota.Ok:=by
 unfold Cf.okB at h;simp only [Bool.and_eq_true] at h;exact (Qt.okB_iff _).1 h.2
theorem Co.Ok.new {c:Cf} (h:c.okB=true) (hs:c.start≤maxTok):(Co.new c).Ok:=by
 have hq:=cf_quota h;have h0:=hq;unfold Qt.Ok at h0;unfold Cf.okB at h;simp only [Bool.and_eq_true,decide_eq_true_eq] at h;refine ⟨by unfold Cf.okB Co.new;simp [h],⟨by simp only [Co.new];omega,hs⟩,by simp [Co.new],fun t=>⟨⟨hq,?_,?_⟩,rfl⟩,by simp [Co.new],by simp [Co.new]⟩
 ·simp only [Co.new];omega
 ·simp only [Co.new];omega
end
end Go.Proofs.YtjfpfeapbcjioaaGreat
