/-
  The texts of this claim, put together: OmI, OmJ, OmK, OmD, OmW, OmE.
-/
import Derived.Deep.RegionLaw
import Derived.Test.YtjfpfeapbcjioaaGreatZOmR
import Derived.Test.YtjfpfeapbcjioaaGreatZRowD
import Derived.Test.YtjfpfeapbcjioaaGreatZOmP
set_option linter.unusedSimpArgs false
set_option linter.unusedVariables false
set_option maxHeartbeats 12800000
set_option maxRecDepth 100000
namespace Go.Proofs.YtjfpfeapbcjioaaGreat
section
open Go.RowKit
theorem ecs_append {α:Type} (enc:α→Value) (a b:List (En α)):ecs enc (a++b)=ecs enc a++ecs enc b:=by simp [ecs]
theorem ecs_take {α:Type} (enc:α→Value) (es:List (En α)) (i:Nat):ecs enc (es.take i)=(ecs enc es).take (i*2):=by
 induction es generalizing i with
 | nil=>simp [ecs]
 | cons e es ih =>
  cases i with
  | zero=>simp [ecs]
  | succ i =>
   simp only [ecs,List.take_succ_cons,List.flatMap_cons] at ih ⊢;rw [ih,show (i+1)*2=(enCells enc e).length+i*2 from by simp [enCells];omega,List.take_length_add_append]
theorem ecs_drop {α:Type} (enc:α→Value) (es:List (En α)) (i:Nat):ecs enc (es.drop i)=(ecs enc es).drop (i*2):=by
 induction es generalizing i with
 | nil=>simp [ecs]
 | cons e es ih =>
  cases i with
  | zero=>simp [ecs]
  | succ i =>
   simp only [ecs,List.drop_succ_cons,List.flatMap_cons] at ih ⊢;rw [ih,show (i+1)*2=(enCells enc e).length+i*2 from by simp [enCells];omega,List.drop_length_add_append]
def InsP {α:Type} (E:TypeId) (enc:α→Value) (F:Nat→Prop) (n:Nat) (es:List (En α)) (w:World) (r:Ending) (w':World):Prop :=
 ∃ A' c',r = .returned (.slice A' (n+1) c')∧Own w' (fun b=>F b∨w.heap.size≤b) E 2 (.slice A' (n+1) c') (n+1) (ecs enc es)∧Kept F w w'
theorem info_i:(Tryz.prog.info? 238).map (fun i=>(i.zero,i.size,i.bytes))=some (some (.agg #[.string ⟨#[]⟩,.int .i64 0]),2,24):=by kernel_rfl
theorem i_ins_end (es:List (En Int)) (A:Option Addr) (n c vb:Nat) (e:En Int) (w:World) (F:Nat→Prop) (ho:Own w F 238 2 (.slice A n c) n (ecs (Value.int .i64) es)) (hn:n≤100000) (hv:Blk w vb 238 #[.string e.1,.int .i64 e.2]) :
  Calls Tryz.prog 192 #[.slice A n c,.int .i64 n,.slice (some ⟨vb,0,none⟩) 1 1] w (InsP 238 (Value.int .i64) F n (es++[e]) w):=by
 have hl:=sl_len ho.sl;obtain ⟨A',c',hAc,hnc,hcm,_,_⟩:=ho.form;obtain ⟨rfl,rfl⟩:A=A'∧c=c':=by injection hAc with h1 _ h2;exact ⟨h1,h2⟩
 unfold maxLen at hcm;have hsv:Sl w (fun b=>b=vb) 2 (some ⟨vb,0,none⟩) 1 (enCells (Value.int .i64) e):=⟨rfl,fun _=>⟨vb,0,rfl,rfl,hv.lt,fun j hj=>by rw [Nat.zero_add,hv.cell];simp [enCells]⟩⟩
 have Ho:=hI ho;have Hsv:=hI hsv;have hcs:(A=none∧n=0∧c=0)∨(∃ g,A=some ⟨g,0,none⟩):=by
  rcases ho.1.2 with ⟨h1,h2⟩|⟨g,cap,cur,h1,_⟩
  ·injection h1 with h1 h3 h4;exact .inl ⟨h1,h3,h4⟩
  ·injection h1 with h1 _ _;exact .inr ⟨g,h1⟩
 clear hl hAc ho hsv hv;rcases hcs with ⟨rfl,rfl,rfl⟩|⟨g,rfl⟩
 ·go_enter Tryz.func192,Tryz.ntmps192
  go_wp2_with (at_builtin;refine held ?_)
  refine unheld ?_;refine gz33 ?_;intro v' w8 ho8 hk8;obtain ⟨A8,c8,rfl,_⟩:=ho8.form;go_wp2;go_ret;refine ⟨A8,c8,rfl,?_,hk8⟩;rw [ecs_append];simpa [ecs] using ho8.imp (fun b _ h=>by rcases h with h|h;exact .inl h;exact .inr (by omega))
 ·by_cases hcn:c=n
  ·go_enter Tryz.func192,Tryz.ntmps192
   go_wp2_with (at_builtin;refine held ?_)
   refine unheld ?_;refine gz33 ?_;intro v' w8 ho8 hk8;obtain ⟨A8,c8,rfl,_⟩:=ho8.form;go_wp2;go_ret;refine ⟨A8,c8,rfl,?_,hk8⟩;rw [ecs_append];simpa [ecs] using ho8.imp (fun b _ h=>by rcases h with h|h;exact .inl h;exact .inr (by omega))
  ·go_enter Tryz.func192,Tryz.ntmps192
   go_wp2_with (at_builtin;refine held ?_)
   refine unheld ?_;refine gz33 ?_;intro v' w8 ho8 hk8;obtain ⟨A8,c8,rfl,_⟩:=ho8.form;go_wp2;go_ret;refine ⟨A8,c8,rfl,?_,hk8⟩;rw [ecs_append];simpa [ecs] using ho8.imp (fun b _ h=>by rcases h with h|h;exact .inl h;exact .inr (by omega))
end
section
open Go.RowKit
theorem splice_two {α:Type} (L X Y:List α) (i:Nat) (hi:i+X.length+Y.length≤L.length):(splice (splice L i X) (i+X.length) Y).take (i+X.length+Y.length)=L.take i++X++Y:=by
 have hl:(L.take i).length=i:=by rw [List.length_take];omega
 have e1:(splice L i X).take (i+X.length)=L.take i++X:=by
  unfold splice;rw [←List.append_assoc,List.take_append_of_le_length (by rw [List.length_append,hl];omega),List.take_of_length_le (by rw [List.length_append,hl];omega)]
 rw [show splice (splice L i X) (i+X.length) Y=(splice L i X).take (i+X.length)++(Y++(splice L i X).drop (i+X.length+Y.length)) from rfl,e1,←List.append_assoc];rw [List.take_append_of_le_length (by rw [List.length_append,List.length_append,hl];omega),List.take_of_length_le (by rw [List.length_append,List.length_append,hl];omega)]
theorem i_ins_grow (es:List (En Int)) (A:Option Addr) (n c i vb:Nat) (e:En Int) (w:World) (F:Nat→Prop) (ho:Own w F 238 2 (.slice A n c) n (ecs (Value.int .i64) es)) (hn:n≤100000) (hv:Blk w vb 238 #[.string e.1,.int .i64 e.2]) (hi:i<n) (hc:c<n+1) :
  Calls Tryz.prog 192 #[.slice A n c,.int .i64 i,.slice (some ⟨vb,0,none⟩) 1 1] w (InsP 238 (Value.int .i64) F n (es.take i++[e]++es.drop i) w):=by
 have hl:=sl_len ho.sl;obtain ⟨g,cur,rfl,hFg,hg,hnc,hcm,hcs,hct⟩:=own_row ho (by omega)
 obtain rfl:c=n:=by omega
 obtain ⟨i0,hi0,hz0,hsz0,hby0⟩:=info_parts info_i;have hz1:¬((i:Int)=(c:Int)):=by omega
 have hroom:(c:Int)<(c:Int)+1:=by omega
 have hin:i≤c:=by omega
 have hci:¬c=i:=by omega
 have hel:(ecs (Value.int .i64) es).length=c*2:=by rw [ecs_length];omega
 have hcc:∀ j v,(ecs (Value.int .i64) es)[j]? = some v→w.cell? ⟨g,j,none⟩=some v:=fun j v hj=>by
  have h:=(List.getElem?_eq_some_iff.1 hj).1;rw [hg.cell,←hj,←hct,List.getElem?_take,if_pos (by omega),Array.getElem?_toList]
 have hmi:((c:Int)+1-(i:Int))=((c+1-i:Nat):Int):=by omega
 have hsum:i+(c+1-i)=c+1:=by omega
 have hap:=fun ty=>run_append_makeK (P:=Tryz.prog) w 233 3 ty 238 i0 _ .i64 .i64 Tryz.underlying233 Tryz.underlying3 hi0 hz0 ⟨g,0,none⟩ i c (c+1-i) ((ecs (Value.int .i64) es).take (i*2)) (by rw [List.length_take,hsz0];omega)
  (fun j u hj=>by
   rw [Addr.add_lit,Nat.zero_add];have h:=(List.getElem?_eq_some_iff.1 hj).1;rw [List.length_take] at h;rw [List.getElem?_take,if_pos (by omega)] at hj
   exact hcc j u hj) (by omega) (by omega) (by omega) (by rw [hby0];omega) (by omega)
 rw [hsum] at hap;obtain ⟨cap,hcap⟩:∃ cap,grownCap w (c+1) c 238=cap:=⟨_,rfl⟩;have hge:=grownCap_ge w (c+1) c 238;have hle:=grownCap_le_maxLen w (c+1) c 238 (by unfold maxLen;omega)
 rw [hcap] at hap hge hle;obtain ⟨cur1,hcur1⟩:∃ cur1,((ecs (Value.int .i64) es).take (i*2)).toArray++Builtin.zeroCells (Value.agg #[.string ⟨#[]⟩,.int .i64 0]).cells (c+1-i)++Builtin.zeroCells (Value.agg #[.string ⟨#[]⟩,.int .i64 0]).cells (cap-(c+1))=cur1:=⟨_,rfl⟩;have hs1:cur1.size=cap*2:=by
  rw [←hcur1];simp only [Array.size_append,List.size_toArray,List.length_take,size_zeroCells,hel];have:(Value.agg #[.string ⟨#[]⟩,.int .i64 0]).cells.size=2:=by kernel_rfl
  rw [this];omega
 have ht1:cur1.toList.take (i*2)=(ecs (Value.int .i64) es).take (i*2):=by
  rw [←hcur1,Array.append_assoc,Array.toList_append,List.take_append_of_le_length (by simp [hel];omega)]
  simp only [List.take_take,Nat.min_self]
 rw [hcur1] at hap;obtain ⟨N,hN⟩:∃ N,w.heap.size=N:=⟨_,rfl⟩;obtain ⟨W1,hW1⟩:∃ W1,w.drew.alloc (.cells cur1 238)=W1:=⟨_,rfl⟩;have hB1:Blk W1 N 238 cur1:=by rw [←hW1,←hN];exact Blk.new w.drew _ _
 have hp1:Pure w W1:=by rw [←hW1];exact (Kept.refl _ w).drew.alloc _
 have hgN:g<N:=by rw [←hN];exact hg.lt
 have hvN:vb<N:=by rw [←hN];exact hv.lt
 rw [hW1,hN] at hap;have hapr:=hI hap;have hcp1:∀ ty dc,(Builtin.copy_ #[233,233] ty #[.slice (some ⟨N,i*2,none⟩) (c+1-i) dc,.slice (some ⟨vb,0,none⟩) 1 1]).run Tryz.prog W1 = .ok (goInt 1) (W1.setRow N (splice cur1.toList (i*2) (enCells (Value.int .i64) e)).toArray):=fun ty dc=>by
  have hmin:Nat.min 1 (c+1-i)=1:=by simp only [Nat.min_def];split <;> omega
  have:=run_copyK (P:=Tryz.prog) W1 233 233 ty 238 2 N (i*2) (c+1-i) dc ⟨vb,0,none⟩ 1 1 cur1 238 (enCells (Value.int .i64) e) Tryz.underlying233 (by rw [hi0];simp [hsz0]) hB1 (by rw [hmin];rfl)
   (fun j v hj=>by rw [Addr.add_lit,Nat.zero_add,(hv.kept hp1 (fun h=>h)).cell];simpa [enCells] using hj) (by rw [hs1];simp [enCells];omega) (by intro u hu;simp [enCells] at hu;rcases hu with rfl|rfl <;> rfl)
  rw [hmin] at this;rw [this];simp [splice]
 obtain ⟨cur2,hcur2⟩:∃ cur2,splice cur1.toList (i*2) (enCells (Value.int .i64) e)=cur2:=⟨_,rfl⟩;have hs2:cur2.length=cap*2:=by rw [←hcur2,length_splice _ _ _ (by simp [enCells,hs1];omega)];simpa using hs1
 rw [hcur2] at hcp1;obtain ⟨W2,hW2⟩:∃ W2,W1.setRow N cur2.toArray=W2:=⟨_,rfl⟩;have hB2:Blk W2 N 238 cur2.toArray:=by rw [←hW2];exact setRow_blk hB1 _
 have hk2:Kept (· = N) W1 W2:=by rw [←hW2];exact setRow_kept _ _ _
 rw [hW2] at hcp1;have hcp1r:=hI hcp1;have hcp2:∀ ty dc sc,(Builtin.copy_ #[233,233] ty #[.slice (some ⟨N,(i+1)*2,none⟩) (c-i) dc,.slice (some ⟨g,i*2,none⟩) (c-i) sc]).run Tryz.prog W2.drew = .ok (goInt (c-i:Nat)) (W2.drew.setRow N (splice cur2 ((i+1)*2) ((ecs (Value.int .i64) es).drop (i*2))).toArray):=fun ty dc sc=>by
  have hmin:Nat.min (c-i) (c-i)=c-i:=Nat.min_self _;have:=run_copyK (P:=Tryz.prog) W2.drew 233 233 ty 238 2 N ((i+1)*2) (c-i) dc ⟨g,i*2,none⟩ (c-i) sc cur2.toArray 238 ((ecs (Value.int .i64) es).drop (i*2)) Tryz.underlying233 (by rw [hi0];simp [hsz0]) hB2 (by rw [hmin,List.length_drop,hel];omega)
   (fun j v hj=>by
    rw [Addr.add_lit];rw [List.getElem?_drop] at hj;have h1:=hcc (i*2+j) v hj;have hgk:=(hg.kept hp1 (fun h=>h)).kept hk2 (by omega)
    have h2:=hgk.cell (i*2+j);have h3:=hg.cell (i*2+j);exact (h2.trans h3.symm).trans h1) (by simp [hs2,hel];omega) (by
    intro u hu;have hu':=List.mem_of_mem_drop hu;simp only [ecs,List.mem_flatMap,enCells,List.mem_cons,List.not_mem_nil,or_false] at hu';obtain ⟨x,_,rfl|rfl⟩:=hu' <;> rfl)
  rw [hmin] at this;rw [this];simp [splice]
 obtain ⟨cur3,hcur3⟩:∃ cur3,splice cur2 ((i+1)*2) ((ecs (Value.int .i64) es).drop (i*2))=cur3:=⟨_,rfl⟩;have hs3:cur3.length=cap*2:=by rw [←hcur3,length_splice _ _ _ (by simp [hel,hs2];omega)];exact hs2
 have hfin:cur3.take ((c+1)*2)=ecs (Value.int .i64) (es.take i++[e]++es.drop i):=by
  have h1:=splice_two cur1.toList (enCells (Value.int .i64) e) ((ecs (Value.int .i64) es).drop (i*2)) (i*2) (by simp [enCells,hs1,hel];omega)
  rw [←hcur3,←hcur2,ecs_append,ecs_append,ecs_take,ecs_drop,←ht1];have e1:i*2+(enCells (Value.int .i64) e).length=(i+1)*2:=by simp [enCells];omega
  have e2:(i+1)*2+((ecs (Value.int .i64) es).drop (i*2)).length=(c+1)*2:=by rw [List.length_drop,hel];omega
  rw [e1,e2] at h1;rw [h1];simp [ecs]
 rw [hcur3] at hcp2;have hcp2r:=hI hcp2;have hB3:Blk (W2.drew.setRow N cur3.toArray) N 238 cur3.toArray:=setRow_blk (w:=W2.drew) hB2 _;have hk3:Kept F w (W2.drew.setRow N cur3.toArray):=by
  have h1:Kept (· = N) W1 (W2.drew.setRow N cur3.toArray):=hk2.drew.same (setRow_kept W2.drew N cur3.toArray);exact cz75
 have HB3:=hI hB3;have Hk3:=hI hk3;have HN:=hI hN;clear hap hcp1 hcp2 hB1 hB2 hB3 hk2 hk3 hp1 hcc hW1 hW2 hcur1 hcur2 hcur3 hcap ht1 ho hct hel hN;go_enter Tryz.func192,Tryz.ntmps192;go_wp2_with (at_builtin;refine held ?_);refine unheld ?_;refine gz81 ?_;have hNi:¬cap=i:=by omega
 have hNi1:¬cap=i+1:=by omega
 have hcp1:=hcp1r.out;go_wp2_with (simp only [hcp1]);clear hcp1;have hi1:((i:Int)+1).toNat=i+1:=by omega
 have hwi:IntKind.i64.wrap ((i:Int)+1)=(i:Int)+1:=by rw [IntKind.wrap_i64];omega
 have hb1:(0:Int)≤(i:Int)+1∧(i:Int)+1≤(c:Int)+1:=by omega
 have hb2:(i:Int)≤(c:Int):=by omega
 have hcp2:=hcp2r.out
 go_region
 clear hcp2;go_wp2;go_ret;refine ⟨some ⟨N,0,none⟩,cap,rfl,?_,Hk3.out⟩;refine ⟨⟨by rw [ecs_length];simp;omega,.inr ⟨N,cap,cur3.toArray,rfl,Nat.zero_le _,HB3.out,by omega,hle,by simp [hs3],by simpa using hfin⟩⟩,fun b hb=>?_⟩
 simp [Value.ownBlock] at hb;exact .inr (by have:=HN.out;omega)
end
section
open Go.RowKit
theorem splice_rev {α:Type} (L X Y:List α) (i:Nat) (hi:i+X.length+Y.length≤L.length):(splice (splice L (i+X.length) Y) i X).take (i+X.length+Y.length)=L.take i++X++Y:=by
 have hl:(L.take (i+X.length)).length=i+X.length:=by rw [List.length_take];omega
 have hli:(L.take i).length=i:=by rw [List.length_take];omega
 have e0:splice L (i+X.length) Y=L.take (i+X.length)++(Y++L.drop (i+X.length+Y.length)):=rfl;have e1:(splice L (i+X.length) Y).take i=L.take i:=by
  rw [e0,List.take_append_of_le_length (by omega),List.take_take,Nat.min_eq_left (by omega)]
 have e2:(splice L (i+X.length) Y).drop (i+X.length)=Y++L.drop (i+X.length+Y.length):=by
  rw [e0];exact List.drop_left' hl
 rw [show splice (splice L (i+X.length) Y) i X=(splice L (i+X.length) Y).take i++(X++(splice L (i+X.length) Y).drop (i+X.length)) from rfl,e1,e2];rw [←List.append_assoc,←List.append_assoc,List.take_append_of_le_length (by simp only [List.length_append,hli];omega),List.take_of_length_le (by simp only [List.length_append,hli];omega)]
theorem blk_shape {w:World} {g:Nat} {t:TypeId} {cs:Array Value} (h:Blk w g t cs):w.shape? g=some (t,cs.size):=by
 unfold Blk at h;simp [World.shape?,h]
theorem i_ins_room (es:List (En Int)) (A:Option Addr) (n c i vb:Nat) (e:En Int) (w:World) (F:Nat→Prop) (ho:Own w F 238 2 (.slice A n c) n (ecs (Value.int .i64) es)) (hn:n≤100000) (hv:Blk w vb 238 #[.string e.1,.int .i64 e.2]) (hvF:¬F vb) (hi:i<n) (hc:n+1≤c) :
  Calls Tryz.prog 192 #[.slice A n c,.int .i64 i,.slice (some ⟨vb,0,none⟩) 1 1] w (InsP 238 (Value.int .i64) F n (es.take i++[e]++es.drop i) w):=by
 have hl:=sl_len ho.sl;obtain ⟨g,cur,rfl,hFg,hg,hnc,hcm,hcs,hct⟩:=own_row ho (by omega)
 have hcm':=hcm;unfold maxLen at hcm';obtain ⟨i0,hi0,hz0,hsz0,hby0⟩:=info_parts info_i;have hvg:vb≠g:=fun h=>hvF (h ▸ hFg);have hel:(ecs (Value.int .i64) es).length=n*2:=by rw [ecs_length];omega
 have hcc:∀ j v,(ecs (Value.int .i64) es)[j]? = some v→w.cell? ⟨g,j,none⟩=some v:=fun j v hj=>by
  have h:=(List.getElem?_eq_some_iff.1 hj).1;rw [hg.cell,←hj,←hct,List.getElem?_take,if_pos (by omega),Array.getElem?_toList]
 have hov:∀ lb cb,(callFunc 236 #[.slice (some ⟨vb,0,none⟩) 1 1,.slice (some ⟨g,(i+1)*2,none⟩) lb cb]).run Tryz.prog w = .ok (.value (.bool false)) w:=fun lb cb=>by
  rw [run_callFunc_extern Tryz.func236 (by kernel_rfl) (by kernel_rfl) (by kernel_rfl) (e:=Extern.SlicesOverlaps.overlaps #[233,233] #[4]) (by kernel_rfl),
   Lib.run_overlaps_apart w 233 4 238 Tryz.underlying233 2 Tryz.sizeOf238 ⟨vb,0,none⟩ ⟨g,(i+1)*2,none⟩ 1 1 lb cb hvg 238 238 2 cur.size (blk_shape hv) (blk_shape hg) (by omega) (hv.frozen 0) (hv.frozen 2)]
  rfl
 have hcp1:∀ ty dc sc,(Builtin.copy_ #[233,233] ty #[.slice (some ⟨g,(i+1)*2,none⟩) (n-i) dc,.slice (some ⟨g,i*2,none⟩) (n+1-i) sc]).run Tryz.prog w.drew = .ok (goInt (n-i:Nat)) (w.drew.setRow g (splice cur.toList ((i+1)*2) ((ecs (Value.int .i64) es).drop (i*2))).toArray):=fun ty dc sc=>by
  have hmin:Nat.min (n+1-i) (n-i)=n-i:=by simp only [Nat.min_def];split <;> omega
  have:=run_copyK (P:=Tryz.prog) w.drew 233 233 ty 238 2 g ((i+1)*2) (n-i) dc ⟨g,i*2,none⟩ (n+1-i) sc cur 238 ((ecs (Value.int .i64) es).drop (i*2)) Tryz.underlying233 (by rw [hi0];simp [hsz0]) hg (by rw [hmin,List.length_drop,hel];omega)
   (fun j v hj=>by
    rw [Addr.add_lit];rw [List.getElem?_drop] at hj;exact hcc (i*2+j) v hj) (by simp [hcs,hel];omega) (by
    intro u hu;have hu':=List.mem_of_mem_drop hu;simp only [ecs,List.mem_flatMap,enCells,List.mem_cons,List.not_mem_nil,or_false] at hu';obtain ⟨x,_,rfl|rfl⟩:=hu' <;> rfl)
  rw [hmin] at this;rw [this];simp [splice]
 obtain ⟨cur2,hcur2⟩:∃ cur2,splice cur.toList ((i+1)*2) ((ecs (Value.int .i64) es).drop (i*2))=cur2:=⟨_,rfl⟩;have hs2:cur2.length=c*2:=by rw [←hcur2,length_splice _ _ _ (by simp [hel,hcs];omega)];simpa using hcs
 rw [hcur2] at hcp1;obtain ⟨W2,hW2⟩:∃ W2,w.drew.setRow g cur2.toArray=W2:=⟨_,rfl⟩;have hB2:Blk W2 g 238 cur2.toArray:=by rw [←hW2];exact setRow_blk (w:=w.drew) hg _
 have hk2:Kept (· = g) w W2:=by rw [←hW2];exact (Kept.refl _ w).drew.same (setRow_kept w.drew g cur2.toArray)
 rw [hW2] at hcp1;have hcp2:∀ ty dc,(Builtin.copy_ #[233,233] ty #[.slice (some ⟨g,i*2,none⟩) (n+1-i) dc,.slice (some ⟨vb,0,none⟩) 1 1]).run Tryz.prog W2 = .ok (goInt 1) (W2.setRow g (splice cur2 (i*2) (enCells (Value.int .i64) e)).toArray):=fun ty dc=>by
  have hmin:Nat.min 1 (n+1-i)=1:=by simp only [Nat.min_def];split <;> omega
  have:=run_copyK (P:=Tryz.prog) W2 233 233 ty 238 2 g (i*2) (n+1-i) dc ⟨vb,0,none⟩ 1 1 cur2.toArray 238 (enCells (Value.int .i64) e) Tryz.underlying233 (by rw [hi0];simp [hsz0]) hB2 (by rw [hmin];rfl)
   (fun j v hj=>by rw [Addr.add_lit,Nat.zero_add,(hv.kept hk2 hvg).cell];simpa [enCells] using hj) (by simp [enCells,hs2];omega) (by intro u hu;simp [enCells] at hu;rcases hu with rfl|rfl <;> rfl)
  rw [hmin] at this;rw [this];simp [splice]
 obtain ⟨cur3,hcur3⟩:∃ cur3,splice cur2 (i*2) (enCells (Value.int .i64) e)=cur3:=⟨_,rfl⟩;have hs3:cur3.length=c*2:=by rw [←hcur3,length_splice _ _ _ (by simp [enCells,hs2];omega)];exact hs2
 have hfin:cur3.take ((n+1)*2)=ecs (Value.int .i64) (es.take i++[e]++es.drop i):=by
  have h1:=splice_rev cur.toList (enCells (Value.int .i64) e) ((ecs (Value.int .i64) es).drop (i*2)) (i*2) (by simp [enCells,hcs,hel];omega)
  have e1:i*2+(enCells (Value.int .i64) e).length=(i+1)*2:=by simp [enCells];omega
  have e2:(i+1)*2+((ecs (Value.int .i64) es).drop (i*2)).length=(n+1)*2:=by rw [List.length_drop,hel];omega
  have e3:cur.toList.take (i*2)=(ecs (Value.int .i64) es).take (i*2):=by rw [←hct,List.take_take,Nat.min_eq_left (by omega)]
  rw [e1,e2,hcur2,hcur3,e3] at h1;rw [h1,ecs_append,ecs_append,ecs_take,ecs_drop];simp [ecs]
 rw [hcur3] at hcp2;have hB3:Blk (W2.setRow g cur3.toArray) g 238 cur3.toArray:=setRow_blk hB2 _;have hk3:Kept F w (W2.setRow g cur3.toArray):=(hk2.same (setRow_kept W2 g cur3.toArray)).mono (fun j _ h=>by have h2:j=g:=h;rw [h2];exact hFg)
 have HB3:=hI hB3;have Hk3:=hI hk3;have hcp1r:=hI hcp1;have hcp2r:=hI hcp2;have hovr:=hI hov;clear hcp1 hcp2 hov hB2 hB3 hk2 hk3 hcc hW2 hcur2 hcur3 ho hct hel hcm;have hz1:¬((i:Int)=(n:Int)):=by omega
 have hroom:(n:Int)+1≤(c:Int):=by omega
 have hin:i≤n:=by omega
 have hci:¬c=i:=by omega
 have hci1:¬c=i+1:=by omega
 have hi1:((i:Int)+1).toNat=i+1:=by omega
 have hn1:((n:Int)+1).toNat=n+1:=by omega
 have hwi:IntKind.i64.wrap ((i:Int)+1)=(i:Int)+1:=by rw [IntKind.wrap_i64];omega
 have hb1:(0:Int)≤(i:Int)+1∧(i:Int)+1≤(n:Int)+1:=by omega
 have hb2:(i:Int)≤(n:Int)+1∧(i:Int)≤(n:Int):=by omega
 go_enter Tryz.func192,Tryz.ntmps192
 have hov:=hovr.out;go_wp2_with (simp only [hov]);clear hov;have hcp1:=hcp1r.out
 go_region
 clear hcp1;have hcp2:=hcp2r.out;go_wp2_with (simp only [hcp2]);go_ret;refine ⟨some ⟨g,0,none⟩,c,rfl,?_,Hk3.out⟩;refine ⟨⟨by rw [ecs_length];simp;omega,.inr ⟨g,c,cur3.toArray,rfl,Nat.zero_le _,HB3.out,hc,by unfold maxLen;omega,by simp [hs3],by simpa using hfin⟩⟩,fun b hb=>?_⟩
 simp [Value.ownBlock] at hb;subst hb;exact .inl hFg
theorem i_insert (es:List (En Int)) (A:Option Addr) (n c i vb:Nat) (e:En Int) (w:World) (F:Nat→Prop) (ho:Own w F 238 2 (.slice A n c) n (ecs (Value.int .i64) es)) (hn:n≤100000) (hv:Blk w vb 238 #[.string e.1,.int .i64 e.2]) (hvF:¬F vb) (hi:i≤n) :
  Calls Tryz.prog 192 #[.slice A n c,.int .i64 i,.slice (some ⟨vb,0,none⟩) 1 1] w (InsP 238 (Value.int .i64) F n (es.take i++[e]++es.drop i) w):=by
 have hl:=sl_len ho.sl
 by_cases h:i=n
 ·subst h
  have:=i_ins_end es A i c vb e w F ho hn hv
  rwa [show es.take i++[e]++es.drop i=es++[e] from by rw [List.take_of_length_le (by omega),List.drop_eq_nil_of_le (by omega),List.append_nil]]
 ·by_cases hc:n+1≤c
  ·exact i_ins_room es A n c i vb e w F ho hn hv hvF (by omega) hc
  ·exact i_ins_grow es A n c i vb e w F ho hn hv (by omega) (by omega)
end
section
open Go.RowKit
theorem i_del (xs:List Value) (h1:∀ u∈xs,u.oneCell'=true) (A:Option Addr) (n c i j:Nat) (w:World) (F:Nat→Prop) (ho:Own w F 238 2 (.slice A n c) n xs) (hn:n≤1000000) (hij:i≤j) (hj:j≤n) :
  Calls Tryz.prog 204 #[.slice A n c,.int .i64 i,.int .i64 j] w (DelP 238 2 F (n-(j-i)) (xs.take (i*2)++xs.drop (j*2)) w):=by
 have hxl:xs.length=n*2:=ho.1.1
 by_cases hlt:i<j
 ·obtain ⟨g,cur,rfl,hFg,hg,hnc,hcm,hcs,hct⟩:=own_row ho (by omega)
  have hcm':=hcm;unfold maxLen at hcm';obtain ⟨i0,hi0,hz0,hsz0,hby0⟩:=info_parts info_i;have hcc:∀ q v,xs[q]? = some v→w.cell? ⟨g,q,none⟩=some v:=fun q v hq=>by
   have h:=(List.getElem?_eq_some_iff.1 hq).1;rw [hg.cell,←hq,←hct,List.getElem?_take,if_pos (by omega),Array.getElem?_toList]
  have hld:(loadCellsFrom ⟨g,j*2,none⟩ 0 ((n-j)*2) #[]).run Tryz.prog w.drew = .ok (xs.drop (j*2)).toArray w.drew:=by
   have:=run_loadCells_list (P:=Tryz.prog) w.drew ⟨g,j*2,none⟩ (xs.drop (j*2)) (fun q u hq=>by
    rw [Addr.add_lit];rw [List.getElem?_drop] at hq;exact hcc (j*2+q) u hq)
   rw [show (xs.drop (j*2)).length=(n-j)*2 from by rw [List.length_drop,hxl];omega] at this
   exact this
  have hst:(storeCells ⟨g,i*2,none⟩ (xs.drop (j*2))).run Tryz.prog w.drew = .ok () (w.drew.setRow g (splice cur.toList (i*2) (xs.drop (j*2))).toArray):=by
   have:=run_storeCells_at Tryz.prog g (i*2) 238 (xs.drop (j*2)) 0 cur w.drew hg (by rw [List.length_drop,hxl,hcs];omega) (fun u hu=>h1 u (List.mem_of_mem_drop hu))
   rw [this];simp [splice]
  have hap0:∀ ty ad cc,j=n→(Builtin.append_ #[233,233] ty #[.slice (some ⟨g,0,none⟩) i c,.slice ad 0 cc]).run Tryz.prog w.drew =
    .ok (.slice (some ⟨g,0,none⟩) i c) w.drew:=fun ty ad cc _=>by
   cases ad with
   | none=>simp [Builtin.append_,run_underlying Tryz.underlying233,sizeOf,typeInfo,hi0,Builtin.lenOf,Builtin.firstCells,show i≤c by omega,storeCells]
   | some ad =>
    have:=run_append_room (P:=Tryz.prog) w.drew 233 ty 238 i0 Tryz.underlying233 hi0 g i c cur hg ad 0 cc [] (by simp) (by simp) (by simp) (by omega) (by rw [hsz0,hcs];simp;omega)
    rw [this,hsz0,Nat.add_zero];have hself:(cur.toList.take (i*2)++[]++cur.toList.drop (i*2+([]:List Value).length)).toArray=cur:=by simp
    rw [hself,setRow_self w.drew g cur 238 (0,0) hg]
  obtain ⟨cur2,hcur2⟩:∃ cur2,splice cur.toList (i*2) (xs.drop (j*2))=cur2:=⟨_,rfl⟩;have hs2:cur2.length=c*2:=by rw [←hcur2,length_splice _ _ _ (by rw [List.length_drop,hxl];simp [hcs];omega)];simpa using hcs
  have hself:j=n→w.drew.setRow g cur2.toArray=w.drew:=fun he=>by
   have:cur2.toArray=cur:=by
    rw [←hcur2];unfold splice;rw [List.drop_eq_nil_of_le (by rw [hxl,he];exact Nat.le_refl _)]
    simp
   rw [this,setRow_self w.drew g cur 238 (0,0) hg]
  have ht2:cur2.take ((n-(j-i))*2)=xs.take (i*2)++xs.drop (j*2):=by
   rw [←hcur2];unfold splice;rw [←List.append_assoc,List.take_append_of_le_length (by simp [hxl,hcs];omega),List.take_of_length_le (by simp [hxl,hcs];omega),←hct,List.take_take,Nat.min_eq_left (by omega)]
  rw [hcur2] at hst;obtain ⟨W2,hW2⟩:∃ W2,w.drew.setRow g cur2.toArray=W2:=⟨_,rfl⟩;have hB2:Blk W2 g 238 cur2.toArray:=by rw [←hW2];exact setRow_heap w.drew g cur _ 238 (0,0) hg
  have hk2:Kept (· = g) w W2:=by rw [←hW2];exact (Kept.refl _ w).drew.same (setRow_kept w.drew g cur2.toArray)
  rw [hW2] at hst hself;obtain ⟨m,hm⟩:∃ m,n-(j-i)=m:=⟨_,rfl⟩;have hm1:i+(n-j)=m:=by omega
  have hmn:m<n:=by omega
  rw [hm] at ht2 ⊢;obtain ⟨cur3,hcur3⟩:∃ cur3,cur2.take (m*2)++(Builtin.zeroCells ((.agg #[.string ⟨#[]⟩,.int .i64 0]):Value).cells (n-m)).toList++cur2.drop (m*2+(n-m)*2)=cur3:=⟨_,rfl⟩;have hz5:((.agg #[.string ⟨#[]⟩,.int .i64 0]):Value).cells.size=2:=by kernel_rfl
  have hs3:cur3.length=c*2:=by
   rw [←hcur3];simp only [List.length_append,List.length_take,List.length_drop,Array.length_toList,size_zeroCells,hz5,hs2];omega
  have hclr:∀ ty cc,(Builtin.clear_ #[233] ty #[.slice (some ⟨g,m*2,none⟩) (n-m) cc]).run Tryz.prog W2 = .ok (.tuple #[]) (W2.setRow g cur3.toArray):=fun ty cc=>by
   have:=run_clearK (P:=Tryz.prog) W2 233 238 ty (.agg #[.string ⟨#[]⟩,.int .i64 0]) 2 Tryz.underlying233 (fun w=>Tryz.zeroValue238 w) hz5 (by simp [Value.cells,Value.oneCell']) g (m*2) (n-m) cc cur2.toArray 238 hB2 (by rw [List.size_toArray,hs2];omega)
   rw [this];simp only [hcur3]
  have hfin:cur3.take (m*2)=xs.take (i*2)++xs.drop (j*2):=by
   rw [←hcur3,List.append_assoc,List.take_append_of_le_length (by simp [hs2];omega),List.take_take,Nat.min_self,ht2]
  have hlen:(xs.take (i*2)++xs.drop (j*2)).length=m*2:=by simp [hxl];omega
  have hB3:Blk (W2.setRow g cur3.toArray) g 238 cur3.toArray:=setRow_heap W2 g cur2.toArray _ 238 (0,0) hB2;have hkF:Kept F w (W2.setRow g cur3.toArray):=(hk2.same (setRow_kept W2 g cur3.toArray)).mono (fun j _ h=>by have h2:j=g:=h;rw [h2];exact hFg)
  have HB3:=hI hB3;have HkF:=hI hkF;have Hfin:=hI hfin;have Hlen:=hI hlen;have Hs3:=hI hs3;have Hcm:=hI hcm;have Hst:=hI hst;have Hld:=hI hld;have Hap0:=hI hap0;have Hclr:=hI hclr;have Hself:=hI hself;clear hcc hst hld hap0 hclr hB3 hB2 hk2 hkF hfin ht2 hlen hs3 hs2 hcur2 hcur3 hW2 hself hct hcs ho h1 hxl hcm hi0 hz0 hsz0 hby0 hz5;have q1:¬((i:Int)=(j:Int)):=by omega
  have q2:(i:Int)≤(j:Int)∧(j:Int)≤(n:Int)∧(n:Int)≤(c:Int):=by omega
  have q3:i≤c∧j≤c∧m≤c:=by omega
  have q4:¬c=i:=by omega
  have q5:¬c=m:=by omega
  have q6:¬((i:Int)<0)∧¬((j:Int)<0):=by omega
  by_cases hjn:j=n
  ·obtain rfl:m=i:=by omega
   have hself:=Hself.out hjn;subst hjn;have hap0:∀ ty ad cc,(Builtin.append_ #[233,233] ty #[.slice (some ⟨g,0,none⟩) m c,.slice ad 0 cc]).run Tryz.prog w.drew = .ok (.slice (some ⟨g,0,none⟩) m c) w.drew:=fun ty ad cc=>Hap0.out ty ad cc rfl;have Hap0:=hI hap0;have hclr:=Hclr.out;rw [hself] at hclr HB3 HkF;have Hclr:=hI hclr;clear hap0 hclr hself
   by_cases hcj:c=j
   ·subst hcj
    go_enter Tryz.func204,Tryz.ntmps204
    go_wp2;have hap0:=Hap0.out
    go_region
    clear hap0;have hclr:=Hclr.out;go_wp2_with (simp only [hclr]);go_ret;refine ⟨some ⟨g,0,none⟩,c,rfl,?_,HkF.out⟩;refine ⟨⟨by rw [Hlen.out],.inr ⟨g,c,cur3.toArray,rfl,Nat.zero_le _,HB3.out,by omega,Hcm.out,by rw [←Hs3.out];simp,by simpa using Hfin.out⟩⟩,fun b hb=>?_⟩
    simp [Value.ownBlock] at hb;subst hb;exact .inl hFg
   ·go_enter Tryz.func204,Tryz.ntmps204
    go_wp2;have hap0:=Hap0.out
    go_region
    clear hap0;have hclr:=Hclr.out;go_wp2_with (simp only [hclr]);go_ret;refine ⟨some ⟨g,0,none⟩,c,rfl,?_,HkF.out⟩;refine ⟨⟨by rw [Hlen.out],.inr ⟨g,c,cur3.toArray,rfl,Nat.zero_le _,HB3.out,by omega,Hcm.out,by rw [←Hs3.out];simp,by simpa using Hfin.out⟩⟩,fun b hb=>?_⟩
    simp [Value.ownBlock] at hb;subst hb;exact .inl hFg
  ·have hjl:j<n:=by omega
   have q7:¬c=j:=by omega
   have q8:i+(n-j)≤c:=by omega
   go_enter Tryz.func204,Tryz.ntmps204
   go_wp2;have hst:=Hst.out;have hld:=Hld.out
   go_region
   clear hst hld;have hclr:=Hclr.out;go_wp2_with (simp only [hclr]);go_ret;refine ⟨some ⟨g,0,none⟩,c,rfl,?_,HkF.out⟩;refine ⟨⟨by rw [Hlen.out],.inr ⟨g,c,cur3.toArray,rfl,Nat.zero_le _,HB3.out,by omega,Hcm.out,by rw [←Hs3.out];simp,by simpa using Hfin.out⟩⟩,fun b hb=>?_⟩
   simp [Value.ownBlock] at hb;subst hb;exact .inl hFg
 ·obtain rfl:i=j:=by omega
  obtain ⟨A',c',hAc,hnc,hcm,_,_⟩:=ho.form;obtain ⟨rfl,rfl⟩:A=A'∧c=c':=by injection hAc with h1 _ h2;exact ⟨h1,h2⟩
  unfold maxLen at hcm;have Ho:=hI ho;have q1:(i:Int)≤(n:Int)∧(n:Int)≤(c:Int):=by omega
  have q3:i≤c:=by omega
  have q6:¬((i:Int)<0):=by omega
  have hcs:(A=none∧n=0∧c=0)∨(∃ g,A=some ⟨g,0,none⟩):=by
   rcases ho.1.2 with ⟨h1,h2⟩|⟨g,cap,cur,h1,_⟩
   ·injection h1 with h1 h3 h4;exact .inl ⟨h1,h3,h4⟩
   ·injection h1 with h1 _ _;exact .inr ⟨g,h1⟩
  have hx:xs.take (i*2)++xs.drop (i*2)=xs:=List.take_append_drop _ _;have hfin:DelP 238 2 F n xs w (.returned (.slice A n c)) w:=⟨A,c,rfl,ho.imp (fun _ _ h=>.inl h),Kept.refl _ _⟩;rw [hx,Nat.sub_self,Nat.sub_zero];clear hAc ho hx hxl h1;rcases hcs with ⟨rfl,rfl,rfl⟩|⟨g,rfl⟩
  ·obtain rfl:i=0:=by omega
   have Hfin:=hI hfin;clear hfin;go_enter Tryz.func204,Tryz.ntmps204;go_wp2;go_ret;exact Hfin.out
  ·by_cases hci:c=i
   ·obtain rfl:n=i:=by omega
    subst hci;have Hfin:=hI hfin;clear hfin;go_enter Tryz.func204,Tryz.ntmps204;go_wp2;go_ret;exact Hfin.out
   ·by_cases hni:n=i
    ·subst hni
     have Hfin:=hI hfin;clear hfin;go_enter Tryz.func204,Tryz.ntmps204;go_wp2;go_ret;exact Hfin.out
    ·have Hfin:=hI hfin
     clear hfin;go_enter Tryz.func204,Tryz.ntmps204;go_wp2;go_ret;exact Hfin.out
end
section
open Go.RowKit
def MpP {α:Type} (T E:TypeId) (enc:α→Value) (F:Nat→Prop) (g:Nat) (es:List (En α)) (b:Bool) (w:World) (r:Ending) (w':World):Prop :=
 r = .returned (.bool b)∧Mp T E enc w' (fun b=>F b∨w.heap.size≤b) g es∧Kept F w w'
theorem ecs_modify {α:Type} (enc:α→Value) (es:List (En α)) (i:Nat) (v:α) (h:i<es.length):ecs enc (es.modify i (fun e=>(e.1,v)))=(ecs enc es).set (i*2+1) (enc v):=by
 induction es generalizing i with
 | nil=>simp at h
 | cons e es ih =>
  cases i with
  | zero=>simp [ecs,enCells]
  | succ i =>
   have:=ih i (by simpa using h)
   simp only [ecs,List.modify_succ_cons,List.flatMap_cons,enCells,List.cons_append,List.nil_append] at this ⊢;rw [this,show (i+1)*2+1=(i*2+1)+1+1 from by omega]
   rfl
theorem i_put (w:World) (F:Nat→Prop) (g:Nat) (es:List (En Int)) (k:ByteArray) (v:Int) (h:Mpi w F g es) (hn:es.length<100000) (hF:∀ b,F b→b<w.heap.size) :
  Calls Tryz.prog 144 #[.pointer (some ⟨g,0,none⟩),.string k,.int .i64 v] w (MpP 235 238 (Value.int .i64) F g (putE es k v) (!has es (kb k)) w):=by
 have C:=hI (i_find w F g es k h);have hrp:=rises_put h.2.1 k v;have hgF:=h.1;cases hh:has es (kb k) with
 | true =>
  rw [hh] at C;obtain ⟨e,he⟩:∃ e,es[low es (kb k)]? = some e:=by
   cases hl:es[low es (kb k)]? with
   | none=>unfold has at hh;rw [hl] at hh;cases hh
   | some e=>exact ⟨e,rfl⟩
  have hput:putE es k v=es.modify (low es (kb k)) (fun e=>(e.1,v)):=by unfold putE;rw [if_pos hh]
  rw [hput] at hrp ⊢;have hk:=(List.getElem?_eq_some_iff.1 he).1;generalize low es (kb k)=i at *;have H:=hI h;have He:=hI he;have Hrp:=hI hrp;have hki:(i:Int)<(es.length:Int):=by omega
  clear h he hput hrp hh;go_enter Tryz.func144,Tryz.ntmps144;go_wp2_with fail;refine (C.out).mono ?_;rintro e w1 ⟨rfl,hk1⟩;obtain ⟨h0,h1,h2,A,c,hb,ho⟩:=H.out.kept hk1 (fun _ _ _ h=>h);have hc:=hb.cell;obtain ⟨gr,cur,rfl,hgr,hgb,hnc,hcm,hcs,hct⟩:=own_row ho (by omega)
  obtain ⟨hc1,hc2⟩:=en_cells ho.sl He.out;rw [Nat.zero_add] at hc1 hc2;have hf1:=hgb.frozen (i*2+1);have hb2:=hgb.set (i*2+1) (.int .i64 v);have hks:=(Kept.refl (· = gr) w1).setCell (p:=⟨gr,i*2+1,none⟩) (.inl rfl) (.int .i64 v);have hbg:=hb.kept hks (fun e=>hgr.2 e.symm);have hkF:Kept F w (w1.setCell ⟨gr,i*2+1,none⟩ (.int .i64 v)):=(hk1.mono (fun _ _ h=>h.elim)).same (hks.mono (fun j _ h=>by have h2:j=gr:=h;rw [h2];exact hgr.1))
  have hlen:(es.modify i (fun e=>(e.1,v))).length=es.length:=by simp
  have hown:Own (w1.setCell ⟨gr,i*2+1,none⟩ (.int .i64 v)) (fun b=>(F b∨w.heap.size≤b)∧b≠g) 238 2 (.slice (some ⟨gr,0,none⟩) es.length c) es.length (ecs (Value.int .i64) (es.modify i (fun e=>(e.1,v)))):=by
   refine ⟨⟨by rw [ecs_length,hlen],.inr ⟨gr,c,_,rfl,Nat.zero_le _,hb2,hnc,hcm,by simpa using hcs,?_⟩⟩,fun b hb=>?_⟩
   ·rw [Array.toList_setIfInBounds,List.take_set,hct,ecs_modify (Value.int .i64) es i v (by omega)]
   ·simp [Value.ownBlock] at hb
    subst hb;exact ⟨.inl hgr.1,hgr.2⟩
  have Hown:=hI hown;have Hbg:=hI hbg;have HkF:=hI hkF;clear hb ho h1 hgb hct hcs hb2 hks hbg hkF hown;go_wp2;go_ret;exact ⟨rfl,⟨.inl hgF,Hrp.out,by rw [hlen];exact h2,_,c,by rw [hlen];exact Hbg.out,by rw [hlen];exact Hown.out⟩,HkF.out⟩
 | false =>
  rw [hh] at C;have hput:putE es k v=insE es (low es (kb k)) (k,v):=by unfold putE;rw [if_neg (by rw [hh];simp)]
  rw [hput] at hrp ⊢;have hle:=low_le es (kb k);generalize low es (kb k)=i at *;have H:=hI h;have Hrp:=hI hrp;clear h hput hrp hh;go_enter Tryz.func144,Tryz.ntmps144;go_wp2_with fail;refine (C.out).mono ?_;rintro e w1 ⟨rfl,hk1⟩;obtain ⟨h0,h1,h2,A,c,hb,ho⟩:=H.out.kept hk1 (fun _ _ _ h=>h);have hc:=hb.cell;have hsz:=hk1.size;have hgl:=hF g hgF;have C2:=hI (i_insert es A es.length c i w1.heap.size (k,v) (w1.alloc (.cells #[.string k,.int .i64 v] 238)) (fun b=>F b∧b≠g) (ho.alloc _) (by omega) (Blk.new _ _ _) (fun h=>absurd (hF _ h.1) (by omega)) hle)
  have Hbg:=hI (hb.alloc (.cells #[.string k,.int .i64 v] 238));have Hk2:=hI (hk1.alloc (.cells #[.string k,.int .i64 v] 238));clear hb ho h1;go_wp2_with fail;refine C2.out.mono ?_;rintro e w3 ⟨A',c',rfl,ho3,hk3⟩;have hlen:(insE es i (k,v)).length=es.length+1:=insE_length _ _ _;have hbg3:=Hbg.out.kept hk3 (fun h=>h.2 rfl);have hc3:=hbg3.cell;have hf3:=hbg3.frozen 0;have hgl3:g<w3.heap.size:=hbg3.lt
  have hb4:=hbg3.set 0 (.slice A' (es.length+1) c');have hks:=(Kept.refl (· = g) w3).setCell (p:=⟨g,0,none⟩) (.inl rfl) (.slice A' (es.length+1) c');have hsz3:w.heap.size≤(w1.alloc (.cells #[.string k,.int .i64 v] 238)).heap.size:=by simp;omega
  have ho3':Own w3 (fun b=>(F b∨w.heap.size≤b)∧b≠g) 238 2 (.slice A' (es.length+1) c') (es.length+1) (ecs (Value.int .i64) (insE es i (k,v))):=ho3.imp (fun b hl hb=>by
   rcases hb with hb|hb
   ·exact ⟨.inl hb.1,hb.2⟩
   ·exact ⟨.inr (by omega),by omega⟩)
  have hown:=ho3'.kept hks (fun b hl hb e=>hb.2 e);have hkF:Kept F w (w3.setCell ⟨g,0,none⟩ (.slice A' (es.length+1) c')):=(((Hk2.out.mono (fun _ _ h=>h.elim)).same (hk3.mono (fun _ _ h=>h.1)))).same (hks.mono (fun j _ h=>by have h2:j=g:=h;rw [h2];exact hgF))
  have Hown:=hI hown;have Hbg:=hI hb4;have HkF:=hI hkF;clear ho3 ho3' hk3 hb4 hbg3 hks hown hkF;go_wp2;go_ret;exact ⟨rfl,⟨.inl hgF,Hrp.out,by rw [hlen];omega,A',c',by rw [hlen];exact Hbg.out,by rw [hlen];exact Hown.out⟩,HkF.out⟩
end
section
open Go.RowKit
theorem ecs_one {α:Type} (enc:α→Value) (h:∀ x,(enc x).oneCell'=true) (es:List (En α)):∀ u∈ecs enc es,u.oneCell'=true:=by
 intro u hu;simp only [ecs,List.mem_flatMap,enCells,List.mem_cons,List.not_mem_nil,or_false] at hu;obtain ⟨x,_,rfl|rfl⟩:=hu
 ·rfl
 ·exact h _
theorem delE_le {α:Type} (es:List (En α)) (t:List UInt8):(delE es t).length≤es.length:=by
 unfold delE
 split
 ·rw [List.length_eraseIdx];split <;> omega
 ·exact Nat.le_refl _
theorem i_mdel (w:World) (F:Nat→Prop) (g:Nat) (es:List (En Int)) (k:ByteArray) (h:Mpi w F g es) :
  Calls Tryz.prog 167 #[.pointer (some ⟨g,0,none⟩),.string k] w (MpP 235 238 (Value.int .i64) F g (delE es (kb k)) (has es (kb k)) w):=by
 have C:=hI (i_find w F g es k h);have hrp:=rises_del h.2.1 (kb k);have hgF:=h.1;cases hh:has es (kb k) with
 | true =>
  rw [hh] at C;obtain ⟨e,he⟩:∃ e,es[low es (kb k)]? = some e:=by
   cases hl:es[low es (kb k)]? with
   | none=>unfold has at hh;rw [hl] at hh;cases hh
   | some e=>exact ⟨e,rfl⟩
  have hdel:delE es (kb k)=es.eraseIdx (low es (kb k)):=by unfold delE;rw [if_pos hh]
  rw [hdel] at hrp ⊢;have hk:=(List.getElem?_eq_some_iff.1 he).1;have hn1:=h.2.2.1;generalize low es (kb k)=i at *;have H:=hI h;have Hrp:=hI hrp;have hki:(i:Int)<(es.length:Int):=by omega
  have hi1:(0:Int)≤(i:Int)+1∧(i:Int)+1≤1000000:=by omega
  have hwi:IntKind.i64.wrap ((i:Int)+1)=(i:Int)+1:=by rw [IntKind.wrap_i64];omega
  have hlen:(es.eraseIdx i).length=es.length-(i+1-i):=by rw [List.length_eraseIdx];split <;> omega
  obtain ⟨fs,hfs⟩:∃ fs,es.eraseIdx i=fs:=⟨_,rfl⟩;rw [hfs] at hlen ⊢;have Hfs:=hI hfs;clear h he hdel hrp hh hfs;go_enter Tryz.func167,Tryz.ntmps167;go_wp2_with fail;refine (C.out).mono ?_;rintro e w1 ⟨rfl,hk1⟩;obtain ⟨h0,h1,h2,A,c,hb,ho⟩:=H.out.kept hk1 (fun _ _ _ h=>h);have hc:=hb.cell;have c2:=(i_del (ecs (Value.int .i64) es) (ecs_one (Value.int .i64) (fun _=>rfl) es) A es.length c i (i+1) w1 _ ho (by omega) (by omega) (by omega))
  rw [←ecs_take,←ecs_drop,←ecs_append,←List.eraseIdx_eq_take_drop_succ,Hfs.out,←hlen] at c2;have C2:=hI c2;have Hbg:=hI hb;have Hk1:=hI hk1;have hle:fs.length≤100000:=by omega
  clear hb ho h1 hk1 c2 hlen;go_wp2_with fail;refine C2.out.mono ?_;rintro e' w3 ⟨A',c',rfl,ho3,hk3⟩;have hbg3:=Hbg.out.kept hk3 (fun h=>h.2 rfl);have hc3:=hbg3.cell;have hf3:=hbg3.frozen 0;have hb4:=hbg3.set 0 (.slice A' fs.length c');have hks:=(Kept.refl (· = g) w3).setCell (p:=⟨g,0,none⟩) (.inl rfl) (.slice A' fs.length c');have hgl3:g<w3.heap.size:=hbg3.lt;have hgl1:=Hbg.out.lt;have hsz:=Hk1.out.size
  have ho3':Own w3 (fun b=>(F b∨w.heap.size≤b)∧b≠g) 238 2 (.slice A' fs.length c') fs.length (ecs (Value.int .i64) (fs)):=ho3.imp (fun b hl hb=>by
   rcases hb with hb|hb
   ·exact ⟨.inl hb.1,hb.2⟩
   ·exact ⟨.inr (by omega),by omega⟩)
  have hown:=ho3'.kept hks (fun b hl hb e=>hb.2 e);have hkF:Kept F w (w3.setCell ⟨g,0,none⟩ (.slice A' fs.length c')):=(((Hk1.out.mono (fun _ _ h=>h.elim)).same (hk3.mono (fun _ _ h=>h.1)))).same (hks.mono (fun j _ h=>by have h2:j=g:=h;rw [h2];exact hgF))
  have Hown:=hI hown;have Hbg:=hI hb4;have HkF:=hI hkF;clear ho3 ho3' hk3 hb4 hbg3 hks hown hkF;go_wp2;go_ret;exact ⟨rfl,⟨.inl hgF,Hfs.out ▸ Hrp.out,hle,A',c',Hbg.out,Hown.out⟩,HkF.out⟩
 | false =>
  rw [hh] at C;have hdel:delE es (kb k)=es:=by unfold delE;rw [if_neg (by rw [hh];simp)]
  rw [hdel] at hrp ⊢;have H:=hI h;clear h hdel hrp hh;go_enter Tryz.func167,Tryz.ntmps167;go_wp2_with fail;refine (C.out).mono ?_;rintro e w1 ⟨rfl,hk1⟩;go_wp2;go_ret;exact cz61
theorem i_new (w:World):Calls Tryz.prog 116 #[] w fun e w'=>e = .returned (.pointer (some ⟨w.heap.size,0,none⟩))∧Mpi w' (fun b=>b=w.heap.size) w.heap.size []∧Pure w w':=by
 have h:Mpi (w.alloc (.cells #[.slice none 0 0] 235)) (fun b=>b=w.heap.size) w.heap.size [] :=
  ⟨rfl,List.Pairwise.nil,by simp,none,0,Blk.new w _ _,Own.nil _ _ _ _⟩
 have H:=hI h;clear h;go_enter Tryz.func116,Tryz.ntmps116;go_wp2;go_ret;exact ⟨rfl,H.out,(Kept.refl _ _).alloc _⟩
end
end Go.Proofs.YtjfpfeapbcjioaaGreat
