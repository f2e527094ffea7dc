/-
  The texts of this claim, put together: Ri, Hb, Ck, RiB.
-/
import Derived.Test.YtjfpfeapbcjioaaGreatRows
import Derived.LoopTactic
import Derived.Deep.QuietTactic
import Derived.BigQuiet
import Derived.Test.YtjfpfeapbcjioaaGreatZCoP
import Derived.Test.YtjfpfeapbcjioaaGreatZDel
import Derived.Test.YtjfpfeapbcjioaaGreatZAppO
import Derived.Test.YtjfpfeapbcjioaaGreatZLib
import Derived.Test.YtjfpfeapbcjioaaGreatZFree
import Derived.Test.YtjfpfeapbcjioaaGreatZOmB
import Derived.Test.YtjfpfeapbcjioaaGreatZIter
set_option linter.unusedSimpArgs false
set_option linter.unusedVariables false
set_option maxHeartbeats 12800000
set_option maxRecDepth 100000
namespace Go.Proofs.YtjfpfeapbcjioaaGreat
section
open Go.RowKit
def Cg.cells (c:Cg):List Value:=[.int .i64 c.token,.string c.uid]
def gcs (l:List Cg):List Value:=l.flatMap Cg.cells
def riL (g:Nat) (most:Int) (A:Option Addr) (n c:Nat) (l:List Cg):List Ch:=[blkC g 263 #[.int .i64 most,.slice A n c],ownOC 189 2 (.slice A n c) n (gcs l)]
def Ri (w:World) (F:Nat→Prop) (g:Nat) (most:Int) (l:List Cg):Prop:=∃ A c,Star w F (riL g most A l.length c l)
def riC (g:Nat) (most:Int) (l:List Cg):Ch:=⟨fun w F=>Ri w F g most l,fun ⟨A,c,h⟩ hF=>⟨A,c,h.imp hF⟩,fun ⟨A,c,h⟩ hk hd=>⟨A,c,h.kept hk hd⟩⟩
theorem info_cg:(Tryz.prog.info? 189).map (fun i=>(i.zero,i.size,i.bytes))=some (some (.agg #[.int .i64 0,.string ⟨#[]⟩]),2,24):=by kernel_rfl
theorem ri_new (w:World) (most:Int):Calls Tryz.prog 146 #[.int .i64 most] w fun e w'=>e = .returned (.pointer (some ⟨w.heap.size,0,none⟩))∧Ri w' (fun b=>w.heap.size≤b) w.heap.size (max most 1) []∧Pure w w':=by
 have hr:Run w (fun _=>False) (w.alloc (.cells #[.int .i64 (max most 1),.slice none 0 0] 263)) (riL w.heap.size (max most 1) none 0 0 []) :=
  ((Run.start (F:=fun _=>False) (w:=w) (Ps:=[]) trivial).add (Kept.refl _ _) (Q:=ownOC 189 2 (.slice none 0 0) 0 []) (Own.nil _ _ _ _).toO).addBlk _ _
 have Hr:=hI hr;clear hr;go_enter Tryz.func146,Tryz.ntmps146;go_wp2;go_ret;exact cz60
theorem gcs_snoc (l:List Cg) (x:Cg):gcs (l++[x])=gcs l++x.cells:=by simp [gcs]
theorem one_cg (x:Cg):∀ u∈x.cells,u.oneCell'=true:=fun u hu=>by simp [Cg.cells] at hu;rcases hu with rfl|rfl <;> rfl
def cgV:Option Cg→Value|some g=>.agg #[.int .i64 g.token,.string g.uid]|none=>.agg #[.int .i64 0,.string ⟨#[]⟩]
theorem gcs_length (l:List Cg):(gcs l).length=l.length*2:=fm_length _ 2 (fun _=>rfl) l
theorem ri_push (w:World) (F:Nat→Prop) (g:Nat) (most:Int) (l:List Cg) (x:Cg) (h:Ri w F g most l) (hl:(l.length:Int)≤most) (h1:1≤most) (h2:most≤1000) :
  Turn 134 #[.pointer (some ⟨g,0,none⟩),.agg #[.int .i64 x.token,.string x.uid]] w F (.tuple #[cgV (pushL l most x).2,.bool (pushL l most x).2.isSome]) (riC g most (pushL l most x).1):=by
 obtain ⟨A,c,h⟩:=h;obtain ⟨n,hn⟩:∃ n,l.length=n:=⟨_,rfl⟩;have hr:=Run.start h;rw [hn] at hr hl;have hr:Run w F w [blkC g 263 #[.int .i64 most,.slice A n c],ownOC 189 2 (.slice A n c) n (gcs l)]:=hr;obtain ⟨tk,uid⟩:=x;simp only;have hr2:=(hr.addBlk #[.int .i64 tk,.string uid] 189).addBlk #[.int .i64 0,.string ⟨#[]⟩] 189;rw [World.size_alloc] at hr2;have hc:=(hr2.blk 2 rfl).cell;unfold Turn
 by_cases hne:(n:Int)=most
 ·obtain ⟨x0,l',rfl⟩:∃ x0 l',l=x0::l':=by
   cases l with
   | nil=>simp at hn;omega
   | cons a b=>exact ⟨a,b,rfl⟩
  obtain rfl:l'.length+1=n:=by simpa using hn
  have hp:pushL (x0::l') most ⟨tk,uid⟩=(l'++[⟨tk,uid⟩],some x0):=by unfold pushL;rw [hn,if_pos hne];rfl
  rw [hp];have hne':(((l'.length+1:Nat):Int) == most)=true:=by simpa using hne
  obtain ⟨m,hm⟩:∃ m,l'.length=m:=⟨_,rfl⟩;rw [hm] at hr2 hc hl hne';have Hr2:=hI hr2;have Hm:=hI hm;obtain ⟨t0,u0⟩:=x0;have hm0:m≤1000:=by omega
  obtain ⟨Ac,hAc,hcl⟩:=(show OwnO _ _ _ _ _ _ _ from hr2.get (P:=ownOC 189 2 (.slice A (m+1) c) (m+1) (gcs (⟨t0,u0⟩::l'))) 3 rfl).form;obtain ⟨rfl,rfl⟩:A=Ac∧c=hAc:=by injection hcl.1 with e1 _ e2;exact ⟨e1,e2⟩
  obtain ⟨_,hnc,_,hsl⟩:=hcl;obtain ⟨b,o,rfl,_,_,_⟩:=hsl.2 (by omega)
  obtain ⟨Z,hZ⟩:∃ Z,(if c=1 then some (⟨b,o,none⟩:Addr) else some ⟨b,o+2,none⟩)=Z:=⟨_,rfl⟩;have HZ:=hI hZ;have hm1:(1:Int)≤(m:Int)+1:=by omega
  clear h hr hr2 hn hne hp hm;go_enter Tryz.func134,Tryz.ntmps134;go_wp2
  go_quiet (fail)
  generalize hW:World.drewN _ _=W;have hrx:=Hr2.out.drewN nq;rw [hW] at hrx;have hcx:=(hrx.blk 2 rfl).cell;have hcf:=(hrx.blk 0 rfl).frozen;have hcz:=(hrx.blk 0 rfl).cell;have hslx:=(show OwnO _ _ _ _ _ _ _ from hrx.get (P:=ownOC 189 2 (.slice (some ⟨b,o,none⟩) (m+1) c) (m+1) (gcs (⟨t0,u0⟩::l'))) 3 rfl).sl;have hx0:=sl_at (f:=Cg.cells) (fun _=>rfl) hslx (by omega) (i:=0) (e:=⟨t0,u0⟩) rfl 0 (by omega)
  have hx1:=sl_at (f:=Cg.cells) (fun _=>rfl) hslx (by omega) (i:=0) (e:=⟨t0,u0⟩) rfl 1 (by omega)
  simp only [Nat.zero_mul,Nat.add_zero] at hx0 hx1;replace hx0:W.cell? ⟨b,o,none⟩=some (.int .i64 t0):=hx0;replace hx1:W.cell? ⟨b,o+1,none⟩=some (.string u0):=hx1;have hr3:=(hrx.set 0 rfl 0 (.int .i64 t0)).set 0 rfl 1 (.string u0);have hr3:Run w F ((W.setCell ⟨w.heap.size+1,0,none⟩ (.int .i64 t0)).setCell ⟨w.heap.size+1,1,none⟩ (.string u0)) [blkC (w.heap.size+1) 189 #[.int .i64 t0,.string u0],blkC w.heap.size 189 #[.int .i64 tk,.string uid],blkC g 263 #[.int .i64 most,.slice (some ⟨b,o,none⟩) (m+1) c],ownOC 189 2 (.slice (some ⟨b,o,none⟩) (m+1) c) (m+1) (gcs (⟨t0,u0⟩::l'))]:=hr3
  have Hr3:=hI hr3;clear hrx hc hW hr3 hslx;go_wp2;generalize hW3:World.setCell _ _ _=W3;rw [hW3] at Hr3;have hc3:=(Hr3.out.blk 2 rfl).cell;clear hcx hcf hcz hx0 hx1 hW3;refine wp_region_seq [11,14] [0] (by kernel_rfl) (by kernel_rfl) (by kernel_rfl) ?_
  refine gz4 ?_;refine gz2 ?_;clear hc3 hZ hm1;obtain ⟨G3,_,hp3,hup3⟩:=Hr3.out.drew.at 3 rfl;have hp3:OwnO W3.drew G3 189 2 (.slice (some ⟨b,o,none⟩) (m+1) c) (m+1) (gcs (⟨t0,u0⟩::l')):=hp3;have hsh:=hp3.shift 1 (by omega) (Z:=Z) HZ.out
  rw [Nat.add_sub_cancel] at hsh;have hdr:(gcs (⟨t0,u0⟩::l')).drop (1*2)=gcs l':=rfl;rw [hdr] at hsh;refine seq_move0 (by decide) rfl ?_
  refine up_appO Tryz.underlying261 info_cg rfl (by omega) hp3.cut0 hsh.sl (fun u hu=>by obtain ⟨y,_,hu⟩:=List.mem_flatMap.1 hu;exact one_cg y u hu) (by omega) (by omega) _ _ rfl rfl rfl (fun v7 w7 ho7 hk7=>⟨trivial,?_⟩)
  rw [Nat.zero_add,List.nil_append] at ho7;obtain ⟨A7,c7,rfl,_⟩:=ho7.form;have hr7:Run w F w7 [blkC (w.heap.size+1) 189 #[.int .i64 t0,.string u0],blkC w.heap.size 189 #[.int .i64 tk,.string uid],blkC g 263 #[.int .i64 most,.slice (some ⟨b,o,none⟩) (m+1) c],ownOC 189 2 (.slice A7 m c7) m (gcs l')]:=hup3 w7 (ownOC 189 2 (.slice A7 m c7) m (gcs l')) ho7 hk7;have hc7:=(hr7.blk 2 rfl).cell;have hf7:=(hr7.blk 2 rfl).frozen
  have Hr7:=hI hr7;clear hr7 ho7 hk7 hsh hp3 hup3 hdr;refine gz2 ?_
  with_reducible refine seq_move (by decide) (fun K hK=>?_)
  go_simp;refine up_skip ?_;refine hK _ _ ?_;clear hK K;refine gz13 ?_;have hr8:Run w F (w7.setCell ⟨g,1,none⟩ (.slice A7 m c7)) [blkC (w.heap.size+1) 189 #[.int .i64 t0,.string u0],blkC w.heap.size 189 #[.int .i64 tk,.string uid],blkC g 263 #[.int .i64 most,.slice A7 m c7],ownOC 189 2 (.slice A7 m c7) m (gcs l')]:=Hr7.out.set 2 rfl 1 _;generalize hW8:World.setCell _ _ _=W;rw [hW8] at hr8;have hcx:=(hr8.blk 2 rfl).cell
  have hcy:=(hr8.blk 1 rfl).cell;have Hrx:=hI hr8;clear hr8 hc7 hf7 hW8;go_wp2;refine wp_region_late (fun x=>x.cell? ⟨g,1,none⟩=some (.slice A7 m c7)) [6,7,10] [0,1,2,3,4] [10] (by kernel_rfl) (by kernel_rfl) (by kernel_rfl) (by kernel_rfl) (hcx 1) ?_
  repeat (with_reducible refine late_free (by decide) (by decide) (fun K hK=>?_);go_simp;first|(refine ex_steadyF ?_ (fun w' hw'=>?_) ?_;rotate_left;(skip;go_simp;first|done|rfl);(refine hK _ _ ?_;clear hK K))|(refine hK _ _ ?_;clear hK K))
  repeat (with_reducible refine late_step (by decide) (by decide) (fun K hK=>?_);go_simp;refine hK _ _ ?_;clear hK K)
  with_reducible refine late_move (by decide) (fun K hK=>?_)
  go_simp;have hr8:=Hrx.out.drew.alloc (.cells #[.int .i64 tk,.string uid] 189);refine up_value ⟨(hr8.blk 2 rfl).cell 1,?_⟩;refine hK _ _ ?_;clear hK K;have hlit8:=Sl.lit W.drew #[.int .i64 tk,.string uid] 189 2 1 _ rfl rfl;rw [show W.drew.heap.size=W.heap.size from rfl] at hlit8;refine late_move0 (by decide) rfl ?_
  refine hr8.upApp 3 rfl Tryz.underlying261 info_cg rfl (by omega) hlit8 (one_cg ⟨tk,uid⟩) (by omega) (by omega) _ _ rfl rfl rfl (fun v9 w9 hv9 hr9=>?_)
  obtain ⟨A9,c9,rfl,_,_⟩:=hv9;have hr9:Run w F w9 [blkC (w.heap.size+1) 189 #[.int .i64 t0,.string u0],blkC w.heap.size 189 #[.int .i64 tk,.string uid],blkC g 263 #[.int .i64 most,.slice A7 m c7],ownOC 189 2 (.slice A9 (m+1) c9) (m+1) (gcs l'++Cg.cells ⟨tk,uid⟩)]:=hr9;refine ⟨fun _=>(hr9.blk 2 rfl).cell 1,?_⟩;have hf9:=(hr9.blk 2 rfl).frozen;have hc9:=(hr9.blk 2 rfl).cell;have Hr9:=hI hr9;clear hr8 hr9
  repeat (with_reducible refine late_step (by decide) (by decide) (fun K hK=>?_);go_simp;refine hK _ _ ?_;clear hK K)
  with_reducible refine late_move (by decide) (fun K hK=>?_)
  go_simp;refine up_skip (hK _ _ ?_);clear hK K
  with_reducible refine late_nil ?_
  have hr10:Run w F (w9.setCell ⟨g,1,none⟩ (.slice A9 (m+1) c9)) [blkC (w.heap.size+1) 189 #[.int .i64 t0,.string u0],blkC w.heap.size 189 #[.int .i64 tk,.string uid],blkC g 263 #[.int .i64 most,.slice A9 (m+1) c9],ownOC 189 2 (.slice A9 (m+1) c9) (m+1) (gcs l'++Cg.cells ⟨tk,uid⟩)]:=Hr9.out.set 2 rfl 1 _;obtain ⟨w10,hw10⟩:∃ x,w9.setCell ⟨g,1,none⟩ (.slice A9 (m+1) c9)=x:=⟨_,rfl⟩;rw [hw10] at hr10 ⊢
  clear hw10 hf9 hc9 Hr9 hcx;have hcm:=(hr10.blk 0 rfl).cell;have hfm:=(hr10.blk 0 rfl).frozen;have hr11:=(hr10.set 0 rfl 0 (.int .i64 t0)).set 0 rfl 1 (.string u0);have hb11:=hr11.blk 0 rfl;have Hb11:=hI hb11;have Hr11:=hI hr11;clear hr10 hr11 hb11;go_wp2;refine bodyPost_ret (results_cell_tmp Tryz.results134 rfl Hb11.out Tryz.underlying189 rfl (by kernel_rfl)) rfl ?_
  refine ⟨rfl,⟨A9,c9,?_⟩,Hr11.out.kept⟩;have:=((Hr11.out.drop 0).drop 0).star;rw [←gcs_snoc] at this;have hl9:(l'++[(⟨tk,uid⟩:Cg)]).length=m+1:=by simp [Hm.out]
  unfold riL;rw [hl9];exact this
 ·have hp:pushL l most ⟨tk,uid⟩=(l++[⟨tk,uid⟩],none):=by unfold pushL;rw [hn,if_neg hne]
  rw [hp];have hne':((n:Int) == most)=false:=by simpa using hne
  have Hr2:=hI hr2;have Hn:=hI hn;clear h hr hr2 hn hne hp;go_enter Tryz.func134,Tryz.ntmps134;go_wp2
  go_quiet (fail)
  go_wp2;generalize hW:World.drewN _ _=W;have hrx:=Hr2.out.drewN nq;rw [hW] at hrx;have hcx:=(hrx.blk 2 rfl).cell;have hcy:=(hrx.blk 1 rfl).cell;have Hrx:=hI hrx;clear hrx hc hW;refine wp_region_late (fun x=>x.cell? ⟨g,1,none⟩=some (.slice A n c)) [6,7,10] [0,1,2,3,4] [10] (by kernel_rfl) (by kernel_rfl) (by kernel_rfl) (by kernel_rfl) (hcx 1) ?_
  repeat (with_reducible refine late_free (by decide) (by decide) (fun K hK=>?_);go_simp;first|(refine ex_steadyF ?_ (fun w' hw'=>?_) ?_;rotate_left;(skip;go_simp;first|done|rfl);(refine hK _ _ ?_;clear hK K))|(refine hK _ _ ?_;clear hK K))
  repeat (with_reducible refine late_step (by decide) (by decide) (fun K hK=>?_);go_simp;refine hK _ _ ?_;clear hK K)
  with_reducible refine late_move (by decide) (fun K hK=>?_)
  go_simp;have hr8:=Hrx.out.drew.alloc (.cells #[.int .i64 tk,.string uid] 189);refine up_value ⟨(hr8.blk 2 rfl).cell 1,?_⟩;refine hK _ _ ?_;clear hK K;have hlit8:=Sl.lit W.drew #[.int .i64 tk,.string uid] 189 2 1 _ rfl rfl;rw [show W.drew.heap.size=W.heap.size from rfl] at hlit8;refine late_move0 (by decide) rfl ?_
  refine hr8.upApp 3 rfl Tryz.underlying261 info_cg rfl (by omega) hlit8 (one_cg ⟨tk,uid⟩) (by omega) (by omega) _ _ rfl rfl rfl (fun v9 w9 hv9 hr9=>?_)
  obtain ⟨A9,c9,rfl,_,_⟩:=hv9;have hr9:Run w F w9 [blkC (w.heap.size+1) 189 #[.int .i64 0,.string ⟨#[]⟩],blkC w.heap.size 189 #[.int .i64 tk,.string uid],blkC g 263 #[.int .i64 most,.slice A n c],ownOC 189 2 (.slice A9 (n+1) c9) (n+1) (gcs l++Cg.cells ⟨tk,uid⟩)]:=hr9;refine ⟨fun _=>(hr9.blk 2 rfl).cell 1,?_⟩;have hf9:=(hr9.blk 2 rfl).frozen;have hc9:=(hr9.blk 2 rfl).cell;have Hr9:=hI hr9;clear hr8 hr9
  repeat (with_reducible refine late_step (by decide) (by decide) (fun K hK=>?_);go_simp;refine hK _ _ ?_;clear hK K)
  with_reducible refine late_move (by decide) (fun K hK=>?_)
  go_simp;refine up_skip (hK _ _ ?_);clear hK K
  with_reducible refine late_nil ?_
  have hr10:Run w F (w9.setCell ⟨g,1,none⟩ (.slice A9 (n+1) c9)) [blkC (w.heap.size+1) 189 #[.int .i64 0,.string ⟨#[]⟩],blkC w.heap.size 189 #[.int .i64 tk,.string uid],blkC g 263 #[.int .i64 most,.slice A9 (n+1) c9],ownOC 189 2 (.slice A9 (n+1) c9) (n+1) (gcs l++Cg.cells ⟨tk,uid⟩)]:=Hr9.out.set 2 rfl 1 _;obtain ⟨w10,hw10⟩:∃ x,w9.setCell ⟨g,1,none⟩ (.slice A9 (n+1) c9)=x:=⟨_,rfl⟩;rw [hw10] at hr10 ⊢
  clear hw10 hf9 hc9 Hr9 hcx;have hcm:=(hr10.blk 0 rfl).cell;have hfm:=(hr10.blk 0 rfl).frozen;have hr11:=(hr10.set 0 rfl 0 (.int .i64 0)).set 0 rfl 1 (.string ⟨#[]⟩);have hb11:=hr11.blk 0 rfl;have Hb11:=hI hb11;have Hr11:=hI hr11;clear hr10 hr11 hb11;go_wp2;refine bodyPost_ret (results_cell_tmp Tryz.results134 rfl Hb11.out Tryz.underlying189 rfl (by kernel_rfl)) rfl ?_
  refine ⟨rfl,⟨A9,c9,?_⟩,Hr11.out.kept⟩;have:=((Hr11.out.drop 0).drop 0).star;rw [←gcs_snoc] at this;have hl9:(l++[(⟨tk,uid⟩:Cg)]).length=n+1:=by simp [Hn.out]
  unfold riL;rw [hl9];exact this
end
section
open Go.RowKit
def Wt.cells (a:Wt):List Value:=[.int .i64 a.who,.int .i64 a.place,.bool a.woken]
theorem Wt.cells_len (a:Wt):a.cells.length=3:=rfl
def wcs (l:List Wt):List Value:=l.flatMap Wt.cells
theorem wcs_length (l:List Wt):(wcs l).length=l.length*3:=fm_length _ 3 (fun _=>rfl) l
theorem wt_len {w:World} {F:Nat→Prop} {A:Option Addr} {n:Nat} {l:List Wt} (h:Sl w F 3 A n (wcs l)):l.length=n:=by have:=h.1;rw [wcs_length] at this;omega
theorem wt_at {w:World} {F:Nat→Prop} {b o n:Nat} {l:List Wt} (h:Sl w F 3 (some ⟨b,o,none⟩) n (wcs l)) {i:Nat} {e:Wt} (he:l[i]? = some e) :
  w.cell? ⟨b,o+i*3,none⟩=some (.int .i64 e.who)∧w.cell? ⟨b,o+i*3+1,none⟩=some (.int .i64 e.place)∧w.cell? ⟨b,o+i*3+2,none⟩=some (.bool e.woken):=by
 have hn:0<n:=by have:=wt_len h;have:=(List.getElem?_eq_some_iff.1 he).1;omega
 exact ⟨sl_at Wt.cells_len h hn he 0 (by omega),sl_at Wt.cells_len h hn he 1 (by omega),sl_at Wt.cells_len h hn he 2 (by omega)⟩
theorem hb_key (who:Int) (a:Wt) (bx:Nat) (w:World) (hc:w.cell? ⟨bx,0,none⟩=some (.int .i64 who)) (hb:bx<w.heap.size) :
  Calls Tryz.prog 197 #[.agg #[.int .i64 a.who,.int .i64 a.place,.bool a.woken],.pointer (some ⟨bx,0,none⟩)] w fun e w'=>e = .returned (.bool (decide (a.who=who)))∧Pure w w':=by
 have hB:=Blk.new w 220 #[.int .i64 a.who,.int .i64 a.place,.bool a.woken];have hk:Pure w (w.alloc (.cells #[.int .i64 a.who,.int .i64 a.place,.bool a.woken] 220)):=(Kept.refl _ _).alloc _;have hcell:=hB.cell;have hc2:(w.alloc (.cells #[.int .i64 a.who,.int .i64 a.place,.bool a.woken] 220)).cell? ⟨bx,0,none⟩=some (.int .i64 who):=(World.cell?_of_block (a:=⟨bx,0,none⟩) (hk.block bx hb (fun h=>h))).trans hc
 clear hc hB;go_enter Tryz.func197,Tryz.ntmps197;go_wp2;go_ret;exact ⟨rfl,hk⟩
theorem hb_index (l:List Wt) (x:Int) (A:Option Addr) (n c:Nat) (bx:Nat) (w:World) (F:Nat→Prop) (hs:Sl w F 3 A n (wcs l)) (hn:n≤1000000) (hb:w.cell? ⟨bx,0,none⟩=some (.int .i64 x)) (hbl:bx<w.heap.size) :
  Calls Tryz.prog 196 #[.slice A n c,.func (.func 197) #[] #[.pointer (some ⟨bx,0,none⟩)]] w fun e w'=>e = .returned (.int .i64 (idx (fun a=>decide (a.who=x)) l))∧Pure w w':=by
 have hl:=wt_len hs;have Hl:=hI hl;have Hs:=hI hs;have Hb:=hI hb;clear hl hs hb;go_enter Tryz.func196,Tryz.ntmps196;go_wp2
 go_loopw [8] (fun i wr=>∃ k:Nat,i = .int .i64 k∧k≤n∧Hid (∀ (j:Nat) (y:Wt),j<k→l[j]? = some y→(fun a=>decide (a.who=x)) y=false)∧Pure w wr) (fun i _=>n-(intOf i).toNat)
 case atStart=>exact ⟨0,rfl,Nat.zero_le _,fun j y h=>by omega,Kept.refl _ _⟩
 case round =>
  obtain ⟨k,rfl,hk,hj,hp⟩:=hrel
  by_cases hkn:k<n
  ·obtain ⟨y,hy⟩:∃ y,l[k]? = some y:=⟨_,List.getElem?_eq_getElem (by have:=Hl.out;omega)⟩
   have hsw:=Hs.out.kept hp (fun _ _ _ h=>h);obtain ⟨b,o,rfl,_,_,_⟩:=hsw.2 (by omega)
   have hc1:=wt_at hsw hy;have hki:(k:Int)<(n:Int):=by omega
   have C:=hI (hb_key x y bx wr ((World.cell?_of_block (a:=⟨bx,0,none⟩) (hp.block bx hbl (fun h=>h))).trans Hb.out) (Nat.lt_of_lt_of_le hbl hp.size));have Hy:=hI hy;clear hy hsw;cases hxy:(fun a=>decide (a.who=x)) y with
   | true =>
    have hr:=idx_some Hy.out hxy hj.out;have Hr:=hI hr;simp only at hxy;rw [hxy] at C;clear hr hxy;go_wp2_with fail;refine (C.out).mono ?_;rintro e w1 ⟨rfl,hk1⟩;go_wp2;go_ret;exact ⟨by rw [Hr.out];rfl,hp.same hk1⟩
   | false =>
    have Hxy:=hI hxy;simp only at hxy;rw [hxy] at C;clear hxy;go_wp2_with fail;refine (C.out).mono ?_;rintro e w1 ⟨rfl,hk1⟩;go_wp2
    go_roundw
    case measure=>simp [intOf];omega
    case rel=>exact ⟨k+1,by first|rfl|go_num,by omega,fun j z h hz=>by
     by_cases hjk:j=k
     ·subst hjk;rw [Hy.out] at hz;injection hz with hz;subst hz;exact Hxy.out
     ·exact hj.out j z (by omega) hz,hp.same hk1⟩
  ·obtain rfl:k=n:=by omega
   have hr:=idx_none (p:=fun a=>decide (a.who=x)) (l:=l) (fun j y hy=>hj.out j y (by have:=(List.getElem?_eq_some_iff.1 hy).1;have:=Hl.out;omega) hy)
   have Hr:=hI hr;clear hr;go_wp2;go_ret;exact ⟨by rw [Hr.out];rfl,hp⟩
theorem info_hb:(Tryz.prog.info? 220).map (fun i=>(i.zero,i.size,i.bytes))=some (some (.agg #[.int .i64 0,.int .i64 0,.bool false]),3,24):=by kernel_rfl
def hbL (g:Nat) (A:Option Addr) (n c:Nat) (l:List Wt):List Ch:=[blkC g 165 #[.slice A n c],ownC 220 3 (.slice A n c) n (wcs l)]
def Hb (w:World) (F:Nat→Prop) (g:Nat) (l:List Wt):Prop:=∃ A c,Star w F (hbL g A l.length c l)
def hbC (g:Nat) (l:List Wt):Ch:=⟨fun w F=>Hb w F g l,fun ⟨A,c,h⟩ hF=>⟨A,c,h.imp hF⟩,fun ⟨A,c,h⟩ hk hd=>⟨A,c,h.kept hk hd⟩⟩
theorem hb_new (w:World):Calls Tryz.prog 53 #[] w fun e w'=>e = .returned (.pointer (some ⟨w.heap.size,0,none⟩))∧Hb w' (fun b=>w.heap.size≤b) w.heap.size []∧Pure w w':=by
 have hr:Run w (fun _=>False) (w.alloc (.cells #[.slice none 0 0] 165)) (hbL w.heap.size none 0 0 []) :=
  ((Run.start (F:=fun _=>False) (w:=w) (Ps:=[]) trivial).addNil 220 3).addBlk _ _
 have Hr:=hI hr;clear hr;go_enter Tryz.func53,Tryz.ntmps53;go_wp2;go_ret;exact cz60
theorem hb_find (w:World) (F:Nat→Prop) (g:Nat) (l:List Wt) (who:Int) (h:Hb w F g l) (hz:l.length≤100000) :
  Calls Tryz.prog 157 #[.pointer (some ⟨g,0,none⟩),.int .i64 who] w fun e w'=>e = .returned (.int .i64 (idW l who))∧Pure w w':=by
 obtain ⟨A,c,h⟩:=h;have hr:=Run.start h;have hb:=hr.blk 0 rfl;have hs:=(hr.own 1 rfl).sl;have hB:=Blk.new w 3 #[.int .i64 who];have hp:Pure w (w.alloc (.cells #[.int .i64 who] 3)):=(Kept.refl _ _).alloc _;have hcB:=hB.cell 0;have C:=hI (hb_index l who A l.length c w.heap.size _ _ (hs.kept hp (fun _ _ _ h=>h)) (by omega) hcB hB.lt)
 have hc:=(hb.kept hp (fun h=>h)).cell;have hcc:=hB.cell;have q1:¬g=w.heap.size:=Nat.ne_of_lt hb.lt;have q2:¬w.heap.size=g:=fun h=>q1 h.symm;clear h hr hs hb hB hcB;go_enter Tryz.func157,Tryz.ntmps157;go_wp2_with fail;refine (C.out).mono ?_;rintro e w1 ⟨rfl,hk1⟩;go_wp2;go_ret;exact ⟨rfl,hp.same hk1⟩
theorem wcs_snoc (l:List Wt) (x:Wt):wcs (l++[x])=wcs l++x.cells:=by simp [wcs]
theorem one_wt (x:Wt):∀ u∈x.cells,u.oneCell'=true:=fun u hu=>by simp [Wt.cells] at hu;rcases hu with rfl|rfl|rfl <;> rfl
theorem hbC_up {w:World} {F:Nat→Prop} {g c:Nat} {l:List Wt} {A:Option Addr} (h:Star w F (hbL g A l.length c l)):(hbC g l).p w F:=⟨A,c,h⟩
theorem hb_add (w:World) (F:Nat→Prop) (g:Nat) (l:List Wt) (who place:Int) (h:Hb w F g l) (hz:l.length≤99999) :
  Turn 98 #[.pointer (some ⟨g,0,none⟩),.int .i64 who,.int .i64 place] w F (.bool (addW l who place).1) (hbC g (addW l who place).2):=by
 have C:=hI (hb_find w F g l who h (by omega))
 obtain ⟨A,c,h⟩:=h;have hr:=Run.start h;unfold Turn
 by_cases hd:0≤idW l who
 ·have he:addW l who place=(false,l):=by unfold addW;rw [if_pos hd]
  rw [he];generalize idW l who=d at *;have Hr:=hI hr;clear h hr he;go_enter Tryz.func98,Tryz.ntmps98;go_wp2_with fail;refine (C.out).mono ?_;rintro e w1 ⟨rfl,hk1⟩;go_wp2;go_ret;exact ⟨rfl,hbC_up (Hr.out.pure hk1).star,(Hr.out.pure hk1).kept⟩
 ·have he:addW l who place=(true,l++[⟨who,place,false⟩]):=by unfold addW;rw [if_neg hd]
  rw [he];generalize idW l who=d at *;obtain ⟨n,hn⟩:∃ n,l.length=n:=⟨_,rfl⟩;have hr:Run w F w [blkC g 165 #[.slice A n c],ownC 220 3 (.slice A n c) n (wcs l)]:=by rw [←hn];exact hr
  have Hr:=hI hr;have Hn:=hI hn;rw [hn] at hz;clear h hr he hn;go_enter Tryz.func98,Tryz.ntmps98;go_wp2_with fail;refine (C.out).mono ?_;rintro e w1 ⟨rfl,hk1⟩;have hr1:=(Hr.out.pure hk1).addBlk #[.int .i64 who,.int .i64 place,.bool false] 220;have Hr1:=hI hr1;have hc:=((Hr.out.pure hk1).blk 0 rfl).cell;clear hr1;go_wp2_with (first|(at_builtin;refine held ?_));refine unheld ?_;refine Run.app Hr1.out 2 rfl Tryz.underlying163 info_hb rfl (by omega) (Sl.lit w1 #[.int .i64 who,.int .i64 place,.bool false] 220 3 1 _ rfl rfl) (one_wt ⟨who,place,false⟩) (by omega) (by omega) rfl _ _ rfl rfl rfl ?_
  intro v' w' ⟨A',c',hv,_,_⟩ hr2;subst hv;have hr2:Run w F w' [blkC w1.heap.size 220 #[.int .i64 who,.int .i64 place,.bool false],blkC g 165 #[.slice A n c],ownC 220 3 (.slice A' (n+1) c') (n+1) (wcs l++Wt.cells ⟨who,place,false⟩)]:=hr2;have hr3:Run w F (w'.setCell ⟨g,0,none⟩ (.slice A' (n+1) c')) [blkC w1.heap.size 220 #[.int .i64 who,.int .i64 place,.bool false],blkC g 165 #[.slice A' (n+1) c'],ownC 220 3 (.slice A' (n+1) c') (n+1) (wcs l++Wt.cells ⟨who,place,false⟩)]:=hr2.set 1 rfl 0 _
  have hf:=(hr2.blk 1 rfl).frozen;have hc2:=(hr2.blk 1 rfl).cell;have Hr3:=hI (hr3.drop 0);clear hr2 hr3;go_wp2;go_ret;refine ⟨rfl,⟨A',c',?_⟩,Hr3.out.kept⟩;have:=Hr3.out.star;rw [←wcs_snoc] at this;have hl:(l++[(⟨who,place,false⟩:Wt)]).length=n+1:=by simp [Hn.out]
  unfold hbL;rw [hl];exact this
def wakeK (l:List Wt) (place:Int) (k:Nat):List Wt:=wakeW (l.take k) place++l.drop k
theorem wakeK_len (l:List Wt) (p:Int) (k:Nat):(wakeK l p k).length=l.length:=by simp [wakeK,wakeW];omega
theorem wakeK_at {l:List Wt} {p:Int} {k:Nat} {a:Wt} (h:l[k]? = some a):(wakeK l p k)[k]? = some a:=by
 have hk:=(List.getElem?_eq_some_iff.1 h).1;unfold wakeK wakeW;rw [List.getElem?_append_right (by simp;omega)]
 simp [Nat.min_eq_left (Nat.le_of_lt hk),h]
theorem wakeK_succ {l:List Wt} {p:Int} {k:Nat} {a:Wt} (h:l[k]? = some a):wakeK l p (k+1)=(wakeK l p k).set k (if a.place=p then { a with woken:=true } else a):=by
 have hk:=(List.getElem?_eq_some_iff.1 h).1;obtain ⟨hk1,hk2⟩:=List.getElem?_eq_some_iff.1 h;unfold wakeK wakeW;rw [List.set_append,if_neg (by simp;omega)]
 have hd:l.drop k=a::l.drop (k+1):=by rw [←hk2];exact List.drop_eq_getElem_cons hk1
 rw [hd,List.take_add_one,h];simp [Nat.min_eq_left (Nat.le_of_lt hk)]
theorem wakeK_same {l:List Wt} {p:Int} {k:Nat} {a:Wt} (h:l[k]? = some a) (hp:¬a.place=p∨a.woken=true):wakeK l p (k+1)=wakeK l p k:=by
 rw [wakeK_succ h];have ha:(if a.place=p then { a with woken:=true } else a)=a:=by
  split
  ·rename_i h1
   rcases hp with h2|h2
   ·exact absurd h1 h2
   ·rw [←h2]
  ·rfl
 rw [ha];refine List.ext_getElem? fun i=>?_;rw [List.getElem?_set]
 split
 ·rename_i hi;subst hi;split
  ·exact (wakeK_at h).symm
  ·rename_i h2;rw [List.getElem?_eq_none (by omega)]
 ·rfl
def WakeP (F:Nat→Prop) (g:Nat) (l:List Wt) (w:World) (e:Ending) (w':World):Prop :=
 ∃ v,e = .returned v∧Hb w' (fun b=>F b∨w.heap.size≤b) g l∧Kept F w w'
theorem info_hi:(Tryz.prog.info? 3).map (fun i=>(i.zero,i.size,i.bytes))=some (some (.int .i64 0),1,8):=by kernel_rfl
theorem hb_wake (w:World) (F:Nat→Prop) (g:Nat) (l:List Wt) (place:Int) (h:Hb w F g l) (hz:l.length≤100000) :
  Calls Tryz.prog 85 #[.pointer (some ⟨g,0,none⟩),.int .i64 place] w (WakeP F g (wakeW l place) w):=by
 obtain ⟨A,c,h⟩:=h;obtain ⟨n,hn⟩:∃ n,l.length=n:=⟨_,rfl⟩;have hr0:=(Run.start h).addNil 3 1;have hr:Run w F w [ownC 3 1 (.slice none 0 0) 0 [],blkC g 165 #[.slice A n c],ownC 220 3 (.slice A n c) n (wcs (wakeK l place 0))]:=by rw [←hn];exact hr0
 have hc:=(hr.blk 1 rfl).cell;have Hr:=hI hr;have Hn:=hI hn;rw [hn] at hz;clear h hr hr0 hn;go_enter Tryz.func85,Tryz.ntmps85;go_wp2
 go_loopw [5,13] (fun v i wr=>∃ (k m:Nat) (A':Option Addr) (c':Nat) (ys:List Value),i = .int .i64 k∧k≤n∧v = .slice A' m c'∧m≤k∧Hid (Run w F wr [ownC 3 1 (.slice A' m c') m ys,blkC g 165 #[.slice A n c],ownC 220 3 (.slice A n c) n (wcs (wakeK l place k))])) (fun _ i _=>n-(intOf i).toNat)
 case atStart=>exact ⟨0,0,none,0,[],rfl,Nat.zero_le _,rfl,Nat.le_refl _,Hr⟩
 case round =>
  obtain ⟨k,m,A',c',ys,rfl,hkn,rfl,hmk,hr⟩:=hrel;clear hc
  by_cases hlt:k<n
  ·obtain ⟨a,ha⟩:∃ a,l[k]? = some a:=⟨_,List.getElem?_eq_getElem (by have:=Hn.out;omega)⟩
   obtain ⟨gr,rfl⟩:=(hr.out.own 2 rfl).head (by omega)
   have hc:=(hr.out.blk 1 rfl).cell;have hcw:=wt_at (hr.out.own 2 rfl).sl (wakeK_at ha);rw [Nat.zero_add] at hcw;obtain ⟨hc0,hc1,hc2⟩:=hcw;have Ha:=hI ha;have hki:(k:Int)<(n:Int):=by omega
   obtain ⟨who,pl,wk⟩:=a;simp only at hc0 hc1 hc2;clear ha
   by_cases hp:pl=place
   ·cases wk with
    | true =>
     have he:=wakeK_same (p:=place) Ha.out (.inr rfl);have Hr2:Hid (Run w F wr [ownC 3 1 (.slice A' m c') m ys,blkC g 165 #[.slice (some ⟨gr,0,none⟩) n c],ownC 220 3 (.slice (some ⟨gr,0,none⟩) n c) n (wcs (wakeK l place (k+1)))]):=by rw [he];exact hr
     subst hp;clear he;go_wp2
     go_roundw
     case measure=>simp [intOf];omega
     case rel=>exact ⟨k+1,m,A',c',ys,by first|rfl|go_num,by omega,rfl,by omega,Hr2⟩
    | false =>
     have he:wakeK l place (k+1)=(wakeK l place k).set k ⟨who,pl,true⟩:=by rw [wakeK_succ Ha.out];simp [hp]
     have he2:wcs (wakeK l place (k+1))=(wcs (wakeK l place k)).set (k*3+2) (.bool true):=by
      rw [he];exact fm_set Wt.cells_len (wakeK_at Ha.out) (by omega) rfl
     have hf2:=((hr.out.own 2 rfl)).frozen1 (k*3+2);have hr2:Run w F (wr.setCell ⟨gr,k*3+2,none⟩ (.bool true)) [ownC 3 1 (.slice A' m c') m ys,blkC g 165 #[.slice (some ⟨gr,0,none⟩) n c],ownC 220 3 (.slice (some ⟨gr,0,none⟩) n c) n (wcs (wakeK l place (k+1)))]:=by rw [he2];exact hr.out.setN 2 rfl (k*3+2) (.bool true)
     have Hr2:=hI hr2;have hcb:=(wt_at (hr2.own 2 rfl).sl (show (wakeK l place (k+1))[k]? = some ⟨who,pl,true⟩ by rw [he,List.getElem?_set_self (by rw [wakeK_len,Hn.out];omega)])).1
     rw [Nat.zero_add] at hcb;simp only at hcb;subst hp;clear he he2 hr2;go_wp2_with (first|(at_builtin;refine held ?_));refine unheld ?_;have hlit:=Sl.lit (wr.setCell ⟨gr,k*3+2,none⟩ (.bool true)) #[.int .i64 who] 3 1 1 _ rfl rfl;rw [show (wr.setCell ⟨gr,k*3+2,none⟩ (.bool true)).heap.size=wr.heap.size by simp] at hlit
     refine (Hr2.out.alloc _).app 0 rfl Tryz.underlying84 info_hi rfl (by omega) hlit (fun u hu=>by simp at hu;subst hu;rfl) (by omega) (by omega) rfl _ _ rfl rfl rfl ?_
     intro v' w' ⟨A2,c2,hv,_,_⟩ hr3;subst hv;have Hr3:=hI hr3;clear hr3;go_wp2
     go_roundw
     case measure=>simp [intOf];omega
     case rel=>exact ⟨k+1,m+1,A2,c2,_,by first|rfl|go_num,by omega,rfl,by omega,Hr3⟩
   ·have hp':(pl == place)=false:=by simpa using hp
    have he:=wakeK_same (p:=place) Ha.out (.inl hp);have Hr2:Hid (Run w F wr [ownC 3 1 (.slice A' m c') m ys,blkC g 165 #[.slice (some ⟨gr,0,none⟩) n c],ownC 220 3 (.slice (some ⟨gr,0,none⟩) n c) n (wcs (wakeK l place (k+1)))]):=by rw [he];exact hr
    clear he hp;go_wp2
    go_roundw
    case measure=>simp [intOf];omega
    case rel=>exact ⟨k+1,m,A',c',ys,by first|rfl|go_num,by omega,rfl,by omega,Hr2⟩
  ·obtain rfl:k=n:=by omega
   go_wp2;go_ret;refine ⟨_,rfl,⟨A,c,?_⟩,hr.out.kept⟩;have h1:=(hr.out.drop 0).star;have h2:wakeK l place k=wakeW l place:=by unfold wakeK;rw [←Hn.out,List.take_length,List.drop_length,List.append_nil]
   rw [h2] at h1;have h3:(wakeW l place).length=k:=by simp [wakeW,Hn.out]
   unfold hbL;rw [h3];exact h1
end
section
open Go.RowKit
def Al.cells (a:Al):List Value:=[.int .i64 a.who,.int .i64 a.tm]
def acs (l:List Al):List Value:=l.flatMap Al.cells
def ckL (g:Nat) (now:Int) (A:Option Addr) (n c:Nat) (l:List Al):List Ch:=[blkC g 168 #[.int .i64 now,.slice A n c],ownC 229 2 (.slice A n c) n (acs l)]
def Ck (w:World) (F:Nat→Prop) (g:Nat) (now:Int) (l:List Al):Prop:=∃ A c,Star w F (ckL g now A l.length c l)
def ckC (g:Nat) (now:Int) (l:List Al):Ch:=⟨fun w F=>Ck w F g now l,fun ⟨A,c,h⟩ hF=>⟨A,c,h.imp hF⟩,fun ⟨A,c,h⟩ hk hd=>⟨A,c,h.kept hk hd⟩⟩
theorem ck_new (w:World):Calls Tryz.prog 54 #[] w fun e w'=>e = .returned (.pointer (some ⟨w.heap.size,0,none⟩))∧Ck w' (fun b=>w.heap.size≤b) w.heap.size 0 []∧Pure w w':=by
 have hr:Run w (fun _=>False) (w.alloc (.cells #[.int .i64 0,.slice none 0 0] 168)) (ckL w.heap.size 0 none 0 0 []) :=
  ((Run.start (F:=fun _=>False) (w:=w) (Ps:=[]) trivial).addNil 229 2).addBlk _ _
 have Hr:=hI hr;clear hr;go_enter Tryz.func54,Tryz.ntmps54;go_wp2;go_ret;exact cz60
end
section
open Go.RowKit
attribute [local go_sem] Oper.semAt_some
def encG (x:Cg):Array Value:=#[.agg #[.int .i64 x.token,.string x.uid]]
theorem cg_at {w:World} {F:Nat→Prop} {b o n:Nat} {l:List Cg} (h:Sl w F 2 (some ⟨b,o,none⟩) n (gcs l)) {i:Nat} {e:Cg} (he:l[i]? = some e) :
  w.cell? ⟨b,o+i*2,none⟩=some (.int .i64 e.token)∧w.cell? ⟨b,o+i*2+1,none⟩=some (.string e.uid):=by
 have hl:=gcs_length l;have hn:n=l.length:=by have:=h.1;omega
 have hi:=(List.getElem?_eq_some_iff.1 he).1;obtain ⟨b',o',e',_,_,hc⟩:=h.2 (by omega)
 injection e' with e'
 injection e' with e1 e2
 subst e1 e2;have key:∀ j,j<2→w.cell? ⟨b,o+(i*2+j),none⟩=e.cells[j]?:=fun j hj=>by
  rw [hc (i*2+j) (by omega)]
  exact fm_get Cg.cells 2 (fun _=>rfl) l i j e he hj
 exact ⟨key 0 (by omega),key 1 (by omega)⟩
theorem rb_back (w:World) (g:Nat):Calls Tryz.prog 173 #[.pointer (some ⟨g,0,none⟩)] w fun e w' =>
  e = .returned (.func (.func 210) #[] #[.pointer (some ⟨w.heap.size,0,none⟩)])∧w'=w.alloc (.cells #[.pointer (some ⟨g,0,none⟩)] 176):=by
 go_enter Tryz.func173,Tryz.ntmps173
 go_wp2;go_ret;exact ⟨rfl,rfl⟩
theorem rb_back1 {α:Type} (vv:α→Cg) (n:Nat) (hn:1≤n) (l Br g:Nat) (S F:Nat→Prop) (most:Int) (ls:List α) (J Jx:List α→World→Prop) (W:World) (hJ:AbidesFrom W.heap.size J)
  (hY:∀ pre x W,J pre W→pre.length<ls.length→YieldAt Fence.wide (n-1) Tryz.prog l (encG (vv x)) W fun e W' =>
   (e = .returned (.bool true)∧J (pre++[x]) W'∧Kept S W W')∨(e = .returned (.bool false)∧Jx (pre++[x]) W'))
  (hm:Blk W Br 176 #[.pointer (some ⟨g,0,none⟩)]) (hmS:¬S Br) (h:Ri W F g most (ls.map vv)) (hz:ls.length≤100000) (hd:∀ b,b<W.heap.size→F b→¬S b) (h0:J [] W) :
  CallsIn Fence.wide n Tryz.prog 210 #[.func (.yield l) #[] #[],.pointer (some ⟨Br,0,none⟩)] W fun e W'=>(∃ v,e = .returned v) ∧
   ((∃ ys,ys=ls.reverse∧J ys W')∨(∃ pre,pre <+: ls.reverse∧Jx pre W')):=by
 obtain ⟨A,c,hst⟩:=h;have hr:=Run.start hst;have hcm:=hm.cell;have hcg:=(hr.blk 0 rfl).cell;have Hst:=hI hst;have Hm:=hI hm;have HY:=hI hY;obtain ⟨nn,hnn⟩:∃ nn,ls.length=nn:=⟨_,rfl⟩;have hnm:(ls.map vv).length=nn:=by rw [List.length_map,hnn]
 rw [hnm] at hcg;rw [hnn] at hz;have Hnm:=hI hnm;have Hnn:=hI hnn;have hwr:IntKind.i64.wrap ((nn:Int)-1)=(nn:Int)-1:=by rw [IntKind.wrap_i64];omega
 clear hst hr hm hY hnn hnm;refine callsIn_wide.2 ?_;go_enter Tryz.func210,Tryz.ntmps210;go_wp2;clear hcg hcm
 go_loopw [3] (fun i wr=>∃ m:Nat,i = .int .i64 ((nn:Int)-1-m)∧m≤nn∧Hid (J (ls.reverse.take m) wr∧Kept S W wr)) (fun i _=>(intOf i+1).toNat)
 case atStart=>exact ⟨0,by simp,Nat.zero_le _,⟨h0,Kept.refl _ _⟩⟩
 case round =>
  obtain ⟨m,rfl,hm,hr⟩:=hrel;obtain ⟨hJm,hkm⟩:=hr.out;have hmb:=(Hm.out.kept hkm hmS).cell;have hst:=Run.start (Star.kept Hst.out hkm hd);have hcg:=(hst.blk 0 rfl).cell;have hsl:Sl wr (fun b=>F b∨wr.heap.size≤b) 2 A nn (gcs (ls.map vv)):=by rw [←Hnm.out];exact OwnO.sl (hst.get (P:=ownOC 189 2 (.slice A (ls.map vv).length c) (ls.map vv).length (gcs (ls.map vv))) 1 rfl)
  rw [Hnm.out] at hcg
  by_cases hlt:m<nn
  ·obtain ⟨j,hj⟩:∃ j:Nat,nn-1-m=j:=⟨_,rfl⟩
   have hji:(nn:Int)-1-(m:Int)=(j:Nat):=by omega
   obtain ⟨x,hx⟩:∃ x,ls[j]? = some x:=⟨_,List.getElem?_eq_getElem (by have:=Hnn.out;omega)⟩
   have hxr:ls.reverse[m]? = some x:=by
    rw [List.getElem?_reverse (by have:=Hnn.out;omega),←hx]
    congr 1
    have:=Hnn.out;omega
   obtain ⟨gb,go,rfl,_,_,_⟩:=hsl.2 (by omega)
   obtain ⟨hc4,hc5⟩:=cg_at hsl (i:=j) (e:=vv x) (by rw [List.getElem?_map,hx];rfl)
   have hjn:(j:Int)<(nn:Int):=by omega
   have htk:ls.reverse.take m++[x]=ls.reverse.take (m+1):=by rw [List.take_add_one,hxr];rfl
   have hpr1:ls.reverse.take (m+1) <+: ls.reverse:=List.take_prefix _ _;have hlp:(ls.reverse.take m).length<ls.length:=by rw [List.length_take,List.length_reverse];have:=Hnn.out;omega
   obtain ⟨fn,tmps,assign,body,hy,hR⟩:=HY.out _ x wr hJm hlp;rw [htk] at hR;have hR2:RoundIn Fence.wide (n-1) Tryz.prog l fn tmps assign body wr fun e W'=>∃ b,e = .returned (.bool b)∧Hid ((b=true∧J (ls.reverse.take (m+1)) W'∧Kept S wr W')∨(b=false∧Jx (ls.reverse.take (m+1)) W')):=hR.mono (fun e W' h=>by
    rcases h with ⟨h1,h2,h3⟩|⟨h1,h2⟩
    ·exact ⟨true,h1,hI (.inl ⟨rfl,h2,h3⟩)⟩
    ·exact ⟨false,h1,hI (.inr ⟨rfl,h2⟩)⟩)
   have HR:=hI hR2;have hy':(Instr.yield l #[.agg #[.int .i64 (vv x).token,.string (vv x).uid]]).run Tryz.prog wr = .ok (.round l fn tmps assign body) wr:=hy;have Htk:=hI htk;have Hp1:=hI hpr1;have Hji:=hI hji;rw [hji];clear hst hsl hx hxr htk hpr1 hlp hJm hkm hj hy hR hR2 hji;refine (wpIn_wide (n:=n)).1 ?_
   gi_wp2_with fail
   refine HR.out.mono ?_;rintro e W3 ⟨b,rfl,hb⟩;clear hcg hmb hc4 hc5 hy';rcases hb.out with ⟨rfl,hJ3,hk3⟩|⟨rfl,hJx3⟩
   ·have hk4:=hr.out.2.same hk3
    have Hb4:Hid (J (ls.reverse.take (m+1)) W3∧Kept S W W3):=⟨hJ3,hk4⟩;have hwj:IntKind.i64.wrap ((j:Int)-1)=(j:Int)-1:=by rw [IntKind.wrap_i64];omega
    clear hJ3 hk3 hk4 hb hr
    gi_wp2
    go_wp2
    go_roundw
    case rel =>
     refine ⟨m+1,?_,by omega,Hb4⟩
     have:=Hji.out
     first|(congr 1;omega)|go_num
    case measure=>simp [intOf]
   ·gi_wp2
    go_wp2;refine bodyPost_ret (results_none rfl _ _ _) rfl ?_;exact ⟨⟨_,rfl⟩,.inr ⟨_,Hp1.out,hJx3⟩⟩
  ·obtain rfl:m=nn:=by omega
   have hji:(m:Int)-1-(m:Int) = -1:=by omega
   rw [hji];clear hst hsl hcg hmb hji;go_wp2
   go_end0
   refine ⟨⟨_,rfl⟩,.inl ⟨_,rfl,?_⟩⟩;have h1:=hr.out.1
   rwa [List.take_of_length_le (by rw [List.length_reverse];have:=Hnn.out;omega)] at h1
theorem rb_stops {α:Type} (vv:α→Cg) (n:Nat) (hn:1≤n) (Br g:Nat) (S F:Nat→Prop) (most:Int) (ls:List α) (w:World)
  (hm:Blk w Br 176 #[.pointer (some ⟨g,0,none⟩)]) (hmS:¬S Br) (h:Ri w F g most (ls.map vv)) (hz:ls.length≤100000) (hd:∀ b,F b→¬S b) :
  SeqStopsK Fence.wide n Tryz.prog 210 #[.pointer (some ⟨Br,0,none⟩)] (fun x=>encG (vv x)) (Kept S) (fun ys=>ys=ls.reverse) (fun pre=>pre <+: ls.reverse) ls.length w :=
 fun l J Jx W hW hJ _ hY h0 =>
  have hk:Pure w W:=Pure.of_below hW
  rb_back1 vv n hn l Br g S F most ls J Jx W hJ hY (hm.kept hk (fun h=>h)) hmS ((riC g most (ls.map vv)).kept h hk (fun _ _ _ h=>h)) hz (fun b _=>hd b) h0
end
end Go.Proofs.YtjfpfeapbcjioaaGreat
